/-
  What the document's Set, Lay and Store do.
-/
import Derived.Test.YtcjakmnplkeldaaDoorRMmu
import Derived.RegionTactic
import Derived.BigRegion
import Derived.Outline
namespace Go.Proofs.YtcjakmnplkeldaaDoor
open Go.RowKit
set_option linter.unusedVariables false
set_option linter.unusedSimpArgs false

def one1 (b : Nat) : ByteArray := ⟨#[UInt8.ofNat b]⟩
theorem conv_cell (b : Nat) (hb : b < 256) (W : World) (G : Nat) (hG : W.cell? ⟨G, 0, none⟩ = some (.int .u8 b)) : (convert 74 9 (.slice (some ⟨G, 0, none⟩) 1 1)).run Tryd.prog W = .ok (.string (one1 b)) W := by
  have := run_convert_bytes_arg (P := Tryd.prog) W 74 5 Tryd.underlying74 Tryd.underlying5 G 0 1 1 [(b : Int)] rfl (fun i hi => by
    have h0 : i = 0 := by simp at hi; omega
    subst h0
    exact hG) 9 Tryd.underlying9
  rw [this]
  congr 1
theorem conv_drew (b : Nat) (hb : b < 256) (W : World) : (convert 74 9 (.slice (some ⟨W.heap.size, 0, none⟩) 1 1)).run Tryd.prog (W.alloc (.cells #[.int .u8 b] 5)).drew = .ok (.string (one1 b)) (W.alloc (.cells #[.int .u8 b] 5)).drew :=
  conv_cell b hb _ _ ((Blk.new W _ _).drew.cell 0 rfl)
/-- memory with another byte -/
def setR (xs : List ByteArray) (l : List Pte) (a b : Nat) : Option (List ByteArray) :=
  match findR l a 1 true with
  | some (f, p) => match frame xs f with
    | some s => some (xs.set f.toNat (putB s p (one1 b)))
    | none => none
  | none => none

set_option maxHeartbeats 2000000 in
theorem set_any (A : Option Addr) (c : Nat) (xs : List ByteArray) (l : List Pte) (a b : Nat) (w : World) (hx : xs.length ≤ 1000000) (h : RowAt w w.heap.size A (xs.map .string)) (hl : l.length = 16) (ha : a < 4294967296) (hb : b < 256) :
    Calls Tryd.prog 70 #[.slice A xs.length c, .agg (pteL l).toArray, .int .u32 a, .int .u8 b] w (StorePost (setR xs l a b) w) := by
  obtain ⟨i0, hi, hz0, hz1, hz2⟩ := info_parts str_info
  have HR := Lib.hid h
  have HL := Lib.hid hl
  have HA := Lib.hid ha
  have hb' : (b : Int) < 256 := by omega
  clear h hl ha hb
  go_enter Tryd.func70, Tryd.ntmps70
  go_wp2_with (refine load_blk 29 (.tmp 5) w.heap.size 29 (pteL l).toArray _ rfl rfl rfl (Blk.new w _ _) Tryd.underlying29 rfl (space_size HL.out) ?_)
  refine (rfind_any l a 1 true _ HL.out (Or.inl rfl) HA.out).mono ?_
  rintro e w1 ⟨rfl, hb1⟩
  have B1 : Hid (Below w.heap.size w w1) := ((Below.refl _ _).alloc (Nat.le_refl _) _).trans (hb1.mono (by simp))
  clear hb1
  cases hf : findR l a 1 true with
  | none =>
    have HL0 := Lib.hid (show setR xs l a b = none by unfold setR; rw [hf])
    clear hf
    unfold findE
    go_wp2
    go_ret2
    rw [HL0.out]
    exact ⟨rfl, B1.out⟩
  | some fp =>
    obtain ⟨f, p⟩ := fp
    have hp := findR_place (Or.inl rfl) hf
    have HF := Lib.hid hf
    clear hf
    unfold findE
    go_wp2_with fail
    refine (rthere_any A c xs f _ hx ((HR.out.below B1.out).mono B1.out.size)).mono ?_
    rintro e w' ⟨rfl, rfl⟩
    cases hfr : frame xs f with
    | none =>
      have HL0 := Lib.hid (show setR xs l a b = none by unfold setR; rw [HF.out]; simp only [hfr])
      clear hfr
      go_wp2
      go_ret2
      rw [HL0.out]
      exact ⟨rfl, B1.out⟩
    | some s =>
      have HL0 := Lib.hid (show setR xs l a b = some (xs.set f.toNat (putB s p (one1 b))) by unfold setR; rw [HF.out]; simp only [hfr])
      obtain ⟨k, rfl, hk, hks, hs⟩ := frame_some hfr
      rw [Int.toNat_natCast] at HL0
      have HKS := Lib.hid hks
      clear hks
      have i1 : (0 : Int) ≤ (k : Int) := by omega
      have i2 : (k : Int) < (xs.length : Int) := by omega
      clear hfr
      obtain ⟨bl, o, rfl, hbl, hc⟩ := HR.out.at_ (by simp; omega)
      have HC : Hid (∀ (j : Nat) (u : Value), (xs.map Value.string)[j]? = some u → w1.cell? ((⟨bl, o, none⟩ : Addr).add j) = some u) := fun j u hu => by
        rw [add_addr]; exact (B1.out.cell (p := ⟨bl, o + j, none⟩) hbl).trans (hc j u hu)
      clear hc
      go_wp2_with (first | (at_builtin; refine wpList_append_own _ rfl (.tmp 29) (.tmp 30) _ rfl w1.heap.size 9 i0 (.string ⟨#[]⟩) 1 16 Tryd.underlying30 hi hz0 hz1 hz2 rfl (by decide) _ 0 [] rfl ?c0 ⟨bl, o, none⟩ xs.length c (xs.map .string) rfl ?c6 ?c1 ?c2 ?c3 ?c4 ?c5 ?_))
      case c0 => exact ⟨by simp, .inr ⟨w1.heap.size, 0, #[], rfl, Nat.le_refl _, heap_alloc_new w1 _, Nat.le_refl _, by unfold maxLen; omega, rfl, rfl⟩⟩
      case c6 => simp
      case c1 => exact fun j u hu => cell_alloc_some (HC.out j u hu)
      case c2 => intro u hu; simp at hu; obtain ⟨x, _, rfl⟩ := hu; rfl
      case c3 => unfold maxLen; omega
      case c4 => omega
      case c5 => simp
      intro v' w3 hown hgrow _
      obtain ⟨g, cap, hlv, hgb⟩ : ∃ g cap, v' = .slice (some ⟨g, 0, none⟩) xs.length cap ∧ w1.heap.size ≤ g := by
        rcases hown.2 with ⟨_, hn⟩ | ⟨g, cap, cur, hv, hb, _⟩
        · omega
        · exact ⟨g, cap, hv, hb⟩
      subst hlv
      have hb3 : Below w1.heap.size w1 w3 := ((Below.refl _ _).alloc (Nat.le_refl _) _).grown hgrow (by simp) (by intro k hk; simp [Value.ownBlock] at hk; omega)
      have B2 := Lib.hid (B1.out.trans (hb3.mono B1.out.size))
      have OWN := Lib.hid hown
      have g1 : w3.cell? ⟨g, k, none⟩ = some (.string s) := by rw [hown.cellAt k (by omega)]; simp [hk, HKS.out]
      have fu := hown.frozenAt k
      have hgz : g < w3.heap.size := World.block_lt_of_cell? _ _ g1
      have OWN2 := Lib.hid (own_below hown (((Below.refl w3.heap.size w3).alloc (Nat.le_refl _) (.cells #[.int .u8 b] 5)).drew))
      have A1 := OWN2.out.frozenAt k
      have A2 : (w3.alloc (.cells #[.int .u8 b] 5)).drew.cell? ⟨g, k, none⟩ = some (.string s) := by rw [OWN2.out.cellAt k (by omega)]; simp [hk, HKS.out]
      have kc := conv_drew b (by omega) w3
      have hob : (one1 b).size ≤ 1 := Nat.le_refl 1
      have hob2 : 1 ≤ (one1 b).size := Nat.le_refl 1
      generalize one1 b = ob at kc HL0 hob hob2
      have j1 : (p : Int) ≤ (s.size : Int) := by omega
      have j2 : (p : Int) + 1 ≤ (s.size : Int) := by omega
      have j3 : ((p : Int) + 1).toNat = p + 1 := by omega
      have k0 : (0 : Int) ≤ (p : Int) := by omega
      have k1 : (0 : Int) ≤ (p : Int) + 1 := by omega
      have k2 : IntKind.i64.wrap ((p : Int) + 1) = (p : Int) + 1 := IntWalk.i64_in _ (by omega)
      have hs1 : 128 ≤ s.size := by omega
      have hs2 : s.size ≤ 128 := by omega
      clear hown hb3 hgrow hs
      go_wp2
      have ad1 := fun (w : World) => run_string_add_sum (P := Tryd.prog) (w := w) (s.extract 0 p) ob (by rw [ByteArray.size_extract]; show _ ≤ 9223372036854775807; omega)
      have ad2 := fun (w : World) => run_string_add_sum (P := Tryd.prog) (w := w) (s.extract 0 p ++ ob) (s.extract (p + 1) s.size) (by rw [ByteArray.size_append, ByteArray.size_extract, ByteArray.size_extract]; show _ ≤ 9223372036854775807; omega)
      go_region
      all_goals
        generalize hw : World.drew _ = w4
        have hst := OWN.out.stored k (.string (s.extract 0 p ++ ob ++ s.extract (p + 1) s.size))
        have hpb : putB s p ob = s.extract 0 p ++ ob ++ s.extract (p + 1) s.size := by unfold putB; rw [show ob.size = 1 by omega]
        have OWF : Hid (w4.ownsRow w.heap.size 9 1 (.slice (some ⟨g, 0, none⟩) xs.length cap) xs.length ((xs.set k (putB s p ob)).map .string)) := by
          show World.ownsRow _ _ _ _ _ _ _
          rw [← hw, hpb, List.map_set]
          exact own_base (own_below hst.1 (((Below.refl _ _).alloc (Nat.le_refl _) _).drew)) B1.out.size
        have BF : Hid (Below w.heap.size w w4) := by
          show Below _ _ _
          rw [← hw]
          have hgB : w.heap.size ≤ g := Nat.le_trans B1.out.size hgb
          have h1 : Below w.heap.size w (w3.setCell ⟨g, k, none⟩ (.string (s.extract 0 p ++ ob ++ s.extract (p + 1) s.size))) := B2.out.setCell hgB _
          exact (h1.alloc h1.size _).drew
        clear hst hpb hw ad1 ad2 kc A1 A2
        go_wp2
        go_ret2
        rw [HL0.out]
        exact ⟨g, cap, by rw [List.length_set]; rfl, by rw [List.length_set]; exact OWF.out, BF.out⟩
end Go.Proofs.YtcjakmnplkeldaaDoor
