/-
  What mmu.Load, put and Store do.
-/
import Derived.Test.YtcjakmnplkeldaaDoorMmu
namespace Go.Proofs.YtcjakmnplkeldaaDoor
open Go.RowKit
set_option linter.unusedVariables false
set_option linter.unusedSimpArgs false

/-- a number of memory -/
def loadR (xs : List ByteArray) (l : List Pte) (a sz : Nat) : Option Nat :=
  match findR l a sz false with
  | some (f, p) => match frame xs f with
    | some s => some (leN ((s.data.toList.drop p).take sz))
    | none => none
  | none => none
def loadE : Option Nat → Ending
  | some v => .returned (.tuple #[.int .u32 (v : Nat), .bool true])
  | none => .returned (.tuple #[.int .u32 0, .bool false])
def LoadPost (r : Option Nat) (w : World) (e : Ending) (w' : World) : Prop := e = loadE r ∧ Below w.heap.size w w'
theorem findR_place {l : List Pte} {a sz : Nat} {wr : Bool} {f : Int} {p : Nat} (hsz : sz = 1 ∨ sz = 4) (h : findR l a sz wr = some (f, p)) : p + sz ≤ 128 := by
  unfold findR at h
  split at h
  · split at h
    · rename_i hh
      injection h with h
      injection h with _ h
      obtain ⟨_, hm, _⟩ := hh
      rcases hsz with rfl | rfl <;> omega
    · cases h
  · cases h
theorem leN_four (l : List UInt8) (n : Nat) (hn : n ≤ 4) : leN (l.take n) < 4294967296 := by
  have h := leN_lt (l.take n)
  have h2 : (l.take n).length ≤ 4 := by simp; omega
  have h3 : 256 ^ (l.take n).length ≤ 256 ^ 4 := Nat.pow_le_pow_right (by omega) h2
  omega

theorem space_info : (Tryd.prog.info? 29).map (·.size) = some 48 := by kernel_rfl
theorem pteL_len (l : List Pte) : (pteL l).length = 3 * l.length := by
  induction l with
  | nil => rfl
  | cons p l ih => simp only [pteL, List.flatMap_cons, List.length_append, List.length_cons, List.length_nil] at ih ⊢; omega
theorem space_size {l : List Pte} (hl : l.length = 16) : (Tryd.prog.info? 29).map (·.size) = some (pteL l).toArray.size := by
  rw [space_info]; simp [pteL_len, hl]

set_option maxHeartbeats 1000000 in
theorem load_any (A : Option Addr) (c : Nat) (xs : List ByteArray) (l : List Pte) (a sz : Nat) (w : World) (hx : xs.length ≤ 1000000) (h : RowAt w w.heap.size A (xs.map .string)) (hl : l.length = 16) (hsz : sz = 1 ∨ sz = 4) (ha : a < 4294967296) :
    Calls Tryd.prog 20 #[.slice A xs.length c, .agg (pteL l).toArray, .int .u32 a, .int .i64 sz] w (LoadPost (loadR xs l a sz) w) := by
  have HR := Lib.hid h
  have HS := Lib.hid hsz
  have HL := Lib.hid hl
  have HA := Lib.hid ha
  clear h hsz hl ha
  go_enter Tryd.func20, Tryd.ntmps20
  go_wp2_with (refine load_blk 29 (.tmp 5) w.heap.size 29 (pteL l).toArray _ rfl rfl rfl (Blk.new w _ _) Tryd.underlying29 rfl (space_size HL.out) ?_)
  refine (find_any l a sz false _ HL.out HS.out HA.out).mono ?_
  rintro e w1 ⟨rfl, hb1⟩
  have B1 : Hid (Below w.heap.size w w1) := ((Below.refl _ _).alloc (Nat.le_refl _) _).trans (hb1.mono (by simp))
  clear hb1
  cases hf : findR l a sz false with
  | none =>
    have HL0 := Lib.hid (show loadR xs l a sz = none by unfold loadR; rw [hf])
    clear hf
    unfold findE
    go_wp2
    go_ret2
    rw [HL0.out]
    exact ⟨rfl, B1.out⟩
  | some fp =>
    obtain ⟨f, p⟩ := fp
    have hp := findR_place HS.out hf
    have HF := Lib.hid hf
    clear hf
    unfold findE
    go_wp2_with fail
    refine (there_any A c xs f _ hx ((HR.out.below B1.out).mono B1.out.size)).mono ?_
    rintro e w' ⟨rfl, rfl⟩
    cases hfr : frame xs f with
    | none =>
      have HL0 := Lib.hid (show loadR xs l a sz = none by unfold loadR; rw [HF.out]; simp only [hfr])
      clear hfr
      go_wp2
      go_ret2
      rw [HL0.out]
      exact ⟨rfl, B1.out⟩
    | some s =>
      have HL0 := Lib.hid (show loadR xs l a sz = some (leN ((s.data.toList.drop p).take sz)) by unfold loadR; rw [HF.out]; simp only [hfr])
      obtain ⟨k, rfl, hk, rfl, hs⟩ := frame_some hfr
      obtain ⟨b, o, rfl, hb, hc⟩ := HR.out.at_ (by simp; omega)
      have g1 : w1.cell? ⟨b, o + k, none⟩ = some (.string xs[k]) := (B1.out.cell (p := ⟨b, o + k, none⟩) hb).trans (hc k _ (by simp [hk]))
      have i1 : (0 : Int) ≤ (k : Int) := by omega
      have i2 : (k : Int) < (xs.length : Int) := by omega
      have j1 : (p : Int) + (sz : Int) ≤ (xs[k].size : Int) := by omega
      have j2 : ((p : Int) + (sz : Int)).toNat = p + sz := by omega
      have j3 : p + sz ≤ 128 := hp
      have hsz4 : sz ≤ 4 := by rcases HS.out with h | h <;> omega
      have HSS := Lib.hid hs
      clear hfr hc hs hp
      go_wp2_with fail
      refine (get_any _ _ (by simp [ByteArray.size_extract]; omega)).mono ?_
      rintro e w' ⟨rfl, rfl⟩
      have hlt : leN ((xs[k].extract p (p + sz)).data.toList.take 8) < 4294967296 ∧ leN ((xs[k].extract p (p + sz)).data.toList.take 8) = leN ((xs[k].data.toList.drop p).take sz) := by
        have e1 : (xs[k].extract p (p + sz)).data.toList.take 8 = (xs[k].data.toList.drop p).take sz := by
          rw [Lib.extract_data, show p + sz - p = sz by omega, List.take_take, show min 8 sz = sz by omega]
        rw [e1]
        exact ⟨leN_four _ _ hsz4, rfl⟩
      generalize leN ((xs[k].extract p (p + sz)).data.toList.take 8) = v at hlt ⊢
      obtain ⟨hv, hve⟩ := hlt
      have HV := Lib.hid hve
      have hv' : (v : Int) < 4294967296 := by omega
      clear hve hv
      go_wp2
      go_ret2
      rw [HL0.out, ← HV.out]
      exact ⟨rfl, B1.out⟩

/-- a frame's bytes with others from a place on -/
def putB (s : ByteArray) (p : Nat) (d : ByteArray) : ByteArray := s.extract 0 p ++ d ++ s.extract (p + d.size) s.size
set_option maxHeartbeats 1000000 in
theorem mput_any (s d : ByteArray) (p : Nat) (w : World) (h : p + d.size ≤ s.size) (hs : s.size ≤ 1000000) :
    Calls Tryd.prog 66 #[.string s, .int .i64 p, .string d] w fun e w' => e = .returned (.string (putB s p d)) ∧ ∃ k, w' = w.drewN k := by
  have e1 : IntKind.i64.wrap ((p : Int) + (d.size : Int)) = (p : Int) + (d.size : Int) := IntWalk.i64_in _ (by omega)
  have e2 : ((p : Int) + (d.size : Int)).toNat = p + d.size := by omega
  have e3 : (0 : Int) ≤ (p : Int) + (d.size : Int) := by omega
  have e4 : (p : Int) + (d.size : Int) ≤ (s.size : Int) := by omega
  have e5 : (p : Int) ≤ (s.size : Int) := by omega
  have e6 : (0 : Int) ≤ (p : Int) := by omega
  go_enter Tryd.func66, Tryd.ntmps66
  go_wp2
  go_quiet (fail)
  go_wp2
  go_ret
  exact ⟨rfl, _, rfl⟩

/-- memory with a number -/
def storeR (xs : List ByteArray) (l : List Pte) (a sz v : Nat) : Option (List ByteArray) :=
  match findR l a sz true with
  | some (f, p) => match frame xs f with
    | some s => some (xs.set f.toNat (putB s p ⟨(putL v sz).toArray⟩))
    | none => none
  | none => none
def StorePost (r : Option (List ByteArray)) (w : World) (e : Ending) (w' : World) : Prop :=
  match r with
  | some ys => ∃ g c, e = .returned (.tuple #[.slice (some ⟨g, 0, none⟩) ys.length c, .bool true]) ∧ w'.ownsRow w.heap.size 9 1 (.slice (some ⟨g, 0, none⟩) ys.length c) ys.length (ys.map .string) ∧ Below w.heap.size w w'
  | none => e = .returned (.tuple #[.slice none 0 0, .bool false]) ∧ Below w.heap.size w w'

theorem own_base {w : World} {base base' : Nat} {e : TypeId} {size : Nat} {v : Value} {n : Nat} {xs : List Value} (h : w.ownsRow base e size v n xs) (hb : base' ≤ base) : w.ownsRow base' e size v n xs := by
  obtain ⟨h1, h2⟩ := h
  refine ⟨h1, ?_⟩
  rcases h2 with h2 | ⟨g, cap, cur, hv, hg, r⟩
  · exact .inl h2
  · exact .inr ⟨g, cap, cur, hv, by omega, r⟩
theorem put_eq (n k : Nat) (st : ByteArray) (w : World) (hn : n < 18446744073709551616) (hk : k ≤ 8) (h : (⟨(putL n k).toArray⟩ : ByteArray) = st) :
    Calls Tryd.prog 67 #[.int .u64 n, .int .i64 k] w fun e w' => e = .returned (.string st) ∧ Below w.heap.size w w' := by
  subst h; exact put_any n k w hn hk

set_option maxHeartbeats 2000000 in
theorem store_any (A : Option Addr) (c : Nat) (xs : List ByteArray) (l : List Pte) (a sz v : Nat) (w : World) (hx : xs.length ≤ 1000000) (h : RowAt w w.heap.size A (xs.map .string)) (h0 : A = none → xs.length = 0 ∧ c = 0) (hl : l.length = 16) (hsz : sz = 1 ∨ sz = 4) (ha : a < 4294967296) (hv : v < 4294967296) :
    Calls Tryd.prog 58 #[.slice A xs.length c, .agg (pteL l).toArray, .int .u32 a, .int .i64 sz, .int .u32 v] w (StorePost (storeR xs l a sz v) w) := by
  have HR := Lib.hid h
  have HS := Lib.hid hsz
  have HL := Lib.hid hl
  have HA := Lib.hid ha
  have H0 := Lib.hid h0
  have hv' : (v : Int) < 4294967296 := by omega
  clear h hsz hl ha h0 hv
  go_enter Tryd.func58, Tryd.ntmps58
  go_wp2_with (refine load_blk 29 (.tmp 6) w.heap.size 29 (pteL l).toArray _ rfl rfl rfl (Blk.new w _ _) Tryd.underlying29 rfl (space_size HL.out) ?_)
  refine (find_any l a sz true _ HL.out HS.out HA.out).mono ?_
  rintro e w1 ⟨rfl, hb1⟩
  have B1 : Hid (Below w.heap.size w w1) := ((Below.refl _ _).alloc (Nat.le_refl _) _).trans (hb1.mono (by simp))
  clear hb1
  cases hf : findR l a sz true with
  | none =>
    have HL0 := Lib.hid (show storeR xs l a sz v = none by unfold storeR; rw [hf])
    clear hf
    unfold findE
    go_wp2
    go_ret2
    rw [HL0.out]
    exact ⟨rfl, B1.out⟩
  | some fp =>
    obtain ⟨f, p⟩ := fp
    have hp := findR_place HS.out hf
    have HF := Lib.hid hf
    clear hf
    unfold findE
    go_wp2_with fail
    refine (there_any A c xs f _ hx ((HR.out.below B1.out).mono B1.out.size)).mono ?_
    rintro e w' ⟨rfl, rfl⟩
    cases hfr : frame xs f with
    | none =>
      have HL0 := Lib.hid (show storeR xs l a sz v = none by unfold storeR; rw [HF.out]; simp only [hfr])
      clear hfr
      go_wp2
      go_ret2
      rw [HL0.out]
      exact ⟨rfl, B1.out⟩
    | some s =>
      have HL0 := Lib.hid (show storeR xs l a sz v = some (xs.set f.toNat (putB s p ⟨(putL v sz).toArray⟩)) by unfold storeR; rw [HF.out]; simp only [hfr])
      obtain ⟨k, rfl, hk, hks, hs⟩ := frame_some hfr
      rw [Int.toNat_natCast] at HL0
      have HKS := Lib.hid hks
      clear hks
      have hs' : s.size ≤ 128 := by omega
      have hsg : 128 ≤ s.size := by omega
      have i1 : (0 : Int) ≤ (k : Int) := by omega
      have i2 : (k : Int) < (xs.length : Int) := by omega
      have hsz4 : sz ≤ 4 := by rcases HS.out with h | h <;> omega
      clear hfr hs
      go_wp2_with fail
      refine (clone_any A xs.length c xs _ rfl (by omega) ((HR.out.below B1.out).mono B1.out.size) H0.out).mono ?_
      rintro e w2 ⟨lv, rfl, own, hb2⟩
      obtain ⟨g, cap, hlv, hgb⟩ : ∃ g cap, lv = .slice (some ⟨g, 0, none⟩) xs.length cap ∧ w1.heap.size ≤ g := by
        rcases own.2 with ⟨_, hn⟩ | ⟨g, cap, cur, hv, hb, _⟩
        · omega
        · exact ⟨g, cap, hv, hb⟩
      subst hlv
      have B2 := Lib.hid (B1.out.trans (hb2.mono B1.out.size))
      have OWN := Lib.hid own
      have g1 : ∀ u : Ext w2, u.val.cell? ⟨g, k, none⟩ = some (.string s) := fun u => u.cell (by rw [own.cellAt k (by omega)]; simp [hk, HKS.out])
      clear own hb2
      obtain ⟨st, hst, hss⟩ : ∃ st : ByteArray, (⟨(putL v sz).toArray⟩ : ByteArray) = st ∧ st.size = sz := ⟨_, rfl, by show (putL v sz).toArray.size = sz; rw [List.size_toArray, putL_length]⟩
      have HST := Lib.hid hst
      have hss1 : st.size ≤ sz := by omega
      clear hst hss
      go_wp2
      refine wp_region_ext_tail 13 (by kernel_rfl) (by kernel_rfl) ?_
      simp only [List.take_succ_cons, List.take_zero, List.drop_succ_cons, List.drop_zero]
      repeat (go_big_quiet_step (first
        | (go_at_call 67; exact Ext.call (put_eq v sz st _ (by omega) (by omega) HST.out))
        | (go_at_call 66; exact Ext.call_drew (mput_any s st p _ (by omega) (by omega)))))
      refine wpQuiet_nil ?_
      rintro _ ⟨u, rfl⟩
      have ownu := own_below OWN.out u.below
      have gu := g1 u
      have fu := ownu.frozenAt k
      have OU := Lib.hid ownu
      have BU := Lib.hid (B2.out.trans (u.below.mono B2.out.size))
      clear ownu g1
      go_wp2
      go_ret2
      rw [HL0.out]
      obtain ⟨o1, o2⟩ := OU.out.stored k (.string (putB s p st))
      have hz := B1.out.size
      refine ⟨g, cap, by rw [List.length_set]; rfl, ?_, BU.out.setCell (by show w.heap.size ≤ g; omega) _⟩
      rw [List.length_set, List.map_set, HST.out]
      exact own_base o1 hz
end Go.Proofs.YtcjakmnplkeldaaDoor
