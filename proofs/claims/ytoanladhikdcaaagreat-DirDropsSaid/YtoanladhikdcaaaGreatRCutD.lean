/-
  Joined in one text: RCutPl, RDrop, InvN, RCut, OLe, RCutAny.
-/
import Derived.Test.YtoanladhikdcaaaGreatRWriD
import Derived.Test.YtoanladhikdcaaaGreatExtSnd
import Derived.Test.YtoanladhikdcaaaGreatRPliD
import Derived.BigQuiet
import Derived.Test.YtoanladhikdcaaaGreatInfra
import Derived.Test.YtoanladhikdcaaaGreatRExtD
namespace Go.Proofs.YtoanladhikdcaaaGreat
set_option linter.unusedVariables false
set_option linter.unusedSimpArgs false
section
variable {xs : List ByteArray} {m k v size : Nat} {l : List Nat}
/-- with another size -/
def szd (v : Nat) (s : List ByteArray × List Nat) : List ByteArray × List Nat := (s.1, s.2.set 3 v)
theorem dropK_szd (s : List ByteArray × List Nat) : dropK noK m k (szd v s) = szd v (dropK noK m k s) := by
  obtain ⟨xs, l⟩ := s
  unfold dropK szd
  dsimp only
  rw [atX_size]
  unfold nameG noK
  rw [getD_set_ne l 3 10 v (by omega)]
  by_cases h6 : k < 6
  · rw [if_pos h6, if_pos h6]
    dsimp only
    rw [List.set_comm _ _ (show 3 ≠ 4 + k by omega)]
  · rw [if_neg h6, if_neg h6]
    split <;> rfl
theorem dropN_szd (s : List ByteArray × List Nat) : ∀ j, dropN noK m k (szd v s) j = szd v (dropN noK m k s j)
  | 0 => rfl
  | j + 1 => by rw [dropN, dropN, dropN_szd s j, dropK_szd]
theorem dropI_szd (s : List ByteArray × List Nat) : dropI noK m size (szd v s) = szd v (dropI noK m size s) := by
  obtain ⟨xs, l⟩ := s
  unfold dropI szd noK
  dsimp only
  rw [getD_set_ne l 3 10 v (by omega)]
  split
  · dsimp only
    rw [List.set_comm _ _ (show (3 : Nat) ≠ 10 by omega)]
  · rfl
theorem tailZ_szd (s : List ByteArray × List Nat) : tailZ m size (szd v s) = szd v (tailZ m size s) := by
  obtain ⟨xs, l⟩ := s
  unfold tailZ szd
  dsimp only
  rw [atX_size]
  split <;> rfl
theorem cutG_szd (xs : List ByteArray) (m : Nat) (l : List Nat) (size : Nat) : cutG noK xs m l size = szd size (if size < sizeX l then shortG noK m size (xs, l) else (xs, l)) := by
  unfold cutG
  split
  · unfold shortG
    rw [← tailZ_szd, ← dropI_szd, ← dropN_szd]
    rfl
  · rfl
end
end Go.Proofs.YtoanladhikdcaaaGreat

namespace Go.Proofs.YtoanladhikdcaaaGreat
open Go.RowKit
set_option linter.unusedVariables false
set_option linter.unusedSimpArgs false
set_option maxRecDepth 100000
theorem wpList_val {P : Program} {ops : Array Oper} {rest : List Oper} {o : Oper} {a : Act} {w : World} {Q : Exit → Act → World → Prop} (v : Value) (hgd : o.guard = none) (hr : (execOp a.eval o).run P w = .ok (.value v) w) (h : wpList P ops Q rest (a.put o.dst v) w) : wpList P ops Q (o :: rest) a w :=
  wpList_plain hgd fun K hK => by
    unfold Oper.wp
    rw [hr]
    exact hK _ _ h
theorem run_build_plc {ρ : Operand → Value} {x y : Operand} {A : Option Addr} {n c : Nat} {l : List Nat} {o : Oper} (ho : o.op = .build 85 #[(0, x), (1, y)]) (hx : ρ x = .slice A n c) (hy : ρ y = .agg (inoC l)) (hl : l.length = 12) (w : World) : (execOp ρ o).run Tryz.prog w = .ok (.value (.agg (plcC (.slice A n c) l 0 0))) w := by
  obtain ⟨a0, a1, a2, a3, a4, a5, a6, a7, a8, a9, a10, a11, rfl⟩ := len12 hl
  unfold execOp
  simp only [ho, List.map_toArray, List.map_cons, List.map_nil, hx, hy]
  rw [show plcC (.slice A n c) [a0, a1, a2, a3, a4, a5, a6, a7, a8, a9, a10, a11] 0 0 = #[.slice A n c, .int .i64 (a0 : Int), .int .i64 (a1 : Int), .int .i64 (a2 : Int), .int .i64 (a3 : Int), .int .i64 (a4 : Int), .int .i64 (a5 : Int), .int .i64 (a6 : Int), .int .i64 (a7 : Int), .int .i64 (a8 : Int), .int .i64 (a9 : Int), .int .i64 (a10 : Int), .int .i64 (a11 : Int), .int .i64 0, .int .i64 0] from rfl]
  unfold inoC
  simp only [List.map_cons, List.map_nil]
  go_simp
/-- a row that is neither the block g nor the next one; below g it is the given one -/
def RowN (w : World) (g : Nat) (A0 A : Option Addr) (xs : List Value) : Prop := xs = [] ∨ ∃ b o, A = some ⟨b, o, none⟩ ∧ b < w.heap.size ∧ b ≠ g ∧ b ≠ g + 1 ∧ (b < g → A = A0) ∧ ∀ i v, xs[i]? = some v → w.cell? ⟨b, o + i, none⟩ = some v
theorem RowN.below {w w' : World} {g : Nat} {A0 A : Option Addr} {xs : List Value} (h : RowN w g A0 A xs) (hb : Below w.heap.size w w') : RowN w' g A0 A xs := by
  rcases h with h | ⟨b, o, hA, hl, h1, h2, h3, hc⟩
  · exact .inl h
  · exact .inr ⟨b, o, hA, Nat.lt_of_lt_of_le hl hb.size, h1, h2, h3, fun i v hv => (hb.cell (p := ⟨b, o + i, none⟩) hl).trans (hc i v hv)⟩
theorem RowN.grown {w w' : World} {g k : Nat} {A0 A : Option Addr} {xs : List Value} (h : RowN w g A0 A xs) (hb : w.grownBy w' (some k)) (hk : k = g ∨ k = g + 1) : RowN w' g A0 A xs := by
  rcases h with h | ⟨b, o, hA, hl, h1, h2, h3, hc⟩
  · exact .inl h
  · refine .inr ⟨b, o, hA, Nat.lt_of_lt_of_le hl hb.size, h1, h2, h3, fun i v hv => (World.cell?_of_block (a := ⟨b, o + i, none⟩) (hb.block b hl ?_)).trans (hc i v hv)⟩
    intro e
    injection e with e
    rcases hk with e2 | e2 <;> omega
theorem RowN.row {w : World} {g : Nat} {A0 A : Option Addr} {xs : List Value} (h : RowN w g A0 A xs) : RowAt w w.heap.size A xs := by
  rcases h with h | ⟨b, o, hA, hl, _, _, _, hc⟩
  · exact .inl h
  · exact .inr ⟨b, o, hA, hl, hc⟩
theorem RowN.of_low {w : World} {B g : Nat} {A : Option Addr} {xs : List Value} (h : RowAt w B A xs) (hB : B ≤ w.heap.size) (hg : B ≤ g) : RowN w g A A xs := by
  rcases Nat.eq_zero_or_pos xs.length with h0 | h0
  · exact .inl (List.eq_nil_of_length_eq_zero h0)
  · obtain ⟨b, o, hA, hl, hc⟩ := h.at_ h0
    exact .inr ⟨b, o, hA, by omega, by omega, by omega, fun _ => rfl, hc⟩
theorem RowN.of_own {w : World} {base g : Nat} {e : TypeId} {A0 A : Option Addr} {n c : Nat} {xs : List Value} (h : w.ownsRow base e 1 (.slice A n c) n xs) (hg : g + 1 < base) : RowN w g A0 A xs := by
  rcases Nat.eq_zero_or_pos xs.length with h0 | h0
  · exact .inl (List.eq_nil_of_length_eq_zero h0)
  · obtain ⟨b, o, hA, hl, hc⟩ := (RowAt.of_own h).at_ h0
    have := own_row h b (by rw [hA]; rfl)
    exact .inr ⟨b, o, hA, hl, by omega, by omega, fun h => absurd h (by omega), hc⟩
theorem RowN.off {w w0 : World} {g g' : Nat} {A0 A : Option Addr} {xs ys : List Value} (h : RowN w g A0 A xs) (h0 : RowOff w0 g' A0 ys) (hy : 0 < ys.length) (hg : g' < g) : RowOff w g' A xs := by
  rcases h with h | ⟨b, o, hA, hl, h1, h2, h3, hc⟩
  · exact .inl h
  · refine .inr ⟨b, o, hA, hl, fun e => ?_, hc⟩
    have hA0 := h3 (by omega)
    rcases h0 with h0 | ⟨b0, o0, hA1, _, hne, _⟩
    · rw [h0] at hy; cases hy
    · rw [← hA0, hA] at hA1
      injection hA1 with hA1
      injection hA1 with hA1 _ _
      exact hne (hA1.symm.trans e)
/-- Give, of a volume, at a number of a block -/
theorem rgive_v (A : Option Addr) (c : Nat) (xs : List ByteArray) (m b : Nat) (w : World) (hv : IsVol xs m) (hb : datB xs m b = true) (h : RowAt w w.heap.size A (xs.map .string)) :
    Calls Tryz.prog 53 #[.slice A xs.length c, .int .i64 (b : Int)] w fun e w' => ∃ sl code, e = .returned (.tuple #[sl, .int .i64 code]) ∧ (code = 0 ∧ (∃ A' c', sl = .slice A' xs.length c' ∧ w'.ownsRow w.heap.size 9 1 (.slice A' xs.length c') xs.length ((giveV xs m b).map .string)) ∨ code ≠ 0 ∧ giveV xs m b = xs) ∧ Below w.heap.size w w' := by
  have hl := hv.len
  have hd := datB_iff.1 hb
  refine (rgive_any A c xs (b : Int) w (by omega) h).mono ?_
  rintro e w' ⟨hbl, he⟩
  rw [ofR_some.2 hv] at he
  dsimp only at he
  rw [if_neg (by omega), Int.toNat_natCast] at he
  unfold giveV
  by_cases hbit : bitL (blkL xs 2) b = true
  · rw [if_neg (by rw [hbit]; decide)] at he
    obtain ⟨v, he, hn⟩ := he
    unfold OwnRow at hn
    rw [turnV_length] at hn
    obtain ⟨g, c', rfl⟩ := Go.Joins.ownsRow_form hn (by omega)
    rw [if_pos ⟨hb, hbit⟩]
    exact ⟨_, 0, he, .inl ⟨rfl, _, c', rfl, hn⟩, hbl⟩
  · have h2 : bitL (blkL xs 2) b = false := by simpa using hbit
    rw [if_pos h2] at he
    rw [if_neg (fun h => hbit h.2)]
    exact ⟨_, 9, he, .inr ⟨by decide, rfl⟩, hbl⟩
theorem giveV_nil' (xs : List ByteArray) (m : Nat) : giveV xs m 0 = xs := by
  unfold giveV
  rw [datB_zero]
  simp
set_option maxHeartbeats 8000000 in
theorem rdrop_any (A : Option Addr) (c : Nat) (xs : List ByteArray) (m k : Nat) (l : List Nat) (w : World) (hv : IsVol xs m) (hl : FitN l) (hk : k < 70) (h : RowAt w w.heap.size A (xs.map .string)) :
    Calls Tryz.prog 50 #[.slice A xs.length c, .agg (inoC l), .int .i64 k] w (PlcRd A xs (some (dropK noK m k (xs, l), 0)) w) := by
  have hlen0 := hv.len
  have I0 := ((Below.refl w.heap.size w).alloc (Nat.le_refl _) (.cells (inoC l) 35)).alloc (by simp) (.cells #[.slice none 0 0, .int .i64 0, .int .i64 0, .int .i64 0, .int .i64 0, .int .i64 0, .int .i64 0, .int .i64 0, .int .i64 0, .int .i64 0, .int .i64 0, .int .i64 0, .int .i64 0, .int .i64 0, .int .i64 0] 85)
  have GI := Lib.hid ((Blk.new w 35 (inoC l)).alloc (.cells #[.slice none 0 0, .int .i64 0, .int .i64 0, .int .i64 0, .int .i64 0, .int .i64 0, .int .i64 0, .int .i64 0, .int .i64 0, .int .i64 0, .int .i64 0, .int .i64 0, .int .i64 0, .int .i64 0, .int .i64 0] 85))
  have GP : Hid (∃ Z : Array Value, Z.size = 15 ∧ Blk ((w.alloc (.cells (inoC l) 35)).alloc (.cells #[.slice none 0 0, .int .i64 0, .int .i64 0, .int .i64 0, .int .i64 0, .int .i64 0, .int .i64 0, .int .i64 0, .int .i64 0, .int .i64 0, .int .i64 0, .int .i64 0, .int .i64 0, .int .i64 0, .int .i64 0] 85)) (w.heap.size + 1) 85 Z) := by
    have := Blk.new (w.alloc (.cells (inoC l) 35)) 85 #[.slice none 0 0, .int .i64 0, .int .i64 0, .int .i64 0, .int .i64 0, .int .i64 0, .int .i64 0, .int .i64 0, .int .i64 0, .int .i64 0, .int .i64 0, .int .i64 0, .int .i64 0, .int .i64 0, .int .i64 0]
    rw [World.size_alloc] at this
    exact ⟨_, rfl, this⟩
  have B0 := Lib.hid I0
  have RN0 := Lib.hid (RowN.of_low (g := w.heap.size) (h.below I0) I0.size (Nat.le_refl _))
  have HIN := Lib.hid (ino_info12 hl.1)
  have HV0 := Lib.hid hv
  have HFT := Lib.hid hl
  have CD := Lib.hid (fun w h => rdata_any A c xs m w hv h)
  have CA := Lib.hid (fun w h => rat_any A c xs m k l w hv hl hk h)
  have c10 := inoC_at hl.1 10 (by omega)
  obtain ⟨l10, hl10⟩ : ∃ l10, l.getD 10 0 = l10 := ⟨_, rfl⟩
  rw [hl10] at c10
  have HL10 := Lib.hid hl10
  have HI10 := Lib.hid c10
  obtain ⟨b, hb⟩ : ∃ b, atX xs m l k = b := ⟨_, rfl⟩
  have HAT := Lib.hid hb
  rw [hb] at CA
  obtain ⟨d, hd⟩ : ∃ d, dataN m = d := ⟨_, rfl⟩
  have HDN := Lib.hid hd
  rw [hd] at CD CA hlen0
  have HBD : Hid (b ≠ 0 → datB xs m b = true) := fun h0 => by rw [← hb] at h0 ⊢; exact atX_dat h0
  have CGV := Lib.hid (fun w hb hr => rgive_v A c xs m b w hv hb hr)
  clear I0 h hl hv c10 hl10 hb hd
  go_enter Tryz.func50, Tryz.ntmps50
  go_wp2_with fail
  generalize World.alloc _ _ = w0 at *
  refine (CD.out _ RN0.out.row).mono ?_
  rintro e w1 ⟨rfl, hb1⟩
  obtain ⟨Z, hZ, hGP⟩ := GP.out
  have HZ := Lib.hid hZ
  have B1 := Lib.hid (B0.out.trans (hb1.mono B0.out.size))
  have G1 := Lib.hid (hGP.below hb1 hGP.lt)
  have GI1 := Lib.hid (GI.out.below hb1 GI.out.lt)
  have RN1 := Lib.hid (RN0.out.below hb1)
  clear hb1 B0 GP GI RN0 hGP hZ
  go_wp2_with (refine load_blk 35 (.tmp 4) w.heap.size 35 (inoC l) _ rfl rfl rfl GI1.out Tryz.underlying35 rfl HIN.out ?_; go_frame)
  refine (CA.out _ RN1.out.row).mono ?_
  rintro e w2 ⟨rfl, hb2⟩
  have B2 := Lib.hid (B1.out.trans (hb2.mono B1.out.size))
  have G2 := Lib.hid (G1.out.below hb2 G1.out.lt)
  have GI2 := Lib.hid (GI1.out.below hb2 GI1.out.lt)
  have RN := Lib.hid (RN1.out.below hb2)
  clear hb2 B1 G1 GI1 RN1 CD CA HIN
  by_cases hb0 : b = 0
  · subst hb0
    have HDK : Hid (dropK noK m k (xs, l) = nameG noK xs m l k 0) := by show _ = _; unfold dropK; dsimp only; rw [HAT.out, giveV_nil']
    have HV1 := Lib.hid HV0.out
    clear HV0 HBD CGV HAT
    rw [show ((0 : Nat) : Int) = 0 from rfl]
    by_cases hk6 : k < 6
    · have hk7 : (k : Int) < 6 := by omega
      have HN : Hid (dropK noK m k (xs, l) = (xs, l.set (4 + k) 0)) := by show _ = _; rw [HDK.out]; unfold nameG; rw [if_pos hk6]; rfl
      have HIS : Hid ((inoC l).setIfInBounds (4 + k) (.int .i64 0) = inoC (l.set (4 + k) 0)) := by show _ = _; rw [inoC_set]; rfl
      have HISZ : Hid (4 + k < (inoC l).size) := by show _ < _; rw [inoC_size, HFT.out.1]; omega
      have hls : (l.set (4 + k) 0).length = 12 := by rw [List.length_set]; exact HFT.out.1
      have KB : Hid (∀ wd, w2.grownBy wd (some w.heap.size) → Blk wd (w.heap.size + 1) 85 Z ∧ Below w.heap.size w wd ∧ RowN wd w.heap.size A A (xs.map .string)) := fun wd hd => ⟨G2.out.grown hd (by intro e; injection e; omega), B2.out.grown hd B2.out.size (fun j e => by cases e; omega), RN.out.grown hd (.inl rfl)⟩
      have HINf := Lib.hid (ino_info12 (l := l.set (4 + k) 0) hls)
      obtain ⟨D, hD⟩ : ∃ D, plcC (.slice A xs.length c) (l.set (4 + k) 0) 0 0 = D := ⟨_, rfl⟩
      have hDS : D.size = 15 := by rw [← hD]; exact plcC_size _ _ _ hls
      have HDI : Hid ((Tryz.prog.info? 85).map (·.size) = some D.size) := by show _ = _; rw [hDS]; kernel_rfl
      have HD1 : Hid (∀ v ∈ D, v.oneCell' = true) := by rw [← hD]; exact plcC_one _ _ _ _ rfl
      have HDD := Lib.hid hD
      have HDS := Lib.hid hDS
      have HLH := Lib.hid (hls : (l.set (4 + k) 0).length = 12)
      clear hD hDS
      go_wp2_with (first
        | (refine store_int_blk 3 (.tmp 33) _ w.heap.size (4 + k) .i64 0 35 (inoC l) rfl rfl rfl rfl (fun w => by kernel_rfl) GI2.out HISZ.out ?_; intro wd hrd hgd; rw [HIS.out] at hrd; have hGd := (KB.out wd hgd).1)
        | (refine load_blk 35 (.tmp 4) w.heap.size 35 (inoC (l.set (4 + k) 0)) _ rfl rfl rfl hrd Tryz.underlying35 rfl HINf.out ?_; go_frame; refine wpList_val _ rfl (run_build_plc rfl rfl rfl HLH.out _) ?_; rw [HDD.out]; go_frame; refine store_blk 85 (.tmp 6) (.tmp 55) (w.heap.size + 1) 85 Z D rfl rfl rfl rfl hGd (by rw [HDS.out, HZ.out]) HDI.out HD1.out ?_; intro wz hrz hgz))
      refine bodyPost_ret (results_cell_row rfl _ _ (w.heap.size + 1) _ _ (0, 0) _ rfl hrz Tryz.underlying85 rfl HDI.out) rfl ?_
      obtain ⟨_, hBd, hRd⟩ := KB.out wd hgd
      refine ⟨hBd.grown hgz hBd.size (fun j e => by cases e; omega), ?_⟩
      rw [HN.out]
      exact ⟨A, c, by rw [← HDD.out, (rfl : xs.length = xs.length)]; rfl, (hRd.grown hgz (.inr rfl)).row, fun g hg hr => (hRd.grown hgz (.inr rfl)).off hr (by rw [List.length_map]; omega) hg⟩
    · have hk7 : ¬ (k : Int) < 6 := by omega
      have k10 := GI2.out.cell 10 HI10.out
      have CGD := Lib.hid (fun w => rgood_any A c xs m l10 w (by rw [(rfl : xs.length = xs.length)]; omega))
      have hgd0 : goodN xs m l10 = if datB xs m l10 = true then l10 else 0 := rfl
      rw [(rfl : xs.length = xs.length), HDN.out] at CGD
      have hls := HFT.out.1
      cases hdb : datB xs m l10 with
      | true =>
        rw [if_pos hdb] at hgd0
        rw [hgd0] at CGD
        have hp3 := datB_pos hdb
        have hl10p : (0 : Int) < (l10 : Int) := by omega
        have hd1 := datB_iff.1 hdb
        obtain ⟨s, hs⟩ : ∃ s, xs[l10]'hd1.2 = s := ⟨_, rfl⟩
        have hss : s.size = 128 := by rw [← hs]; exact HV1.out.1 _ (List.getElem_mem hd1.2)
        obtain ⟨zs, hzs⟩ : ∃ zs, layX xs l10 (2 * (k - 6)) (putL 0 2) = zs := ⟨_, rfl⟩
        have HSET : Hid (xs.set l10 (layB s (2 * (k - 6)) (putL 0 2)) = zs) := by
          show _ = _
          rw [← hzs]
          unfold layX
          rw [List.getD_eq_getElem?_getD, List.getElem?_eq_getElem hd1.2, hs]; rfl
        have HZL : Hid (zs.length = xs.length) := by show _ = _; rw [← hzs]; exact (layX_length _ _ _ _).trans (rfl : xs.length = xs.length)
        have HN : Hid (dropK noK m k (xs, l) = (zs, l)) := by show _ = _; rw [HDK.out, ← hzs]; unfold nameG; rw [if_neg hk6, HL10.out, if_pos hdb]
        have wk6 : IntKind.i64.wrap ((k : Int) - 6) = ((k - 6 : Nat) : Int) := by
          have : IntKind.i64.wrap ((k : Int) - 6) = (k : Int) - 6 := IntWalk.i64_in _ (by omega)
          rw [this]; omega
        obtain ⟨p, hp⟩ : ∃ p, 2 * (k - 6) = p := ⟨_, rfl⟩
        have wk7 : IntKind.i64.wrap (2 * ((k - 6 : Nat) : Int)) = (p : Int) := by
          have : IntKind.i64.wrap (2 * ((k - 6 : Nat) : Int)) = 2 * ((k - 6 : Nat) : Int) := IntWalk.i64_in _ (by omega)
          rw [this]; omega
        have hp2 : p + 2 ≤ 128 := by omega
        have CP := Lib.hid (fun w => rput19_any s p 0 w hss hp2 (by omega))
        have HLP : Hid (2 * (k - 6) = p) := hp
        have CW := Lib.hid (fun w hr => rwith_any A c xs l10 (layB s p (putL 0 2)) w hd1.2 (by rw [(rfl : xs.length = xs.length)]; omega) hr)
        rw [(rfl : xs.length = xs.length)] at CW
        obtain ⟨bA, oA, rfl, hbA, hcA⟩ := RN.out.row.at_ (by rw [List.length_map]; omega)
        have HCA : Hid (w2.cell? ⟨bA, oA + l10, none⟩ = some (.string s)) := hcA l10 _ (by rw [List.getElem?_map, List.getElem?_eq_getElem hd1.2, hs]; rfl)
        have hl10x : (l10 : Int) < (xs.length : Int) := by have := (rfl : xs.length = xs.length); omega
        have hl10n : (0 : Int) ≤ (l10 : Int) := by omega
        clear hgd0 hdb hs hzs hp hss hbA hcA hp3 hd1
        go_wp2_with fail
        refine (CGD.out _).mono ?_
        rintro e w2' ⟨rfl, rfl⟩
        have u10 : ∀ u : Ext w2, u.val.cell? ⟨w.heap.size, 10, none⟩ = some (.int .i64 (l10 : Int)) := fun u => u.cell k10
        have uA : ∀ u : Ext w2, u.val.cell? ⟨bA, oA + l10, none⟩ = some (.string s) := fun u => u.cell HCA.out
        clear k10 CGD
        go_wp2
        refine wp_region_waist 12 (by kernel_rfl) (by kernel_rfl) ?_
        simp only [List.take_succ_cons, List.take_zero, List.drop_succ_cons, List.drop_zero]
        repeat (go_big_quiet_step (first | (go_at_call 77; with_reducible exact Ext.call (CP.out _))))
        refine wpQuiet_nil ?_
        rintro _ ⟨u, rfl⟩
        have RN3 := Lib.hid (RN.out.below u.below)
        have G3 := Lib.hid (G2.out.below u.below G2.out.lt)
        have GI3 := Lib.hid (GI2.out.below u.below GI2.out.lt)
        have B3 := Lib.hid (B2.out.trans (u.below.mono B2.out.size))
        clear u10 uA
        generalize u.val = w3 at *
        go_wp2_with fail
        refine (CW.out _ RN3.out.row).mono ?_
        rintro e w4 ⟨v, rfl, hn, hb4⟩
        have hsz34 : w.heap.size + 1 < w3.heap.size := G3.out.lt
        rw [show layB s p (putL 0 2) = layB s (2 * (k - 6)) (putL 0 2) by rw [HLP.out], HSET.out] at hn
        unfold OwnRow at hn
        obtain ⟨gz, cz, rfl⟩ := Go.Joins.ownsRow_form hn (by rw [HZL.out]; omega)
        have RN4 := Lib.hid (RowN.of_own (A0 := (some ⟨bA, oA, none⟩)) hn hsz34)
        have G4 := Lib.hid (G3.out.below hb4 G3.out.lt)
        have GI4 := Lib.hid (GI3.out.below hb4 GI3.out.lt)
        have B4 := Lib.hid (B3.out.trans (hb4.mono B3.out.size))
        rw [HZL.out]
        clear hn hb4 RN3 G3 GI3 B3 CW CP
        go_wp2
        repeat (go_big_quiet_step (fail))
        refine wpQuiet_nil ?_
        rintro _ ⟨u, rfl⟩
        have RN5 := Lib.hid (RN4.out.below u.below)
        have G5 := Lib.hid (G4.out.below u.below G4.out.lt)
        have GI5 := Lib.hid (GI4.out.below u.below GI4.out.lt)
        have B5 := Lib.hid (B4.out.trans (u.below.mono B4.out.size))
        clear RN4 G4 GI4 B4 RN G2 GI2 B2
        generalize u.val = w5 at *
        have HINf := Lib.hid (ino_info12 (l := l) hls)
        obtain ⟨D, hD⟩ : ∃ D, plcC (.slice (some ⟨gz, 0, none⟩) xs.length cz) (l) 0 0 = D := ⟨_, rfl⟩
        have hDS : D.size = 15 := by rw [← hD]; exact plcC_size _ _ _ hls
        have HDI : Hid ((Tryz.prog.info? 85).map (·.size) = some D.size) := by show _ = _; rw [hDS]; kernel_rfl
        have HD1 : Hid (∀ v ∈ D, v.oneCell' = true) := by rw [← hD]; exact plcC_one _ _ _ _ rfl
        have HDD := Lib.hid hD
        have HDS := Lib.hid hDS
        have HLH := Lib.hid (hls : (l).length = 12)
        clear hD hDS
        go_wp2_with (first
          | (refine load_blk 35 (.tmp 4) w.heap.size 35 (inoC (l)) _ rfl rfl rfl GI5.out Tryz.underlying35 rfl HINf.out ?_; go_frame; refine wpList_val _ rfl (run_build_plc rfl rfl rfl HLH.out _) ?_; rw [HDD.out]; go_frame; refine store_blk 85 (.tmp 6) (.tmp 55) (w.heap.size + 1) 85 Z D rfl rfl rfl rfl G5.out (by rw [HDS.out, HZ.out]) HDI.out HD1.out ?_; intro wz hrz hgz))
        refine bodyPost_ret (results_cell_row rfl _ _ (w.heap.size + 1) _ _ (0, 0) _ rfl hrz Tryz.underlying85 rfl HDI.out) rfl ?_
        refine ⟨B5.out.grown hgz B5.out.size (fun j e => by cases e; omega), ?_⟩
        rw [HN.out]
        exact ⟨_, cz, by rw [← HDD.out, HZL.out]; rfl, (RN5.out.grown hgz (.inr rfl)).row, fun g hg hr => (RN5.out.grown hgz (.inr rfl)).off hr (by rw [List.length_map]; omega) hg⟩
      | false =>
        rw [if_neg (by rw [hdb]; decide)] at hgd0
        rw [hgd0] at CGD
        have HN : Hid (dropK noK m k (xs, l) = (xs, l)) := by show _ = _; rw [HDK.out]; unfold nameG; rw [if_neg hk6, HL10.out, if_neg (by rw [hdb]; decide)]
        clear hgd0 hdb
        go_wp2_with fail
        refine (CGD.out _).mono ?_
        rintro e w2' ⟨rfl, rfl⟩
        clear k10 CGD
        have HINf := Lib.hid (ino_info12 (l := l) hls)
        obtain ⟨D, hD⟩ : ∃ D, plcC (.slice A xs.length c) (l) 0 0 = D := ⟨_, rfl⟩
        have hDS : D.size = 15 := by rw [← hD]; exact plcC_size _ _ _ hls
        have HDI : Hid ((Tryz.prog.info? 85).map (·.size) = some D.size) := by show _ = _; rw [hDS]; kernel_rfl
        have HD1 : Hid (∀ v ∈ D, v.oneCell' = true) := by rw [← hD]; exact plcC_one _ _ _ _ rfl
        have HDD := Lib.hid hD
        have HDS := Lib.hid hDS
        have HLH := Lib.hid (hls : (l).length = 12)
        clear hD hDS
        go_wp2_with (first
          | (refine load_blk 35 (.tmp 4) w.heap.size 35 (inoC (l)) _ rfl rfl rfl GI2.out Tryz.underlying35 rfl HINf.out ?_; go_frame; refine wpList_val _ rfl (run_build_plc rfl rfl rfl HLH.out _) ?_; rw [HDD.out]; go_frame; refine store_blk 85 (.tmp 6) (.tmp 55) (w.heap.size + 1) 85 Z D rfl rfl rfl rfl G2.out (by rw [HDS.out, HZ.out]) HDI.out HD1.out ?_; intro wz hrz hgz))
        refine bodyPost_ret (results_cell_row rfl _ _ (w.heap.size + 1) _ _ (0, 0) _ rfl hrz Tryz.underlying85 rfl HDI.out) rfl ?_
        refine ⟨B2.out.grown hgz B2.out.size (fun j e => by cases e; omega), ?_⟩
        rw [HN.out]
        exact ⟨A, c, by rw [← HDD.out, (rfl : xs.length = xs.length)]; rfl, (RN.out.grown hgz (.inr rfl)).row, fun g hg hr => (RN.out.grown hgz (.inr rfl)).off hr (by rw [List.length_map]; omega) hg⟩
  · have hbp : (0 : Int) < (b : Int) := by omega
    have hdb0 := HBD.out hb0
    have HDK0 : Hid (dropK noK m k (xs, l) = nameG noK (giveV xs m b) m l k 0) := by show _ = _; unfold dropK; dsimp only; rw [HAT.out]
    have hgl := giveV_ok HV0.out b
    go_wp2_with fail
    refine (CGV.out _ hdb0 RN.out.row).mono ?_
    rintro e w3 ⟨sl, code, rfl, hcs, hb3⟩
    have hsz : w.heap.size + 1 < w2.heap.size := G2.out.lt
    obtain ⟨xs1, hxs1⟩ : ∃ xs1, giveV xs m b = xs1 := ⟨_, rfl⟩
    rw [hxs1] at HDK0 hgl hcs
    have HDK := Lib.hid HDK0.out
    have HXL : Hid (xs1.length = xs.length) := hgl.2
    have HV1 : Hid (IsVol xs1 m) := hgl.1
    have B3 := Lib.hid (B2.out.trans (hb3.mono B2.out.size))
    have G3 := Lib.hid (G2.out.below hb3 G2.out.lt)
    have GI3 := Lib.hid (GI2.out.below hb3 GI2.out.lt)
    have RNo := Lib.hid (RN.out.below hb3)
    rcases hcs with ⟨rfl, A1, c1, rfl, hown⟩ | ⟨hc0, hxe⟩
    · have RN := Lib.hid (RowN.of_own (A0 := A) hown hsz)
      have B2 := Lib.hid B3.out
      have G2 := Lib.hid G3.out
      have GI2 := Lib.hid GI3.out
      clear hown hb3 RNo B3 G3 GI3 HDK0 hgl hxs1 HBD CGV HAT HV0 hsz hdb0
      generalize w3 = w2 at *
      by_cases hk6 : k < 6
      · have hk7 : (k : Int) < 6 := by omega
        have HN : Hid (dropK noK m k (xs, l) = (xs1, l.set (4 + k) 0)) := by show _ = _; rw [HDK.out]; unfold nameG; rw [if_pos hk6]; rfl
        have HIS : Hid ((inoC l).setIfInBounds (4 + k) (.int .i64 0) = inoC (l.set (4 + k) 0)) := by show _ = _; rw [inoC_set]; rfl
        have HISZ : Hid (4 + k < (inoC l).size) := by show _ < _; rw [inoC_size, HFT.out.1]; omega
        have hls : (l.set (4 + k) 0).length = 12 := by rw [List.length_set]; exact HFT.out.1
        have KB : Hid (∀ wd, w2.grownBy wd (some w.heap.size) → Blk wd (w.heap.size + 1) 85 Z ∧ Below w.heap.size w wd ∧ RowN wd w.heap.size A A1 (xs1.map .string)) := fun wd hd => ⟨G2.out.grown hd (by intro e; injection e; omega), B2.out.grown hd B2.out.size (fun j e => by cases e; omega), RN.out.grown hd (.inl rfl)⟩
        have HINf := Lib.hid (ino_info12 (l := l.set (4 + k) 0) hls)
        obtain ⟨D, hD⟩ : ∃ D, plcC (.slice A1 xs.length c1) (l.set (4 + k) 0) 0 0 = D := ⟨_, rfl⟩
        have hDS : D.size = 15 := by rw [← hD]; exact plcC_size _ _ _ hls
        have HDI : Hid ((Tryz.prog.info? 85).map (·.size) = some D.size) := by show _ = _; rw [hDS]; kernel_rfl
        have HD1 : Hid (∀ v ∈ D, v.oneCell' = true) := by rw [← hD]; exact plcC_one _ _ _ _ rfl
        have HDD := Lib.hid hD
        have HDS := Lib.hid hDS
        have HLH := Lib.hid (hls : (l.set (4 + k) 0).length = 12)
        clear hD hDS
        go_wp2_with (first
          | (refine store_int_blk 3 (.tmp 33) _ w.heap.size (4 + k) .i64 0 35 (inoC l) rfl rfl rfl rfl (fun w => by kernel_rfl) GI2.out HISZ.out ?_; intro wd hrd hgd; rw [HIS.out] at hrd; have hGd := (KB.out wd hgd).1)
          | (refine load_blk 35 (.tmp 4) w.heap.size 35 (inoC (l.set (4 + k) 0)) _ rfl rfl rfl hrd Tryz.underlying35 rfl HINf.out ?_; go_frame; refine wpList_val _ rfl (run_build_plc rfl rfl rfl HLH.out _) ?_; rw [HDD.out]; go_frame; refine store_blk 85 (.tmp 6) (.tmp 55) (w.heap.size + 1) 85 Z D rfl rfl rfl rfl hGd (by rw [HDS.out, HZ.out]) HDI.out HD1.out ?_; intro wz hrz hgz))
        refine bodyPost_ret (results_cell_row rfl _ _ (w.heap.size + 1) _ _ (0, 0) _ rfl hrz Tryz.underlying85 rfl HDI.out) rfl ?_
        obtain ⟨_, hBd, hRd⟩ := KB.out wd hgd
        refine ⟨hBd.grown hgz hBd.size (fun j e => by cases e; omega), ?_⟩
        rw [HN.out]
        exact ⟨A1, c1, by rw [← HDD.out, HXL.out]; rfl, (hRd.grown hgz (.inr rfl)).row, fun g hg hr => (hRd.grown hgz (.inr rfl)).off hr (by rw [List.length_map]; omega) hg⟩
      · have hk7 : ¬ (k : Int) < 6 := by omega
        have k10 := GI2.out.cell 10 HI10.out
        have CGD := Lib.hid (fun w => rgood_any A1 c1 xs1 m l10 w (by rw [HXL.out]; omega))
        have hgd0 : goodN xs1 m l10 = if datB xs1 m l10 = true then l10 else 0 := rfl
        rw [HXL.out, HDN.out] at CGD
        have hls := HFT.out.1
        cases hdb : datB xs1 m l10 with
        | true =>
          rw [if_pos hdb] at hgd0
          rw [hgd0] at CGD
          have hp3 := datB_pos hdb
          have hl10p : (0 : Int) < (l10 : Int) := by omega
          have hd1 := datB_iff.1 hdb
          obtain ⟨s, hs⟩ : ∃ s, xs1[l10]'hd1.2 = s := ⟨_, rfl⟩
          have hss : s.size = 128 := by rw [← hs]; exact HV1.out.1 _ (List.getElem_mem hd1.2)
          obtain ⟨zs, hzs⟩ : ∃ zs, layX xs1 l10 (2 * (k - 6)) (putL 0 2) = zs := ⟨_, rfl⟩
          have HSET : Hid (xs1.set l10 (layB s (2 * (k - 6)) (putL 0 2)) = zs) := by
            show _ = _
            rw [← hzs]
            unfold layX
            rw [List.getD_eq_getElem?_getD, List.getElem?_eq_getElem hd1.2, hs]; rfl
          have HZL : Hid (zs.length = xs.length) := by show _ = _; rw [← hzs]; exact (layX_length _ _ _ _).trans HXL.out
          have HN : Hid (dropK noK m k (xs, l) = (zs, l)) := by show _ = _; rw [HDK.out, ← hzs]; unfold nameG; rw [if_neg hk6, HL10.out, if_pos hdb]
          have wk6 : IntKind.i64.wrap ((k : Int) - 6) = ((k - 6 : Nat) : Int) := by
            have : IntKind.i64.wrap ((k : Int) - 6) = (k : Int) - 6 := IntWalk.i64_in _ (by omega)
            rw [this]; omega
          obtain ⟨p, hp⟩ : ∃ p, 2 * (k - 6) = p := ⟨_, rfl⟩
          have wk7 : IntKind.i64.wrap (2 * ((k - 6 : Nat) : Int)) = (p : Int) := by
            have : IntKind.i64.wrap (2 * ((k - 6 : Nat) : Int)) = 2 * ((k - 6 : Nat) : Int) := IntWalk.i64_in _ (by omega)
            rw [this]; omega
          have hp2 : p + 2 ≤ 128 := by omega
          have CP := Lib.hid (fun w => rput19_any s p 0 w hss hp2 (by omega))
          have HLP : Hid (2 * (k - 6) = p) := hp
          have CW := Lib.hid (fun w hr => rwith_any A1 c1 xs1 l10 (layB s p (putL 0 2)) w hd1.2 (by rw [HXL.out]; omega) hr)
          rw [HXL.out] at CW
          obtain ⟨bA, oA, rfl, hbA, hcA⟩ := RN.out.row.at_ (by rw [List.length_map]; omega)
          have HCA : Hid (w2.cell? ⟨bA, oA + l10, none⟩ = some (.string s)) := hcA l10 _ (by rw [List.getElem?_map, List.getElem?_eq_getElem hd1.2, hs]; rfl)
          have hl10x : (l10 : Int) < (xs.length : Int) := by have := HXL.out; omega
          have hl10n : (0 : Int) ≤ (l10 : Int) := by omega
          clear hgd0 hdb hs hzs hp hss hbA hcA hp3 hd1
          go_wp2_with fail
          refine (CGD.out _).mono ?_
          rintro e w2' ⟨rfl, rfl⟩
          have u10 : ∀ u : Ext w2, u.val.cell? ⟨w.heap.size, 10, none⟩ = some (.int .i64 (l10 : Int)) := fun u => u.cell k10
          have uA : ∀ u : Ext w2, u.val.cell? ⟨bA, oA + l10, none⟩ = some (.string s) := fun u => u.cell HCA.out
          clear k10 CGD
          go_wp2
          refine wp_region_waist 12 (by kernel_rfl) (by kernel_rfl) ?_
          simp only [List.take_succ_cons, List.take_zero, List.drop_succ_cons, List.drop_zero]
          repeat (go_big_quiet_step (first | (go_at_call 77; with_reducible exact Ext.call (CP.out _))))
          refine wpQuiet_nil ?_
          rintro _ ⟨u, rfl⟩
          have RN3 := Lib.hid (RN.out.below u.below)
          have G3 := Lib.hid (G2.out.below u.below G2.out.lt)
          have GI3 := Lib.hid (GI2.out.below u.below GI2.out.lt)
          have B3 := Lib.hid (B2.out.trans (u.below.mono B2.out.size))
          clear u10 uA
          generalize u.val = w3 at *
          go_wp2_with fail
          refine (CW.out _ RN3.out.row).mono ?_
          rintro e w4 ⟨v, rfl, hn, hb4⟩
          have hsz34 : w.heap.size + 1 < w3.heap.size := G3.out.lt
          rw [show layB s p (putL 0 2) = layB s (2 * (k - 6)) (putL 0 2) by rw [HLP.out], HSET.out] at hn
          unfold OwnRow at hn
          obtain ⟨gz, cz, rfl⟩ := Go.Joins.ownsRow_form hn (by rw [HZL.out]; omega)
          have RN4 := Lib.hid (RowN.of_own (A0 := A) hn hsz34)
          have G4 := Lib.hid (G3.out.below hb4 G3.out.lt)
          have GI4 := Lib.hid (GI3.out.below hb4 GI3.out.lt)
          have B4 := Lib.hid (B3.out.trans (hb4.mono B3.out.size))
          rw [HZL.out]
          clear hn hb4 RN3 G3 GI3 B3 CW CP
          go_wp2
          repeat (go_big_quiet_step (fail))
          refine wpQuiet_nil ?_
          rintro _ ⟨u, rfl⟩
          have RN5 := Lib.hid (RN4.out.below u.below)
          have G5 := Lib.hid (G4.out.below u.below G4.out.lt)
          have GI5 := Lib.hid (GI4.out.below u.below GI4.out.lt)
          have B5 := Lib.hid (B4.out.trans (u.below.mono B4.out.size))
          clear RN4 G4 GI4 B4 RN G2 GI2 B2
          generalize u.val = w5 at *
          have HINf := Lib.hid (ino_info12 (l := l) hls)
          obtain ⟨D, hD⟩ : ∃ D, plcC (.slice (some ⟨gz, 0, none⟩) xs.length cz) (l) 0 0 = D := ⟨_, rfl⟩
          have hDS : D.size = 15 := by rw [← hD]; exact plcC_size _ _ _ hls
          have HDI : Hid ((Tryz.prog.info? 85).map (·.size) = some D.size) := by show _ = _; rw [hDS]; kernel_rfl
          have HD1 : Hid (∀ v ∈ D, v.oneCell' = true) := by rw [← hD]; exact plcC_one _ _ _ _ rfl
          have HDD := Lib.hid hD
          have HDS := Lib.hid hDS
          have HLH := Lib.hid (hls : (l).length = 12)
          clear hD hDS
          go_wp2_with (first
            | (refine load_blk 35 (.tmp 4) w.heap.size 35 (inoC (l)) _ rfl rfl rfl GI5.out Tryz.underlying35 rfl HINf.out ?_; go_frame; refine wpList_val _ rfl (run_build_plc rfl rfl rfl HLH.out _) ?_; rw [HDD.out]; go_frame; refine store_blk 85 (.tmp 6) (.tmp 55) (w.heap.size + 1) 85 Z D rfl rfl rfl rfl G5.out (by rw [HDS.out, HZ.out]) HDI.out HD1.out ?_; intro wz hrz hgz))
          refine bodyPost_ret (results_cell_row rfl _ _ (w.heap.size + 1) _ _ (0, 0) _ rfl hrz Tryz.underlying85 rfl HDI.out) rfl ?_
          refine ⟨B5.out.grown hgz B5.out.size (fun j e => by cases e; omega), ?_⟩
          rw [HN.out]
          exact ⟨_, cz, by rw [← HDD.out, HZL.out]; rfl, (RN5.out.grown hgz (.inr rfl)).row, fun g hg hr => (RN5.out.grown hgz (.inr rfl)).off hr (by rw [List.length_map]; omega) hg⟩
        | false =>
          rw [if_neg (by rw [hdb]; decide)] at hgd0
          rw [hgd0] at CGD
          have HN : Hid (dropK noK m k (xs, l) = (xs1, l)) := by show _ = _; rw [HDK.out]; unfold nameG; rw [if_neg hk6, HL10.out, if_neg (by rw [hdb]; decide)]
          clear hgd0 hdb
          go_wp2_with fail
          refine (CGD.out _).mono ?_
          rintro e w2' ⟨rfl, rfl⟩
          clear k10 CGD
          have HINf := Lib.hid (ino_info12 (l := l) hls)
          obtain ⟨D, hD⟩ : ∃ D, plcC (.slice A1 xs.length c1) (l) 0 0 = D := ⟨_, rfl⟩
          have hDS : D.size = 15 := by rw [← hD]; exact plcC_size _ _ _ hls
          have HDI : Hid ((Tryz.prog.info? 85).map (·.size) = some D.size) := by show _ = _; rw [hDS]; kernel_rfl
          have HD1 : Hid (∀ v ∈ D, v.oneCell' = true) := by rw [← hD]; exact plcC_one _ _ _ _ rfl
          have HDD := Lib.hid hD
          have HDS := Lib.hid hDS
          have HLH := Lib.hid (hls : (l).length = 12)
          clear hD hDS
          go_wp2_with (first
            | (refine load_blk 35 (.tmp 4) w.heap.size 35 (inoC (l)) _ rfl rfl rfl GI2.out Tryz.underlying35 rfl HINf.out ?_; go_frame; refine wpList_val _ rfl (run_build_plc rfl rfl rfl HLH.out _) ?_; rw [HDD.out]; go_frame; refine store_blk 85 (.tmp 6) (.tmp 55) (w.heap.size + 1) 85 Z D rfl rfl rfl rfl G2.out (by rw [HDS.out, HZ.out]) HDI.out HD1.out ?_; intro wz hrz hgz))
          refine bodyPost_ret (results_cell_row rfl _ _ (w.heap.size + 1) _ _ (0, 0) _ rfl hrz Tryz.underlying85 rfl HDI.out) rfl ?_
          refine ⟨B2.out.grown hgz B2.out.size (fun j e => by cases e; omega), ?_⟩
          rw [HN.out]
          exact ⟨A1, c1, by rw [← HDD.out, HXL.out]; rfl, (RN.out.grown hgz (.inr rfl)).row, fun g hg hr => (RN.out.grown hgz (.inr rfl)).off hr (by rw [List.length_map]; omega) hg⟩
    · have hc1 : (code == 0) = false := beq_eq_false_iff_ne.2 hc0
      have RN : Hid (RowN w3 w.heap.size A A (xs1.map .string)) := by rw [hxe]; exact RNo.out
      have B2 := Lib.hid B3.out
      have G2 := Lib.hid G3.out
      have GI2 := Lib.hid GI3.out
      clear hb3 RNo B3 G3 GI3 HDK0 hgl hxs1 HBD CGV HAT HV0 hsz hdb0 hxe
      generalize w3 = w2 at *
      by_cases hk6 : k < 6
      · have hk7 : (k : Int) < 6 := by omega
        have HN : Hid (dropK noK m k (xs, l) = (xs1, l.set (4 + k) 0)) := by show _ = _; rw [HDK.out]; unfold nameG; rw [if_pos hk6]; rfl
        have HIS : Hid ((inoC l).setIfInBounds (4 + k) (.int .i64 0) = inoC (l.set (4 + k) 0)) := by show _ = _; rw [inoC_set]; rfl
        have HISZ : Hid (4 + k < (inoC l).size) := by show _ < _; rw [inoC_size, HFT.out.1]; omega
        have hls : (l.set (4 + k) 0).length = 12 := by rw [List.length_set]; exact HFT.out.1
        have KB : Hid (∀ wd, w2.grownBy wd (some w.heap.size) → Blk wd (w.heap.size + 1) 85 Z ∧ Below w.heap.size w wd ∧ RowN wd w.heap.size A A (xs1.map .string)) := fun wd hd => ⟨G2.out.grown hd (by intro e; injection e; omega), B2.out.grown hd B2.out.size (fun j e => by cases e; omega), RN.out.grown hd (.inl rfl)⟩
        have HINf := Lib.hid (ino_info12 (l := l.set (4 + k) 0) hls)
        obtain ⟨D, hD⟩ : ∃ D, plcC (.slice A xs.length c) (l.set (4 + k) 0) 0 0 = D := ⟨_, rfl⟩
        have hDS : D.size = 15 := by rw [← hD]; exact plcC_size _ _ _ hls
        have HDI : Hid ((Tryz.prog.info? 85).map (·.size) = some D.size) := by show _ = _; rw [hDS]; kernel_rfl
        have HD1 : Hid (∀ v ∈ D, v.oneCell' = true) := by rw [← hD]; exact plcC_one _ _ _ _ rfl
        have HDD := Lib.hid hD
        have HDS := Lib.hid hDS
        have HLH := Lib.hid (hls : (l.set (4 + k) 0).length = 12)
        clear hD hDS
        go_wp2_with (first
          | (refine store_int_blk 3 (.tmp 33) _ w.heap.size (4 + k) .i64 0 35 (inoC l) rfl rfl rfl rfl (fun w => by kernel_rfl) GI2.out HISZ.out ?_; intro wd hrd hgd; rw [HIS.out] at hrd; have hGd := (KB.out wd hgd).1)
          | (refine load_blk 35 (.tmp 4) w.heap.size 35 (inoC (l.set (4 + k) 0)) _ rfl rfl rfl hrd Tryz.underlying35 rfl HINf.out ?_; go_frame; refine wpList_val _ rfl (run_build_plc rfl rfl rfl HLH.out _) ?_; rw [HDD.out]; go_frame; refine store_blk 85 (.tmp 6) (.tmp 55) (w.heap.size + 1) 85 Z D rfl rfl rfl rfl hGd (by rw [HDS.out, HZ.out]) HDI.out HD1.out ?_; intro wz hrz hgz))
        refine bodyPost_ret (results_cell_row rfl _ _ (w.heap.size + 1) _ _ (0, 0) _ rfl hrz Tryz.underlying85 rfl HDI.out) rfl ?_
        obtain ⟨_, hBd, hRd⟩ := KB.out wd hgd
        refine ⟨hBd.grown hgz hBd.size (fun j e => by cases e; omega), ?_⟩
        rw [HN.out]
        exact ⟨A, c, by rw [← HDD.out, HXL.out]; rfl, (hRd.grown hgz (.inr rfl)).row, fun g hg hr => (hRd.grown hgz (.inr rfl)).off hr (by rw [List.length_map]; omega) hg⟩
      · have hk7 : ¬ (k : Int) < 6 := by omega
        have k10 := GI2.out.cell 10 HI10.out
        have CGD := Lib.hid (fun w => rgood_any A c xs1 m l10 w (by rw [HXL.out]; omega))
        have hgd0 : goodN xs1 m l10 = if datB xs1 m l10 = true then l10 else 0 := rfl
        rw [HXL.out, HDN.out] at CGD
        have hls := HFT.out.1
        cases hdb : datB xs1 m l10 with
        | true =>
          rw [if_pos hdb] at hgd0
          rw [hgd0] at CGD
          have hp3 := datB_pos hdb
          have hl10p : (0 : Int) < (l10 : Int) := by omega
          have hd1 := datB_iff.1 hdb
          obtain ⟨s, hs⟩ : ∃ s, xs1[l10]'hd1.2 = s := ⟨_, rfl⟩
          have hss : s.size = 128 := by rw [← hs]; exact HV1.out.1 _ (List.getElem_mem hd1.2)
          obtain ⟨zs, hzs⟩ : ∃ zs, layX xs1 l10 (2 * (k - 6)) (putL 0 2) = zs := ⟨_, rfl⟩
          have HSET : Hid (xs1.set l10 (layB s (2 * (k - 6)) (putL 0 2)) = zs) := by
            show _ = _
            rw [← hzs]
            unfold layX
            rw [List.getD_eq_getElem?_getD, List.getElem?_eq_getElem hd1.2, hs]; rfl
          have HZL : Hid (zs.length = xs.length) := by show _ = _; rw [← hzs]; exact (layX_length _ _ _ _).trans HXL.out
          have HN : Hid (dropK noK m k (xs, l) = (zs, l)) := by show _ = _; rw [HDK.out, ← hzs]; unfold nameG; rw [if_neg hk6, HL10.out, if_pos hdb]
          have wk6 : IntKind.i64.wrap ((k : Int) - 6) = ((k - 6 : Nat) : Int) := by
            have : IntKind.i64.wrap ((k : Int) - 6) = (k : Int) - 6 := IntWalk.i64_in _ (by omega)
            rw [this]; omega
          obtain ⟨p, hp⟩ : ∃ p, 2 * (k - 6) = p := ⟨_, rfl⟩
          have wk7 : IntKind.i64.wrap (2 * ((k - 6 : Nat) : Int)) = (p : Int) := by
            have : IntKind.i64.wrap (2 * ((k - 6 : Nat) : Int)) = 2 * ((k - 6 : Nat) : Int) := IntWalk.i64_in _ (by omega)
            rw [this]; omega
          have hp2 : p + 2 ≤ 128 := by omega
          have CP := Lib.hid (fun w => rput19_any s p 0 w hss hp2 (by omega))
          have HLP : Hid (2 * (k - 6) = p) := hp
          have CW := Lib.hid (fun w hr => rwith_any A c xs1 l10 (layB s p (putL 0 2)) w hd1.2 (by rw [HXL.out]; omega) hr)
          rw [HXL.out] at CW
          obtain ⟨bA, oA, rfl, hbA, hcA⟩ := RN.out.row.at_ (by rw [List.length_map]; omega)
          have HCA : Hid (w2.cell? ⟨bA, oA + l10, none⟩ = some (.string s)) := hcA l10 _ (by rw [List.getElem?_map, List.getElem?_eq_getElem hd1.2, hs]; rfl)
          have hl10x : (l10 : Int) < (xs.length : Int) := by have := HXL.out; omega
          have hl10n : (0 : Int) ≤ (l10 : Int) := by omega
          clear hgd0 hdb hs hzs hp hss hbA hcA hp3 hd1
          go_wp2_with fail
          refine (CGD.out _).mono ?_
          rintro e w2' ⟨rfl, rfl⟩
          have u10 : ∀ u : Ext w2, u.val.cell? ⟨w.heap.size, 10, none⟩ = some (.int .i64 (l10 : Int)) := fun u => u.cell k10
          have uA : ∀ u : Ext w2, u.val.cell? ⟨bA, oA + l10, none⟩ = some (.string s) := fun u => u.cell HCA.out
          clear k10 CGD
          go_wp2
          refine wp_region_waist 12 (by kernel_rfl) (by kernel_rfl) ?_
          simp only [List.take_succ_cons, List.take_zero, List.drop_succ_cons, List.drop_zero]
          repeat (go_big_quiet_step (first | (go_at_call 77; with_reducible exact Ext.call (CP.out _))))
          refine wpQuiet_nil ?_
          rintro _ ⟨u, rfl⟩
          have RN3 := Lib.hid (RN.out.below u.below)
          have G3 := Lib.hid (G2.out.below u.below G2.out.lt)
          have GI3 := Lib.hid (GI2.out.below u.below GI2.out.lt)
          have B3 := Lib.hid (B2.out.trans (u.below.mono B2.out.size))
          clear u10 uA
          generalize u.val = w3 at *
          go_wp2_with fail
          refine (CW.out _ RN3.out.row).mono ?_
          rintro e w4 ⟨v, rfl, hn, hb4⟩
          have hsz34 : w.heap.size + 1 < w3.heap.size := G3.out.lt
          rw [show layB s p (putL 0 2) = layB s (2 * (k - 6)) (putL 0 2) by rw [HLP.out], HSET.out] at hn
          unfold OwnRow at hn
          obtain ⟨gz, cz, rfl⟩ := Go.Joins.ownsRow_form hn (by rw [HZL.out]; omega)
          have RN4 := Lib.hid (RowN.of_own (A0 := (some ⟨bA, oA, none⟩)) hn hsz34)
          have G4 := Lib.hid (G3.out.below hb4 G3.out.lt)
          have GI4 := Lib.hid (GI3.out.below hb4 GI3.out.lt)
          have B4 := Lib.hid (B3.out.trans (hb4.mono B3.out.size))
          rw [HZL.out]
          clear hn hb4 RN3 G3 GI3 B3 CW CP
          go_wp2
          repeat (go_big_quiet_step (fail))
          refine wpQuiet_nil ?_
          rintro _ ⟨u, rfl⟩
          have RN5 := Lib.hid (RN4.out.below u.below)
          have G5 := Lib.hid (G4.out.below u.below G4.out.lt)
          have GI5 := Lib.hid (GI4.out.below u.below GI4.out.lt)
          have B5 := Lib.hid (B4.out.trans (u.below.mono B4.out.size))
          clear RN4 G4 GI4 B4 RN G2 GI2 B2
          generalize u.val = w5 at *
          have HINf := Lib.hid (ino_info12 (l := l) hls)
          obtain ⟨D, hD⟩ : ∃ D, plcC (.slice (some ⟨gz, 0, none⟩) xs.length cz) (l) 0 0 = D := ⟨_, rfl⟩
          have hDS : D.size = 15 := by rw [← hD]; exact plcC_size _ _ _ hls
          have HDI : Hid ((Tryz.prog.info? 85).map (·.size) = some D.size) := by show _ = _; rw [hDS]; kernel_rfl
          have HD1 : Hid (∀ v ∈ D, v.oneCell' = true) := by rw [← hD]; exact plcC_one _ _ _ _ rfl
          have HDD := Lib.hid hD
          have HDS := Lib.hid hDS
          have HLH := Lib.hid (hls : (l).length = 12)
          clear hD hDS
          go_wp2_with (first
            | (refine load_blk 35 (.tmp 4) w.heap.size 35 (inoC (l)) _ rfl rfl rfl GI5.out Tryz.underlying35 rfl HINf.out ?_; go_frame; refine wpList_val _ rfl (run_build_plc rfl rfl rfl HLH.out _) ?_; rw [HDD.out]; go_frame; refine store_blk 85 (.tmp 6) (.tmp 55) (w.heap.size + 1) 85 Z D rfl rfl rfl rfl G5.out (by rw [HDS.out, HZ.out]) HDI.out HD1.out ?_; intro wz hrz hgz))
          refine bodyPost_ret (results_cell_row rfl _ _ (w.heap.size + 1) _ _ (0, 0) _ rfl hrz Tryz.underlying85 rfl HDI.out) rfl ?_
          refine ⟨B5.out.grown hgz B5.out.size (fun j e => by cases e; omega), ?_⟩
          rw [HN.out]
          exact ⟨_, cz, by rw [← HDD.out, HZL.out]; rfl, (RN5.out.grown hgz (.inr rfl)).row, fun g hg hr => (RN5.out.grown hgz (.inr rfl)).off hr (by rw [List.length_map]; omega) hg⟩
        | false =>
          rw [if_neg (by rw [hdb]; decide)] at hgd0
          rw [hgd0] at CGD
          have HN : Hid (dropK noK m k (xs, l) = (xs1, l)) := by show _ = _; rw [HDK.out]; unfold nameG; rw [if_neg hk6, HL10.out, if_neg (by rw [hdb]; decide)]
          clear hgd0 hdb
          go_wp2_with fail
          refine (CGD.out _).mono ?_
          rintro e w2' ⟨rfl, rfl⟩
          clear k10 CGD
          have HINf := Lib.hid (ino_info12 (l := l) hls)
          obtain ⟨D, hD⟩ : ∃ D, plcC (.slice A xs.length c) (l) 0 0 = D := ⟨_, rfl⟩
          have hDS : D.size = 15 := by rw [← hD]; exact plcC_size _ _ _ hls
          have HDI : Hid ((Tryz.prog.info? 85).map (·.size) = some D.size) := by show _ = _; rw [hDS]; kernel_rfl
          have HD1 : Hid (∀ v ∈ D, v.oneCell' = true) := by rw [← hD]; exact plcC_one _ _ _ _ rfl
          have HDD := Lib.hid hD
          have HDS := Lib.hid hDS
          have HLH := Lib.hid (hls : (l).length = 12)
          clear hD hDS
          go_wp2_with (first
            | (refine load_blk 35 (.tmp 4) w.heap.size 35 (inoC (l)) _ rfl rfl rfl GI2.out Tryz.underlying35 rfl HINf.out ?_; go_frame; refine wpList_val _ rfl (run_build_plc rfl rfl rfl HLH.out _) ?_; rw [HDD.out]; go_frame; refine store_blk 85 (.tmp 6) (.tmp 55) (w.heap.size + 1) 85 Z D rfl rfl rfl rfl G2.out (by rw [HDS.out, HZ.out]) HDI.out HD1.out ?_; intro wz hrz hgz))
          refine bodyPost_ret (results_cell_row rfl _ _ (w.heap.size + 1) _ _ (0, 0) _ rfl hrz Tryz.underlying85 rfl HDI.out) rfl ?_
          refine ⟨B2.out.grown hgz B2.out.size (fun j e => by cases e; omega), ?_⟩
          rw [HN.out]
          exact ⟨A, c, by rw [← HDD.out, HXL.out]; rfl, (RN.out.grown hgz (.inr rfl)).row, fun g hg hr => (RN.out.grown hgz (.inr rfl)).off hr (by rw [List.length_map]; omega) hg⟩
end Go.Proofs.YtoanladhikdcaaaGreat

namespace Go.Proofs.YtoanladhikdcaaaGreat
open Go.RowKit
set_option linter.unusedVariables false
set_option linter.unusedSimpArgs false
section
variable {P : Program} {ops : Array Oper} {Q : Exit → Act → World → Prop}
/-- as Formed; what is read, and yielded among the first n, was yielded ahead -/
structure FormedN (ops : Array Oper) (size n : Nat) : Prop where
  guard : ∀ (i : Nat) (o : Oper), ops[i]? = some o → o.guard = none
  dst : ∀ (i j : Nat) (oi oj : Oper) (d : Nat), ops[i]? = some oi → ops[j]? = some oj → oi.dst = some d → oj.dst = some d → i = j
  dep : ∀ (i : Nat) (oi : Oper), ops[i]? = some oi → ∀ t, Operand.tmp t ∈ oi.op.operands → ∀ (j : Nat) (oj : Oper), j < n → ops[j]? = some oj → oj.dst = some t → ∃ e ∈ oi.after, Region.binds .any e = true ∧ e.on = j
  back : ∀ (i : Nat) (o : Oper), ops[i]? = some o → ∀ e ∈ o.after, Region.binds .any e = true → e.on < i
  fits : ∀ (i : Nat) (o : Oper) (d : Nat), ops[i]? = some o → o.dst = some d → d < size
def formedBN (ops : Array Oper) (size n : Nat) : Bool :=
  (List.range ops.size).all fun i => match ops[i]? with
    | none => true
    | some o => o.guard.isNone && o.after.all (fun e => !Region.binds .any e || decide (e.on < i)) && (match o.dst with | some d => decide (d < size) | none => true) &&
      (List.range ops.size).all fun j => match ops[j]? with
        | none => true
        | some oj => (i == j || o.dst.isNone || o.dst != oj.dst) && (decide (n ≤ j) || (match oj.dst with
          | none => true
          | some t => !(o.op.operands.any fun x => match x with | .tmp t' => t' == t | _ => false) || o.after.any fun e => Region.binds .any e && e.on == j))
theorem formedN_of {ops : Array Oper} {size n : Nat} (h : formedBN ops size n = true) : FormedN ops size n := by
  unfold formedBN at h
  rw [List.all_eq_true] at h
  have key : ∀ (i : Nat) (o : Oper), ops[i]? = some o → o.guard.isNone = true ∧ o.after.all (fun e => !Region.binds .any e || decide (e.on < i)) = true ∧ (match o.dst with | some d => decide (d < size) | none => true) = true ∧
      ∀ (j : Nat) (oj : Oper), ops[j]? = some oj → (i == j || o.dst.isNone || o.dst != oj.dst) = true ∧ (decide (n ≤ j) || (match oj.dst with
          | none => true
          | some t => !(o.op.operands.any fun x => match x with | .tmp t' => t' == t | _ => false) || o.after.any fun e => Region.binds .any e && e.on == j)) = true := by
    intro i o ho
    have hi : i < ops.size := (Array.getElem?_eq_some_iff.1 ho).1
    have := h i (List.mem_range.2 hi)
    rw [ho] at this
    simp only [Bool.and_eq_true, List.all_eq_true] at this
    obtain ⟨⟨⟨h1, h2⟩, h3⟩, h4⟩ := this
    refine ⟨h1, h2, h3, fun j oj hoj => ?_⟩
    have hj : j < ops.size := (Array.getElem?_eq_some_iff.1 hoj).1
    have := h4 j (List.mem_range.2 hj)
    rw [hoj] at this
    simpa only [Bool.and_eq_true] using this
  refine ⟨fun i o ho => by simpa using (key i o ho).1, fun i j oi oj d hi hj h1 h2 => ?_, fun i oi hi t ht j oj hjn hj hd => ?_, fun i o ho e he hbd => ?_, fun i o d ho hd => ?_⟩
  · have := ((key i oi hi).2.2.2 j oj hj).1
    rw [h1, h2] at this
    simpa using this
  · have := ((key i oi hi).2.2.2 j oj hj).2
    rw [show decide (n ≤ j) = false from decide_eq_false (by omega), Bool.false_or] at this
    rw [hd] at this
    simp only [Bool.or_eq_true, Bool.not_eq_true'] at this
    rcases this with h1 | h1
    · exfalso
      rw [Array.any_eq_false] at h1
      obtain ⟨q, hq, e⟩ := Array.getElem_of_mem ht
      have := h1 q hq
      rw [e] at this
      simp at this
    · rw [Array.any_eq_true] at h1
      obtain ⟨q, hq, e⟩ := h1
      simp only [Bool.and_eq_true, beq_iff_eq] at e
      exact ⟨oi.after[q], Array.getElem_mem hq, e.1, e.2⟩
  · have := (key i o ho).2.1
    rw [Array.all_eq_true] at this
    obtain ⟨q, hq, rfl⟩ := Array.getElem_of_mem he
    have h2 := this q hq
    rw [hbd] at h2
    simpa using h2
  · have := (key i o ho).2.2.1
    rw [hd] at this
    simpa using this
def AgreeN (ops : Array Oper) (n : Nat) (spec : Nat → Value → World → Prop) (a0 a : Act) (o : Oper) (w : World) : Prop :=
  ∀ t, Operand.tmp t ∈ o.op.operands → (∀ (j : Nat) (oj : Oper), j < n → ops[j]? = some oj → oj.dst = some t → spec j (a.eval (.tmp t)) w) ∧ ((∀ (j : Nat) (oj : Oper), j < n → ops[j]? = some oj → oj.dst ≠ some t) → a.eval (.tmp t) = a0.eval (.tmp t))
def invBN (l : List Oper) (n size : Nat) : Bool :=
  formedBN l.toArray size n && decide (n ≤ l.length) && (decide (n = l.length) || (Region.sinkB .any l.toArray n && Region.chainB .any l.toArray n)) &&
  Region.seqB .any l.toArray (l.length - n) n (List.replicate n true ++ List.replicate (l.length - n) false).toArray
theorem notDstA {l : List Oper} {n t : Nat} (h : (l.take n).all (fun o => o.dst != some t) = true) : ∀ (j : Nat) (oj : Oper), j < n → l.toArray[j]? = some oj → oj.dst ≠ some t := fun j oj hjn hj => by
  have := List.all_eq_true.1 h oj (List.mem_of_getElem? (show (l.take n)[j]? = some oj by rw [List.getElem?_take, if_pos hjn]; simpa using hj))
  simpa using this
theorem wpAny_invN {a0 : Act} {w0 : World} {n g : Nat} (F : FormedN ops a0.tmps.size n) (hn : n ≤ ops.size) (hT : ∀ listed, HeadInv .any ops n listed → (∃ i, i < n ∧ listed.getD i true = false) → ∀ t ∈ Region.ready .any ops listed, t < n)
    (spec : Nat → Value → World → Prop) (hmono : ∀ i v w w', spec i v w → Below w.heap.size w w' → spec i v w')
    (hstep : ∀ (i : Nat) (o : Oper) (a : Act) (w : World), i < n → ops[i]? = some o → Below w0.heap.size w0 w → AgreeN ops n spec a0 a o w → o.wp P a w (fun a' w' => ∃ v, a' = a.put o.dst v ∧ spec i v w' ∧ Below w.heap.size w w') Q)
    (hend : ∀ (listed : Array Bool) (a : Act) (w : World), HeadInv .any ops n listed → (∀ i, i < n → listed.getD i true = true) → Below w0.heap.size w0 w → a.defers = a0.defers → a.tmps.size = a0.tmps.size → (∀ (i : Nat) (o : Oper) (d : Nat), i < n → ops[i]? = some o → o.dst = some d → spec i (a.tmps.getD d undef) w) → (∀ t, (∀ (j : Nat) (oj : Oper), j < n → ops[j]? = some oj → oj.dst ≠ some t) → a.tmps[t]? = a0.tmps[t]?) → wpAny P .any ops Q g listed a w) :
    ∀ (f : Nat) (listed : Array Bool) (a : Act) (w : World), unlisted n listed = f → HeadInv .any ops n listed → Inv ops spec a0 w0 listed a w → wpAny P .any ops Q (f + g) listed a w := by
  have low : ∀ {listed : Array Bool} {i : Nat}, listed.size = ops.size → i < n → listed.getD i true = false → unlisted n (listed.setIfInBounds i true) + 1 = unlisted n listed := fun {listed i} hs hi hl => by
    unfold unlisted
    exact filter_len_one hi hs hn hl
  intro f
  induction f with
  | zero =>
    intro listed a w hu hv inv
    rw [Nat.zero_add]
    have all : ∀ i, i < n → listed.getD i true = true := fun i hi => by
      cases hl : listed.getD i true with
      | true => rfl
      | false => have := low inv.size hi hl; omega
    refine hend listed a w hv all inv.below inv.defers inv.tmps (fun i o d hi ho hd => inv.done i o d ho (all i hi) hd) (fun t ht => inv.rest t (fun j oj hj hjl => ?_))
    rcases Nat.lt_or_ge j n with h1 | h1
    · exact ht j oj h1 hj
    · have := hv.tail j h1 (Array.getElem?_eq_some_iff.1 hj).1
      rw [hjl] at this; cases this
  | succ f ih =>
    intro listed a w hu hv inv
    have ex : ∃ i, i < n ∧ listed.getD i true = false := by
      have : 0 < unlisted n listed := by omega
      unfold unlisted at this
      obtain ⟨i, hi⟩ := List.exists_mem_of_length_pos this
      rw [List.mem_filter, List.mem_range] at hi
      exact ⟨i, hi.1, by simpa using hi.2⟩
    rw [Nat.add_right_comm]
    refine ⟨fun hr => ?_, fun i hi => ?_⟩
    · exfalso
      obtain ⟨i, hi, hl⟩ := ex
      have : ∀ i, i < n → listed.getD i true = true := by
        intro i
        induction i using Nat.strongRecOn with
        | ind i ih =>
          intro hi
          cases hl : listed.getD i true with
          | true => rfl
          | false =>
            exfalso
            have ho : ops[i]? = some (ops[i]'(by omega)) := Array.getElem?_eq_getElem (by omega)
            have : i ∈ Region.ready .any ops listed := mem_ready.2 ⟨hl, _, ho, fun e he hb => by
              have hlt := F.back i _ ho e he hb
              have := ih e.on hlt (by omega)
              rw [Array.getD_eq_getD_getElem?, Array.getElem?_eq_getElem (by rw [inv.size]; omega)] at this ⊢
              exact this⟩
            rw [hr] at this
            cases this
      rw [this i hi] at hl; cases hl
    have hin := hT listed hv ex i hi
    obtain ⟨hl, o, ho, hall⟩ := mem_ready.1 hi
    have hlt := low inv.size hin hl
    unfold wpOp
    rw [ho]
    dsimp only
    have hw : Region.wanted o (yielded ops a.tmps) = true := by unfold Region.wanted; rw [F.guard i o ho]
    rw [if_pos hw]
    left
    have hag : AgreeN ops n spec a0 a o w := fun t ht => ⟨fun j oj hjn hj hd => by
      obtain ⟨e, he, hb, hon⟩ := F.dep i o ho t ht j oj hjn hj hd
      have h1 := hall e he hb
      rw [hon] at h1
      have hj' : j < listed.size := by rw [inv.size]; exact (Array.getElem?_eq_some_iff.1 hj).1
      refine inv.done j oj t hj ?_ hd
      rw [Array.getD_eq_getD_getElem?, Array.getElem?_eq_getElem hj'] at h1 ⊢
      exact h1, fun hn => by
      have := inv.rest t (fun j oj hj hjl => by
        rcases Nat.lt_or_ge j n with h1 | h1
        · exact hn j oj h1 hj
        · have := hv.tail j h1 (Array.getElem?_eq_some_iff.1 hj).1
          rw [hjl] at this; cases this)
      show a.tmps.getD t undef = a0.tmps.getD t undef
      rw [Array.getD_eq_getD_getElem?, Array.getD_eq_getD_getElem?, this]⟩
    refine Oper.wp_mono ?_ (hstep i o a w hin ho inv.below hag)
    rintro a' w' ⟨v, rfl, hs, hb⟩
    refine ih _ _ _ (by omega) (hv.set hi hin) ⟨by simpa using inv.size, inv.below.trans (hb.mono inv.below.size), ?_, ?_, ?_, ?_⟩
    · cases o.dst <;> exact inv.defers
    · rw [← inv.tmps]; cases o.dst <;> simp [Act.put]
    · intro j oj d hj hjl hd
      by_cases e : i = j
      · subst e
        rw [ho] at hj
        cases hj
        have hfit := F.fits i o d ho hd
        rw [hd]
        show spec i ((a.tmps.setIfInBounds d v).getD d undef) w'
        rw [Array.getD_eq_getD_getElem?, Array.getElem?_setIfInBounds_self_of_lt (by rw [inv.tmps]; exact hfit)]
        exact hs
      · have hjl' : listed.getD j true = true := by
          rwa [Array.getD_eq_getD_getElem?, Array.getElem?_setIfInBounds_ne e, ← Array.getD_eq_getD_getElem?] at hjl
        have h1 := hmono j _ _ _ (inv.done j oj d hj hjl' hd) hb
        cases hdi : o.dst with
        | none => exact h1
        | some di =>
          have hne : di ≠ d := by rintro rfl; exact e (F.dst i j o oj di ho hj hdi hd)
          show spec j ((a.tmps.setIfInBounds di v).getD d undef) w'
          rw [Array.getD_eq_getD_getElem?, Array.getElem?_setIfInBounds_ne hne, ← Array.getD_eq_getD_getElem?]
          exact h1
    · intro t ht
      have h1 := inv.rest t (fun j oj hj hjl => ht j oj hj (by
        by_cases e : i = j
        · subst e; rw [hl] at hjl; cases hjl
        · rwa [Array.getD_eq_getD_getElem?, Array.getElem?_setIfInBounds_ne e, ← Array.getD_eq_getD_getElem?]))
      cases hdi : o.dst with
      | none => exact h1
      | some di =>
        have hne : di ≠ t := by
          rintro rfl
          refine ht i o ho ?_ hdi
          rw [Array.getD_eq_getD_getElem?, Array.getElem?_setIfInBounds_self_of_lt (by rw [inv.size]; exact (Array.getElem?_eq_some_iff.1 ho).1)]; rfl
        show (a.tmps.setIfInBounds di v)[t]? = a0.tmps[t]?
        rw [Array.getElem?_setIfInBounds_ne hne]
        exact h1
theorem wp_region_invN {id : Nat} {l : List Oper} {a : Act} {w : World} (n : Nat) (spec : Nat → Value → World → Prop) (hm : P.follows .mixedOrders = true) (hB : invBN l n a.tmps.size = true) (hmono : ∀ i v w w', spec i v w → Below w.heap.size w w' → spec i v w')
    (hstep : ∀ (i : Nat) (o : Oper) (a' : Act) (w' : World), i < n → l[i]? = some o → Below w.heap.size w w' → AgreeN l.toArray n spec a a' o w' → o.wp P a' w' (fun a'' w'' => ∃ v, a'' = a'.put o.dst v ∧ spec i v w'' ∧ Below w'.heap.size w' w'') Q)
    (hend : ∀ (a' : Act) (w' : World), Below w.heap.size w w' → a'.defers = a.defers → a'.tmps.size = a.tmps.size → (∀ (i : Nat) (o : Oper) (d : Nat), i < n → l[i]? = some o → o.dst = some d → spec i (a'.tmps.getD d undef) w') → (∀ t, (∀ (j : Nat) (oj : Oper), j < n → l[j]? = some oj → oj.dst ≠ some t) → a'.tmps[t]? = a.tmps[t]?) → wpList P l.toArray Q (l.drop n) a' w') : (Code.region id l.toArray true).wp P Q a w := by
  simp only [invBN, Bool.and_eq_true, decide_eq_true_eq] at hB
  obtain ⟨⟨⟨hF, hlen⟩, hsk⟩, hseq⟩ := hB
  have F := formedN_of hF
  have get : ∀ (i : Nat) (o : Oper), l[i]? = some o → l.toArray[i]? = some o := fun i o h => by simpa using h
  have getL : ∀ (i : Nat) (o : Oper), l.toArray[i]? = some o → l[i]? = some o := fun i o h => by simpa using h
  have hsz : l.toArray.size = l.length := by simp
  have hT : ∀ listed, HeadInv .any l.toArray n listed → (∃ i, i < n ∧ listed.getD i true = false) → ∀ t ∈ Region.ready .any l.toArray listed, t < n := by
    rintro listed inv ⟨i, hi, hl⟩ t ht
    by_cases e : n = l.length
    · obtain ⟨_, o, ho, _⟩ := mem_ready.1 ht
      have := (Array.getElem?_eq_some_iff.1 ho).1
      omega
    · rw [decide_eq_false e] at hsk
      simp only [Bool.false_or, Bool.and_eq_true] at hsk
      rcases Nat.lt_or_ge t n with h | h
      · exact h
      · exact absurd ht (tail_waits hsk.1 hsk.2 (by omega) inv _ i rfl hi hl t h)
  have hend' : ∀ (listed : Array Bool) (a' : Act) (w' : World), HeadInv .any l.toArray n listed → (∀ i, i < n → listed.getD i true = true) → Below w.heap.size w w' → a'.defers = a.defers → a'.tmps.size = a.tmps.size → (∀ (i : Nat) (o : Oper) (d : Nat), i < n → l.toArray[i]? = some o → o.dst = some d → spec i (a'.tmps.getD d undef) w') → (∀ t, (∀ (j : Nat) (oj : Oper), j < n → l.toArray[j]? = some oj → oj.dst ≠ some t) → a'.tmps[t]? = a.tmps[t]?) → wpAny P .any l.toArray Q (l.drop n).length listed a' w' := by
    intro listed a' w' hv all hb hdf hts hdone hrest
    have el : listed = (List.replicate n true ++ List.replicate (l.length - n) false).toArray := by
      apply Array.ext_getElem?
      intro i
      rw [show (List.replicate n true ++ List.replicate (l.length - n) false).toArray[i]? = (List.replicate n true ++ List.replicate (l.length - n) false)[i]? from by simp only [List.getElem?_toArray], List.getElem?_append, List.length_replicate]
      by_cases h1 : i < n
      · rw [if_pos h1, List.getElem?_replicate, if_pos h1]
        have := all i h1
        have hlt : i < listed.size := by rw [hv.size, hsz]; omega
        rw [Array.getD_eq_getD_getElem?, Array.getElem?_eq_getElem hlt] at this
        rw [Array.getElem?_eq_getElem hlt]
        exact congrArg some this
      · rw [if_neg h1, List.getElem?_replicate]
        by_cases h2 : i < l.length
        · rw [if_pos (by omega)]
          have := hv.tail i (by omega) (by omega)
          have hlt : i < listed.size := by rw [hv.size, hsz]; omega
          rw [Array.getD_eq_getD_getElem?, Array.getElem?_eq_getElem hlt] at this
          rw [Array.getElem?_eq_getElem hlt]
          exact congrArg some this
        · rw [if_neg (by omega), Array.getElem?_eq_none (by rw [hv.size, hsz]; omega)]
    refine wpAny_of_seq (l.drop n) n listed _ w' (fun j => by simp [List.getElem?_drop]) ?_ (hend a' w' hb hdf hts (fun i o d hi ho hd => hdone i o d hi (get i o ho) hd) (fun t ht => hrest t (fun j oj hj ho => ht j oj hj (getL j oj ho))))
    rw [el, List.length_drop]; exact hseq
  refine wp_region_any hm ?_
  have H := wpAny_invN (P := P) (Q := Q) (a0 := a) (w0 := w) (n := n) (g := (l.drop n).length) F (by omega) hT spec hmono (fun i o a' w' hi ho hb hag => hstep i o a' w' hi (getL i o ho) hb hag) hend' n (Array.replicate l.toArray.size false) a { w with drawn := w.drawn + 1 } ?_ ?_ ?_
  · rw [List.length_drop, show n + (l.length - n) = l.toArray.size by omega] at H
    exact H
  · unfold unlisted
    rw [List.filter_eq_self.2 (fun i hi => ?_), List.length_range]
    rw [List.mem_range] at hi
    rw [Array.getD_eq_getD_getElem?, Array.getElem?_eq_getElem (by simp; omega)]
    simp
  · refine ⟨by simp, fun j oj hj hl => ?_, fun t _ ht => ?_⟩
    · rw [Array.getD_eq_getD_getElem?, Array.getElem?_replicate] at hl
      split at hl <;> cases hl
    · rw [Array.getD_eq_getD_getElem?, Array.getElem?_eq_getElem (by simpa using ht)]; simp
  · refine ⟨by simp, (Below.refl w.heap.size w).drew, rfl, rfl, fun i o d' ho hl => ?_, fun t _ => rfl⟩
    have hi := (Array.getElem?_eq_some_iff.1 ho).1
    rw [Array.getD_eq_getD_getElem?, Array.getElem?_eq_getElem (by simpa using hi)] at hl
    simp at hl
end
end Go.Proofs.YtoanladhikdcaaaGreat

namespace Go.Proofs.YtoanladhikdcaaaGreat
open Go.RowKit
set_option linter.unusedVariables false
set_option linter.unusedSimpArgs false
set_option maxRecDepth 100000
theorem off_row {w : World} {g : Nat} {A : Option Addr} {ys : List Value} (h : RowOff w g A ys) : RowAt w w.heap.size A ys := by
  rcases h with h | ⟨b, o, hA, hl, _, hc⟩
  · exact .inl h
  · exact .inr ⟨b, o, hA, hl, hc⟩
theorem repl_strC (z : Nat) : strOfNums (List.replicate z 0) = zerosB z := by
  unfold strOfNums zerosB
  rw [List.map_replicate]
  rfl
/-- make([]byte, z), made a string -/
theorem made_zerosC {wm : World} {B z : Nat} {g : Nat} (h : wm.ownsRow B 5 1 (.slice (some ⟨g, 0, none⟩) z z) z (madeCells (Value.int .u8 0).cells (z * 1)).toList) :
    (convert 58 9 (.slice (some ⟨g, 0, none⟩) z z)).run Tryz.prog wm = .ok (.string (zerosB z)) wm := by
  have hb := own_blk h
  have := run_convert_bytes_arg (P := Tryz.prog) wm 58 5 Tryz.underlying58 Tryz.underlying5 g 0 z z (List.replicate z 0) (by simp) (fun i hi => by
    rw [Nat.zero_add]
    refine hb.cell i ?_
    rw [List.getElem?_toArray, List.getD_eq_getElem?_getD, List.getElem?_replicate, if_pos hi, Array.getElem?_toList]
    rw [Array.getElem?_eq_getElem (by rw [size_madeCells]; omega)]
    simp [madeCells, Nat.mod_one, Value.cells]) 9 Tryz.underlying9
  rw [this, repl_strC]
/-- what the region of with yields -/
def cutW (B : Nat) (A1 : Option Addr) (n c1 gb ob b size r z : Nat) (s t : ByteArray) (zs : List ByteArray) (i : Nat) (v : Value) (w : World) : Prop :=
  match i with
  | 0 => v = .slice A1 n c1
  | 1 => v = .int .i64 (b : Int)
  | 2 => v = .slice A1 n c1
  | 3 => v = .int .i64 (b : Int)
  | 4 => v = .pointer (some ⟨gb, ob, none⟩)
  | 5 => v = .string s
  | 6 => v = .int .i64 (size : Int)
  | 7 => v = .int .i64 (r : Int)
  | 8 => v = .string (s.extract 0 r)
  | 9 => v = .int .i64 (size : Int)
  | 10 => v = .int .i64 (r : Int)
  | 11 => v = .int .i64 (z : Int)
  | 12 => ∃ g, v = .slice (some ⟨g, 0, none⟩) z z ∧ w.ownsRow B 5 1 (.slice (some ⟨g, 0, none⟩) z z) z (madeCells (Value.int .u8 0).cells (z * 1)).toList
  | 13 => v = .string (zerosB z)
  | 14 => v = .string t
  | 15 => w.ownsRow B 9 1 v zs.length (zs.map .string)
  | 16 => w.ownsRow B 9 1 v zs.length (zs.map .string)
  | _ => True
theorem cutW_mono (B : Nat) (A1 : Option Addr) (n c1 gb ob b size r z : Nat) (s t : ByteArray) (zs : List ByteArray) (i : Nat) (v : Value) (w w' : World) (h : cutW B A1 n c1 gb ob b size r z s t zs i v w) (hb : Below w.heap.size w w') : cutW B A1 n c1 gb ob b size r z s t zs i v w' := by
  unfold cutW at h ⊢
  split at h <;> first
    | exact h
    | exact own_below h hb
    | (obtain ⟨g, hv, hg⟩ := h; exact ⟨g, hv, own_below hg hb⟩)
    | trivial
set_option maxHeartbeats 16000000 in
theorem rcut_main (A : Option Addr) (c : Nat) (xs : List ByteArray) (m nn size : Nat) (w : World) (hv : IsVol xs m) (h1 : 1 ≤ nn) (h2 : nn ≤ m) (hsz : size ≤ 8960) (h : RowAt w w.heap.size A (xs.map .string)) :
    Calls Tryz.prog 23 #[.slice A xs.length c, .int .i64 (nn : Int), .int .i64 (size : Int)] w (RRow (cutO xs (nn : Int) (size : Int)).1 (cutO xs (nn : Int) (size : Int)).2 w) := by
  have hlen0 := hv.len
  have hino := inoE_zero hv h1 h2
  have hfit0 : FitN (getR xs (nn : Int)) := getR_fit hv h1 h2
  have CG := Lib.hid (rget_ino A c xs (nn : Int) w (by omega) h)
  rw [hino] at CG
  have HCO0 : Hid (cutO xs (nn : Int) (size : Int) = (putV (szd size (if size < sizeX (getR xs (nn : Int)) then shortG noK m size (xs, getR xs (nn : Int)) else (xs, getR xs (nn : Int)))).1 nn (szd size (if size < sizeX (getR xs (nn : Int)) then shortG noK m size (xs, getR xs (nn : Int)) else (xs, getR xs (nn : Int)))).2, 0)) := by
    show _ = _
    unfold cutO
    rw [hino, if_neg (by simp), if_neg (by omega), if_neg (by omega), mO_vol hv, Int.toNat_natCast, Int.toNat_natCast, cutG_szd]
  have HR := Lib.hid h
  have HV0 := Lib.hid hv
  obtain ⟨l, hl⟩ : ∃ l, getR xs (nn : Int) = l := ⟨_, rfl⟩
  rw [hl] at HCO0 hfit0 CG
  have HF0 := Lib.hid hfit0
  have HIZ : Hid ((inoC l).size = 12) := by show _ = _; rw [inoC_size, hfit0.1]
  have HI := Lib.hid (ino_info12 hfit0.1)
  have CSZ := Lib.hid (fun w => rsize_any l w HF0.out)
  obtain ⟨d, hd⟩ : ∃ d, dataN m = d := ⟨_, rfl⟩
  have HDN := Lib.hid hd
  have hs1 : ¬ ((size : Int) < 0) := by omega
  have hs2 : ¬ ((8960 : Int) < (size : Int)) := by omega
  have hszl := sizeX_le l
  rw [hd] at hlen0
  clear h hv hl hino hfit0 hd
  go_enter Tryz.func23, Tryz.ntmps23
  go_wp2_with fail
  refine CG.out.mono ?_
  rintro e w1 ⟨rfl, hb1⟩
  have B1 := Lib.hid hb1
  clear hb1 CG
  go_wp2_with (first
    | (refine store_blk 35 (.tmp 8) (.tmp 21) w1.heap.size 35 (inoC (List.replicate 12 0)) (inoC l) rfl rfl rfl rfl (Blk.new w1 _ _) (by rw [HIZ.out]; rfl) HI.out (inoC_one _) ?_; intro w2 hr2 hg2)
    | (refine load_blk 35 (.tmp 8) w1.heap.size 35 (inoC l) _ rfl rfl rfl hr2 Tryz.underlying35 rfl HI.out ?_; go_frame))
  have b12 : Below w1.heap.size w1 w2 := ((Below.refl _ _).alloc (Nat.le_refl _) _).grown hg2 (by simp) (fun k e => by cases e; exact Nat.le_refl _)
  have BX := Lib.hid hr2
  have BB := Lib.hid (B1.out.trans (b12.mono B1.out.size))
  have RX := Lib.hid (RowOff.of_low (g := w1.heap.size) ((HR.out.below BB.out)) BB.out.size B1.out.size)
  have hgx : w.heap.size ≤ w1.heap.size := B1.out.size
  have HGX := Lib.hid hgx
  clear hr2 hg2 b12 B1 HR HIZ hgx
  generalize w1.heap.size = gx at *
  refine (CSZ.out _).mono ?_
  rintro e w3 ⟨rfl, hb3⟩
  replace RX := Lib.hid (RX.out.below hb3)
  replace BX := Lib.hid (BX.out.below hb3 BX.out.lt)
  replace BB := Lib.hid (BB.out.trans (hb3.mono BB.out.size))
  clear hb3 CSZ
  obtain ⟨sx, hsx⟩ : ∃ sx, sizeX l = sx := ⟨_, rfl⟩
  rw [hsx] at hszl HCO0
  rw [hsx]
  clear hsx
  by_cases hlts : size < sx
  · have hlt' : (size : Int) < (sx : Int) := by omega
    have hs8960 : size < 8960 := by omega
    rw [if_pos hlts] at HCO0
    obtain ⟨k0, hk0⟩ : ∃ k0, needN size = k0 := ⟨_, rfl⟩
    have HCO : Hid (∀ V L, shortG noK m size (xs, l) = (V, L) → cutO xs (nn : Int) (size : Int) = (putV (szd size (V, L)).1 nn (szd size (V, L)).2, 0)) := fun V L e => by rw [HCO0.out, e]
    have hk70 : k0 ≤ 70 := by rw [← hk0]; unfold needN; omega
    have HSH : Hid (shortG noK m size (xs, l) = tailZ m size (dropI noK m size (dropN noK m k0 (xs, l) (70 - k0)))) := by show _ = _; unfold shortG; rw [hk0]
    have CBL := Lib.hid (fun w => rblocks_any size w (by omega))
    rw [hk0] at CBL
    have HOK0 : Hid (OkS xs.length m (xs, l)) := ⟨HV0.out, rfl, HF0.out⟩
    clear hk0 HCO0
    go_wp2_with fail
    refine (CBL.out _).mono ?_
    rintro e w4 ⟨rfl, rfl⟩
    go_wp2
    go_loopw [0, 10] (fun v i wr => ∃ (j : Nat) (V : List ByteArray) (L : List Nat) (A' : Option Addr) (c' : Nat), k0 + j ≤ 70 ∧ i = .int .i64 ((k0 + j : Nat) : Int) ∧ v = .slice A' xs.length c' ∧ Hid (dropN noK m k0 (xs, l) j = (V, L)) ∧ Hid (RowOff wr gx A' (V.map .string)) ∧ Hid (Blk wr gx 35 (inoC L)) ∧ Hid (Below w.heap.size w wr)) (fun _ i _ => 70 - (intOf i).toNat)
    case atStart => exact ⟨0, xs, l, A, c, by omega, rfl, rfl, rfl, RX, BX, BB⟩
    case round =>
      clear RX BX BB
      obtain ⟨j, V, L, A', c', hj, rfl, rfl, HS, RX, BX, BB⟩ := hrel
      have hok := dropN_ok (noK_ok m) HOK0.out j hj
      rw [HS.out] at hok
      have HVL : Hid (V.length = xs.length) := hok.len
      have HVV : Hid (IsVol V m) := hok.vol
      have HFL : Hid (FitN L) := hok.fit
      have HIL := Lib.hid (ino_info12 hok.fit.1)
      by_cases hlt : k0 + j < 70
      · obtain ⟨k, hk⟩ : ∃ k, k0 + j = k := ⟨_, rfl⟩
        have hk7 : k < 70 := by omega
        have hkq : (k : Int) < 70 := by omega
        have HK := Lib.hid hk
        have CDR := Lib.hid (fun w hr => rdrop_any A' c' V m k L w HVV.out HFL.out hk7 hr)
        rw [HVL.out] at CDR
        have HGL : Hid (gx < wr.heap.size) := BX.out.lt
        have hok2 := dropK_ok (noK_ok m) hok hk7
        obtain ⟨V1, hV1⟩ : ∃ V1, (dropK noK m k (V, L)).1 = V1 := ⟨_, rfl⟩
        obtain ⟨L1, hL1⟩ : ∃ L1, (dropK noK m k (V, L)).2 = L1 := ⟨_, rfl⟩
        have HS1 : Hid (dropN noK m k0 (xs, l) (j + 1) = (V1, L1)) := by show _ = _; rw [dropN, HS.out, hk, ← hV1, ← hL1]
        have HV1L : Hid (V1.length = xs.length) := by show _ = _; rw [← hV1]; exact hok2.len
        have HF1 : Hid (FitN L1) := by show FitN _; rw [← hL1]; exact hok2.fit
        rw [hk]
        clear hok hk
        go_wp2_with (refine load_blk 35 (.tmp 8) gx 35 (inoC L) _ rfl rfl rfl BX.out Tryz.underlying35 rfl HIL.out ?_; go_frame)
        refine (CDR.out _ (off_row RX.out)).mono ?_
        rintro e w4 ⟨hb4, A1, c1, he, hr1, hoff1⟩
        subst he
        dsimp only at hr1 hoff1
        rw [hV1] at hr1 hoff1
        dsimp only
        rw [hV1, hL1]
        have hL12 := HF1.out.1
        obtain ⟨C, hC⟩ : ∃ C, plcC (.slice A1 V1.length c1) L1 ((0 : Nat) : Int) 0 = C := ⟨_, rfl⟩
        have hCS : C.size = 15 := by rw [← hC]; exact plcC_size _ _ _ hL12
        have HCS := Lib.hid hCS
        have HCI : Hid ((Tryz.prog.info? 85).map (·.size) = some C.size) := by show _ = _; rw [hCS]; kernel_rfl
        have HC1 : Hid (∀ v ∈ C, v.oneCell' = true) := by rw [← hC]; exact plcC_one _ _ _ _ rfl
        have HC0 : Hid (C[0]? = some (.slice A1 xs.length c1)) := by show _ = _; rw [← hC, ← HV1L.out]; exact plcC_0
        have HCL : Hid (∀ i, i < 12 → C[1 + i]? = some (.int .i64 ((L1.getD i 0 : Nat) : Int))) := fun i hi => by rw [← hC]; exact plcC_at hL12 hi
        have RO4 := Lib.hid (hoff1 gx HGL.out RX.out)
        have BX4 := Lib.hid (BX.out.below hb4 HGL.out)
        have B4 := Lib.hid (BB.out.trans (hb4.mono BB.out.size))
        have HRL : Hid ((inoC L1).toList.length = 12) := by show _ = _; rw [Array.length_toList, inoC_size, hL12]
        have HIN1 := Lib.hid (ino_info12 hL12)
        rw [hC]
        clear hC hCS hb4 hr1 hoff1 RX BX BB hok2 hV1 hL1 hL12
        go_wp2_with (refine store_blk 85 (.tmp 11) (.tmp 46) w4.heap.size 85 _ C rfl rfl rfl rfl (Blk.new w4 _ _) (by rw [HCS.out]; rfl) HCI.out HC1.out ?_; intro w5 hr5 hg5)
        have hb45 : Below w4.heap.size w4 w5 := ((Below.refl _ _).alloc (Nat.le_refl _) _).grown hg5 (by simp) (fun k e => by cases e; exact Nat.le_refl _)
        have u0 : ∀ u : Ext w5, u.val.cell? ⟨w4.heap.size, 0, none⟩ = some (.slice A1 xs.length c1) := fun u => u.cell (hr5.cell 0 HC0.out)
        have HRR : Hid (∀ u : Ext w5, u.val.rangeAt w4.heap.size 1 (inoC L1).toList) := fun u q v hv => by
          have hq : q < 12 := by
            have := (List.getElem?_eq_some_iff.1 hv).1
            rw [HRL.out] at this; exact this
          have h1 := inoC_at HF1.out.1 q hq
          rw [Array.getElem?_toList, h1] at hv
          rw [← Option.some.inj hv]
          exact u.cell (hr5.cell (1 + q) (HCL.out q hq))
        have RO5 := Lib.hid (RO4.out.below hb45)
        have BX5 := Lib.hid (BX4.out.below hb45 BX4.out.lt)
        have B5 := Lib.hid (B4.out.trans (hb45.mono B4.out.size))
        clear hb45 RO4 BX4 B4 hg5
        go_frame
        refine wp_region_ext_tail 5 (by kernel_rfl) (by kernel_rfl) ?_
        simp only [List.take_succ_cons, List.take_zero, List.drop_succ_cons, List.drop_zero]
        repeat (first
          | (go_big_quiet_want; refine quiet_load_mid 35 (.tmp 49) w4.heap.size 1 (inoC L1).toList _ rfl rfl (by rintro _ ⟨u, rfl⟩; exact HRR.out u) Tryz.underlying35 rfl (by rw [HRL.out]; kernel_rfl) ?_; rw [Array.toArray_toList]; go_frame; go_big_quiet_on)
          | go_big_quiet_step (fail))
        refine wpQuiet_nil ?_
        rintro _ ⟨u, rfl⟩
        have RO6 := Lib.hid (RO5.out.below u.below)
        have BX6 := Lib.hid (BX5.out.below u.below BX5.out.lt)
        have B6 := Lib.hid (B5.out.trans (u.below.mono B5.out.size))
        clear u0 HRR hr5 RO5 BX5 B5
        generalize u.val = w6 at *
        refine store_blk 35 (.tmp 8) (.tmp 50) gx 35 (inoC L) (inoC L1) rfl rfl rfl rfl BX6.out (by rw [inoC_size, inoC_size, HF1.out.1, HFL.out.1]) HIN1.out (inoC_one _) ?_
        intro w7 hr7 hg7
        have BX7 := Lib.hid hr7
        have B7 := Lib.hid (B6.out.grown hg7 B6.out.size (fun k e => by cases e; exact HGX.out))
        have RO7 := Lib.hid (RO6.out.push (.inl rfl) hg7)
        have hkk : k = k0 + j := HK.out.symm
        clear hr7 hg7 B6 BX6 RO6 HK
        go_wp2
        subst hkk
        go_roundw
        case rel => exact ⟨j + 1, V1, L1, A1, c1, by omega, by go_num, rfl, HS1, RO7, BX7, B7⟩
        case measure => simp [intOf]; omega
      · have hj70 : k0 + j = 70 := by omega
        have HS70 : Hid (dropN noK m k0 (xs, l) (70 - k0) = (V, L)) := by show _ = _; rw [show 70 - k0 = j by omega]; exact HS.out
        have CD := Lib.hid (fun w h => rdata_any A' c' V m w HVV.out h)
        rw [HVL.out, HDN.out] at CD
        rw [hj70, show ((70 : Nat) : Int) = 70 from rfl]
        clear hok hlt hj HS
        go_wp2_with fail
        refine (CD.out _ (off_row RX.out)).mono ?_
        rintro e w4 ⟨rfl, hb4⟩
        replace RX := Lib.hid (RX.out.below hb4)
        replace BX := Lib.hid (BX.out.below hb4 BX.out.lt)
        replace BB := Lib.hid (BB.out.trans (hb4.mono BB.out.size))
        clear hb4 CD hj70
        by_cases h768 : size ≤ 768
        · have h768' : (size : Int) ≤ 768 := by omega
          have c10 := inoC_at HFL.out.1 10 (by omega)
          obtain ⟨l10, hl10⟩ : ∃ l10, L.getD 10 0 = l10 := ⟨_, rfl⟩
          rw [hl10] at c10
          have k10 := BX.out.cell 10 c10
          have CGD := Lib.hid (fun w => rgood_any A' c' V m l10 w (by rw [HVL.out]; omega))
          have hgd : goodN V m l10 = if datB V m l10 = true then l10 else 0 := rfl
          rw [HVL.out, HDN.out] at CGD
          obtain ⟨L2, hL2⟩ : ∃ L2, L.set 10 0 = L2 := ⟨_, rfl⟩
          have HDI : Hid (dropI noK m size (V, L) = (giveV V m l10, L2)) := by show _ = _; unfold dropI; rw [if_pos h768]; dsimp only; rw [hl10, hL2]; rfl
          have HIS10 : Hid ((inoC L).setIfInBounds 10 (.int .i64 0) = inoC L2) := by show _ = _; rw [← hL2, inoC_set]; rfl
          have HIS10Z : Hid (10 < (inoC L).size) := by show _ < _; rw [inoC_size, HFL.out.1]; omega
          have HF2 : Hid (FitN L2) := by show FitN _; rw [← hL2]; exact HFL.out.ind (by decide)
          clear hl10 c10 hL2
          cases hdb : datB V m l10 with
          | true =>
            rw [if_pos hdb] at hgd
            rw [hgd] at CGD
            have hp3 := datB_pos hdb
            have hlp : (0 : Int) < (l10 : Int) := by omega
            have CGV := Lib.hid (fun w hr => rgive_v A' c' V m l10 w HVV.out hdb hr)
            rw [HVL.out] at CGV
            obtain ⟨gv1, gv2⟩ := giveV_ok HVV.out l10
            obtain ⟨V2, hV2⟩ : ∃ V2, giveV V m l10 = V2 := ⟨_, rfl⟩
            rw [hV2] at HDI gv1 gv2 CGV
            have HV2 := Lib.hid gv1
            have HL2 : Hid (V2.length = xs.length) := gv2.trans HVL.out
            have HS2 : Hid (shortG noK m size (xs, l) = tailZ m size (V2, L2)) := by show _ = _; rw [HSH.out, HS70.out, HDI.out]
            clear hgd hdb gv1 gv2 hV2
            go_wp2_with fail
            refine (CGD.out _).mono ?_
            rintro e w4' ⟨rfl, rfl⟩
            go_wp2_with fail
            refine (CGV.out _ (off_row RX.out)).mono ?_
            rintro e w5 ⟨sl, code, rfl, hcs, hb5⟩
            have BX5 := Lib.hid (BX.out.below hb5 BX.out.lt)
            have B5 := Lib.hid (BB.out.trans (hb5.mono BB.out.size))
            rcases hcs with ⟨rfl, A1, c1, rfl, hown⟩ | ⟨hc0, hxe⟩
            · have RX5 := Lib.hid (RowOff.of_own (g := gx) hown BX.out.lt)
              clear hown hb5 RX BX BB k10 CGV CGD
              have CAT := Lib.hid (fun A c w hr => rat_any A c V2 m (size / 128) L2 w HV2.out HF2.out (by omega) hr)
              rw [HL2.out, HDN.out] at CAT
              obtain ⟨b, hb⟩ : ∃ b, atX V2 m L2 (size / 128) = b := ⟨_, rfl⟩
              have HBD : Hid (b ≠ 0 → datB V2 m b = true) := fun h0 => by rw [← hb] at h0 ⊢; exact atX_dat h0
              obtain ⟨q, hq⟩ : ∃ q, size / 128 = q := ⟨_, rfl⟩
              obtain ⟨r, hr⟩ : ∃ r, size % 128 = r := ⟨_, rfl⟩
              have HTZ : Hid (tailZ m size (V2, L2) = if r ≠ 0 ∧ b ≠ 0 then (layX V2 b r (List.replicate (128 - r) 0), L2) else (V2, L2)) := by show _ = _; unfold tailZ; dsimp only; rw [hb, hr]
              have s1 : (size : Int).tdiv 128 = (q : Int) := by rw [← hq]; rfl
              have s2 : IntKind.i64.wrap (q : Int) = (q : Int) := IntWalk.i64_in _ (by omega)
              have s3 : (size : Int) / 128 = (q : Int) := by omega
              have s4 : (size : Int).tmod 128 = (r : Int) := by rw [← hr]; rfl
              have s5 : IntKind.i64.wrap (r : Int) = (r : Int) := IntWalk.i64_in _ (by omega)
              have s6 : (size : Int) % 128 = (r : Int) := by omega
              have r128 : r < 128 := by omega
              have HIN2' := Lib.hid (ino_info12 HF2.out.1)
              rw [hb, hq] at CAT
              clear hb hq hr
              go_wp2_with (first
                | (refine store_int_blk 3 (.tmp 71) _ gx 10 .i64 0 35 (inoC L) rfl rfl rfl rfl (fun w => by kernel_rfl) BX5.out HIS10Z.out ?_; intro w2 hr2 hg2; rw [HIS10.out] at hr2)
                | (refine load_blk 35 (.tmp 8) gx 35 (inoC L2) _ rfl rfl rfl hr2 Tryz.underlying35 rfl HIN2'.out ?_; go_frame))
              have BX2 := Lib.hid hr2
              have B2 := Lib.hid (B5.out.grown hg2 B5.out.size (fun k e => by cases e; exact HGX.out))
              have RX2 := Lib.hid (RX5.out.push (.inl rfl) hg2)
              clear hr2 hg2 BX5 B5 RX5
              refine (CAT.out _ _ _ (off_row RX2.out)).mono ?_
              rintro e wt ⟨rfl, hbt⟩
              have BXt := Lib.hid (BX2.out.below hbt BX2.out.lt)
              have RXt := Lib.hid (RX2.out.below hbt)
              have Bt := Lib.hid (B2.out.trans (hbt.mono B2.out.size))
              clear hbt CAT HIN2'
              by_cases hcz : r ≠ 0 ∧ b ≠ 0
              · have r1 : (0 : Int) < (r : Int) := by omega
                have b1 : (0 : Int) < (b : Int) := by omega
                rw [if_pos hcz] at HTZ
                have hbd := datB_iff.1 (HBD.out hcz.2)
                have hbl : b < V2.length := hbd.2
                have hblx : b < xs.length := by rw [← HL2.out]; exact hbl
                obtain ⟨s, hs⟩ : ∃ s, V2[b] = s := ⟨_, rfl⟩
                have hss : s.size = 128 := by rw [← hs]; exact HV2.out.1 _ (List.getElem_mem hbl)
                obtain ⟨z, hz⟩ : ∃ z, 128 - r = z := ⟨_, rfl⟩
                obtain ⟨zs, hzs⟩ : ∃ zs, layX V2 b r (List.replicate (128 - r) 0) = zs := ⟨_, rfl⟩
                obtain ⟨t, ht⟩ : ∃ t, s.extract 0 r ++ zerosB z = t := ⟨_, rfl⟩
                have HSET : Hid (V2.set b t = zs) := by
                  show _ = _
                  rw [← hzs]
                  unfold layX
                  rw [List.getD_eq_getElem?_getD, List.getElem?_eq_getElem hbl, hs]
                  congr 1
                  rw [← ht]
                  apply WideShapes.bytes_inj
                  have e1 := Lib.extract_data s 0 r
                  have e2 : s.data.toList.length = 128 := by rw [Array.length_toList]; exact hss
                  rw [show (some s).getD ⟨#[]⟩ = s from rfl, layB_list]
                  simp only [ByteArray.data_append, Array.toList_append, e1, List.drop_zero, Nat.sub_zero, zerosB_list]
                  rw [hz, List.length_replicate, List.drop_of_length_le (by omega), List.append_nil]
                have HZL : Hid (zs.length = xs.length) := by show _ = _; rw [← hzs]; exact (layX_length _ _ _ _).trans HL2.out
                have HVZ : Hid (IsVol zs m) := by show IsVol _ _; rw [← hzs]; exact layX_ok HV2.out (HBD.out hcz.2) (by rw [List.length_replicate]; omega)
                have HFIN : Hid (cutO xs (nn : Int) (size : Int) = (putV zs nn (L2.set 3 size), 0)) := by show _ = _; exact HCO.out _ _ (by rw [HS2.out, HTZ.out, hzs])
                have HSB := Lib.hid hs
                have w1 : IntKind.i64.wrap (128 - (r : Int)) = (z : Int) := by
                  have : IntKind.i64.wrap (128 - (r : Int)) = 128 - (r : Int) := IntWalk.i64_in _ (by omega)
                  rw [this]; omega
                have hrs : r ≤ s.size := by omega
                have r2 : (0 : Int) ≤ (r : Int) := by omega
                have r3 : (r : Int) ≤ (s.size : Int) := by omega
                have hz128 : z ≤ 128 := by omega
                have HTT := Lib.hid ht
                have HSS := Lib.hid hss
                have hes : (s.extract 0 r).size ≤ 128 := by rw [ByteArray.size_extract]; omega
                obtain ⟨bA, oA, hA1, _, _, hcA⟩ : ∃ b o, A1 = some ⟨b, o, none⟩ ∧ b < wt.heap.size ∧ b ≠ gx ∧ ∀ i v, (V2.map Value.string)[i]? = some v → wt.cell? ⟨b, o + i, none⟩ = some v := by
                  rcases RXt.out with h | h
                  · exfalso
                    have := congrArg List.length h
                    have h0 : V2.length = 0 := by simpa using this
                    omega
                  · exact h
                subst hA1
                have HCA : Hid (wt.cell? ⟨bA, oA + b, none⟩ = some (.string s)) := hcA b _ (by rw [List.getElem?_map, List.getElem?_eq_getElem hbl, hs]; rfl)
                have HBT : Hid (∀ w', Below wt.heap.size wt w' → w'.cell? ⟨bA, oA + b, none⟩ = some (.string s)) := fun w' hb => by
                  rcases (RXt.out.below hb) with h | ⟨b2, o2, hA, _, _, hc⟩
                  · exfalso
                    have := congrArg List.length h
                    have h0 : V2.length = 0 := by simpa using this
                    omega
                  · injection hA with hA
                    injection hA with h1 h2 _
                    have := hc b (.string s) (by rw [List.getElem?_map, List.getElem?_eq_getElem hbl, HSB.out]; rfl)
                    rwa [← h1, ← h2] at this
                have hgxt : gx < wt.heap.size := BXt.out.lt
                have HGXT := Lib.hid hgxt
                clear hs hz hzs ht hss hbd hcA hcz hgxt
                go_wp2
                refine wp_region_invN 16 (cutW wt.heap.size (some ⟨bA, oA, none⟩) xs.length c1 bA (oA + b) b size r z s t zs) (by kernel_rfl) (by kernel_rfl) (cutW_mono wt.heap.size (some ⟨bA, oA, none⟩) xs.length c1 bA (oA + b) b size r z s t zs) ?_ ?_
                · intro i o' a' w' hi ho hb hag
                  have ev : ∀ t', Operand.tmp t' ∈ o'.op.operands → ∀ (j : Nat) (oj : Oper), j < 16 → _ → oj.dst = some t' → cutW wt.heap.size (some ⟨bA, oA, none⟩) xs.length c1 bA (oA + b) b size r z s t zs j (a'.eval (.tmp t')) w' := fun t' ht j oj hjn hj hd => (hag t' ht).1 j oj hjn hj hd
                  have eb : ∀ t', Operand.tmp t' ∈ o'.op.operands → _ → a'.eval (.tmp t') = _ := fun t' ht h => (hag t' ht).2 h
                  have hcs := HBT.out w' hb
                  obtain rfl | rfl | rfl | rfl | rfl | rfl | rfl | rfl | rfl | rfl | rfl | rfl | rfl | rfl | rfl | rfl : i = 0 ∨ i = 1 ∨ i = 2 ∨ i = 3 ∨ i = 4 ∨ i = 5 ∨ i = 6 ∨ i = 7 ∨ i = 8 ∨ i = 9 ∨ i = 10 ∨ i = 11 ∨ i = 12 ∨ i = 13 ∨ i = 14 ∨ i = 15 := by omega
                  · cases ho
                    have e : a'.eval (.tmp 0) = .slice (some ⟨bA, oA, none⟩) xs.length c1 := eb 0 (by simp [Op.operands]) (notDstA rfl)
                    refine step_val (v := .slice (some ⟨bA, oA, none⟩) xs.length c1) (w' := w') ?_ rfl (Below.refl _ _)
                    unfold execOp
                    simp only [e, Sem.run_pure]
                  · cases ho
                    have e : a'.eval (.tmp 16) = .int .i64 (b : Int) := eb 16 (by simp [Op.operands]) (notDstA rfl)
                    refine step_val (v := .int .i64 (b : Int)) (w' := w') ?_ rfl (Below.refl _ _)
                    unfold execOp
                    simp only [e, Sem.run_pure]
                  · cases ho
                    have e : a'.eval (.tmp 0) = .slice (some ⟨bA, oA, none⟩) xs.length c1 := eb 0 (by simp [Op.operands]) (notDstA rfl)
                    refine step_val (v := .slice (some ⟨bA, oA, none⟩) xs.length c1) (w' := w') ?_ rfl (Below.refl _ _)
                    unfold execOp
                    simp only [e, Sem.run_pure]
                  · cases ho
                    have e : a'.eval (.tmp 16) = .int .i64 (b : Int) := eb 16 (by simp [Op.operands]) (notDstA rfl)
                    refine step_val (v := .int .i64 (b : Int)) (w' := w') ?_ rfl (Below.refl _ _)
                    unfold execOp
                    simp only [e, Sem.run_pure]
                  · cases ho
                    have e1 : a'.eval (.tmp 87) = .slice (some ⟨bA, oA, none⟩) xs.length c1 := ev 87 (by simp [Op.operands, Call.operands]) 2 _ (by decide) rfl rfl
                    have e1' : a'.tmps[87]?.getD undef = .slice (some ⟨bA, oA, none⟩) xs.length c1 := by rw [← Array.getD_eq_getD_getElem?]; exact e1
                    have e2 : a'.eval (.tmp 88) = .int .i64 (b : Int) := ev 88 (by simp [Op.operands, Call.operands]) 3 _ (by decide) rfl rfl
                    have e2' : a'.tmps[88]?.getD undef = .int .i64 (b : Int) := by rw [← Array.getD_eq_getD_getElem?]; exact e2
                    refine step_val (v := .pointer (some ⟨bA, oA + b, none⟩)) (w' := w') ?_ rfl (Below.refl _ _)
                    unfold execOp
                    simp [go_sem, e1', e2', hblx]
                  · cases ho
                    have e : a'.eval (.tmp 89) = .pointer (some ⟨bA, oA + b, none⟩) := ev 89 (by simp [Op.operands, Call.operands]) 4 _ (by decide) rfl rfl
                    have e' : a'.tmps[89]?.getD undef = .pointer (some ⟨bA, oA + b, none⟩) := by rw [← Array.getD_eq_getD_getElem?]; exact e
                    refine step_val (v := .string s) (w' := w') ?_ rfl (Below.refl _ _)
                    unfold execOp
                    simp [go_sem, e', hcs]
                  · cases ho
                    have e : a'.eval (.tmp 2) = .int .i64 (size : Int) := eb 2 (by simp [Op.operands]) (notDstA rfl)
                    refine step_val (v := .int .i64 (size : Int)) (w' := w') ?_ rfl (Below.refl _ _)
                    unfold execOp
                    simp only [e, Sem.run_pure]
                  · cases ho
                    have e : a'.eval (.tmp 91) = .int .i64 (size : Int) := ev 91 (by simp [Op.operands, Call.operands]) 6 _ (by decide) rfl rfl
                    have e' : a'.tmps[91]?.getD undef = .int .i64 (size : Int) := by rw [← Array.getD_eq_getD_getElem?]; exact e
                    refine step_val (v := .int .i64 (r : Int)) (w' := w') ?_ rfl (Below.refl _ _)
                    unfold execOp
                    simp [go_sem, e', s4, s5, s6]
                  · cases ho
                    have e1 : a'.eval (.tmp 90) = .string s := ev 90 (by simp [Op.operands, Call.operands]) 5 _ (by decide) rfl rfl
                    have e1' : a'.tmps[90]?.getD undef = .string s := by rw [← Array.getD_eq_getD_getElem?]; exact e1
                    have e2 : a'.eval (.tmp 92) = .int .i64 (r : Int) := ev 92 (by simp [Op.operands, Call.operands]) 7 _ (by decide) rfl rfl
                    have e2' : a'.tmps[92]?.getD undef = .int .i64 (r : Int) := by rw [← Array.getD_eq_getD_getElem?]; exact e2
                    refine step_val (v := .string (s.extract 0 r)) (w' := w') ?_ rfl (Below.refl _ _)
                    unfold execOp
                    simp [go_sem, e1', e2', r2, r3, hrs]
                  · cases ho
                    have e : a'.eval (.tmp 2) = .int .i64 (size : Int) := eb 2 (by simp [Op.operands]) (notDstA rfl)
                    refine step_val (v := .int .i64 (size : Int)) (w' := w') ?_ rfl (Below.refl _ _)
                    unfold execOp
                    simp only [e, Sem.run_pure]
                  · cases ho
                    have e : a'.eval (.tmp 94) = .int .i64 (size : Int) := ev 94 (by simp [Op.operands, Call.operands]) 9 _ (by decide) rfl rfl
                    have e' : a'.tmps[94]?.getD undef = .int .i64 (size : Int) := by rw [← Array.getD_eq_getD_getElem?]; exact e
                    refine step_val (v := .int .i64 (r : Int)) (w' := w') ?_ rfl (Below.refl _ _)
                    unfold execOp
                    simp [go_sem, e', s4, s5, s6]
                  · cases ho
                    have e : a'.eval (.tmp 95) = .int .i64 (r : Int) := ev 95 (by simp [Op.operands, Call.operands]) 10 _ (by decide) rfl rfl
                    have e' : a'.tmps[95]?.getD undef = .int .i64 (r : Int) := by rw [← Array.getD_eq_getD_getElem?]; exact e
                    refine step_val (v := .int .i64 (z : Int)) (w' := w') ?_ rfl (Below.refl _ _)
                    unfold execOp
                    simp [go_sem, e', w1]
                  · cases ho
                    have e : a'.eval (.tmp 96) = .int .i64 (z : Int) := ev 96 (by simp [Op.operands]) 11 _ (by decide) rfl rfl
                    obtain ⟨i0, q1', q2', q3', q4'⟩ := info_parts u8_info
                    obtain ⟨wm, hm, hown, hgm⟩ := run_make_full (P := Tryz.prog) w' wt.heap.size 58 5 i0 (.int .u8 0) 1 Tryz.underlying58 q1' q2' q3' .i64 .i64 z (by rw [q4']; omega) (by unfold maxLen; omega) hb.size
                    refine step_val (v := .slice (some ⟨w'.heap.size, 0, none⟩) z z) (w' := wm) ?_ ⟨w'.heap.size, rfl, hown⟩ ((Below.refl _ _).grown hgm (Nat.le_refl _) (fun k hk => by cases hk))
                    unfold execOp
                    simp only [e]
                    rw [Sem.run_bind, hm]
                    rfl
                  · cases ho
                    obtain ⟨gm, e, hown⟩ := ev 97 (by simp [Op.operands]) 12 _ (by decide) rfl rfl
                    have hcv := made_zerosC hown
                    refine step_val (v := .string (zerosB z)) (w' := w') ?_ rfl (Below.refl _ _)
                    unfold execOp
                    simp only [e]
                    rw [Sem.run_bind, hcv]
                    rfl
                  · cases ho
                    have e1 : a'.eval (.tmp 93) = .string (s.extract 0 r) := ev 93 (by simp [Op.operands, Call.operands]) 8 _ (by decide) rfl rfl
                    have e1' : a'.tmps[93]?.getD undef = .string (s.extract 0 r) := by rw [← Array.getD_eq_getD_getElem?]; exact e1
                    have e2 : a'.eval (.tmp 98) = .string (zerosB z) := ev 98 (by simp [Op.operands, Call.operands]) 13 _ (by decide) rfl rfl
                    have e2' : a'.tmps[98]?.getD undef = .string (zerosB z) := by rw [← Array.getD_eq_getD_getElem?]; exact e2
                    have ad := run_string_add_sum (P := Tryz.prog) (w := w') (s.extract 0 r) (zerosB z) (by rw [zerosB_size]; omega)
                    refine step_val (v := .string t) (w' := w') ?_ rfl (Below.refl _ _)
                    unfold execOp
                    simp [go_sem, e1', e2', ad, HTT.out]
                  · cases ho
                    have e1 : a'.eval (.tmp 85) = .slice (some ⟨bA, oA, none⟩) xs.length c1 := ev 85 (by simp [Op.operands, Call.operands]) 0 _ (by decide) rfl rfl
                    have e1' : a'.tmps[85]?.getD undef = .slice (some ⟨bA, oA, none⟩) xs.length c1 := by rw [← Array.getD_eq_getD_getElem?]; exact e1
                    have e2 : a'.eval (.tmp 86) = .int .i64 (b : Int) := ev 86 (by simp [Op.operands, Call.operands]) 1 _ (by decide) rfl rfl
                    have e2' : a'.tmps[86]?.getD undef = .int .i64 (b : Int) := by rw [← Array.getD_eq_getD_getElem?]; exact e2
                    have e3 : a'.eval (.tmp 99) = .string t := ev 99 (by simp [Op.operands, Call.operands]) 14 _ (by decide) rfl rfl
                    have e3' : a'.tmps[99]?.getD undef = .string t := by rw [← Array.getD_eq_getD_getElem?]; exact e3
                    refine step_call (f := 45) (args := #[.slice (some ⟨bA, oA, none⟩) xs.length c1, .int .i64 (b : Int), .string t]) ?_ ?_
                    · unfold execOp
                      simp [go_sem, e1', e2', e3']
                    · have := rwith_any (some ⟨bA, oA, none⟩) c1 V2 b t w' hbl (by rw [HL2.out]; omega) (off_row (RXt.out.below hb))
                      rw [HL2.out] at this
                      refine this.mono ?_
                      rintro e w2 ⟨v, he, hn, hb2⟩
                      rw [HSET.out] at hn
                      exact ⟨v, he, own_low hn hb.size, hb2⟩
                · intro a' w8 hb8 hdf hsz hsp hrest
                  have hf := frame_of [85, 86, 87, 88, 89, 90, 91, 92, 93, 94, 95, 96, 97, 98, 99, 100] hdf hsz (fun t ht => hrest t (notDst_of rfl ht))
                  have o0 : w8.ownsRow wt.heap.size 9 1 (a'.tmps.getD 100 undef) zs.length (zs.map .string) := hsp 15 _ 100 (by decide) rfl rfl
                  obtain ⟨gz, cz, hvz⟩ := Go.Joins.ownsRow_form o0 (by rw [HZL.out]; omega)
                  have O8 : Hid (w8.ownsRow wt.heap.size 9 1 (.slice (some ⟨gz, 0, none⟩) zs.length cz) zs.length (zs.map .string)) := by rw [← hvz]; exact o0
                  simp only [List.map_cons, List.map_nil, putsD] at hf
                  rw [hvz, HZL.out] at hf
                  generalize a'.tmps.getD 85 undef = x85 at hf
                  generalize a'.tmps.getD 86 undef = x86 at hf
                  generalize a'.tmps.getD 87 undef = x87 at hf
                  generalize a'.tmps.getD 88 undef = x88 at hf
                  generalize a'.tmps.getD 89 undef = x89 at hf
                  generalize a'.tmps.getD 90 undef = x90 at hf
                  generalize a'.tmps.getD 91 undef = x91 at hf
                  generalize a'.tmps.getD 92 undef = x92 at hf
                  generalize a'.tmps.getD 93 undef = x93 at hf
                  generalize a'.tmps.getD 94 undef = x94 at hf
                  generalize a'.tmps.getD 95 undef = x95 at hf
                  generalize a'.tmps.getD 96 undef = x96 at hf
                  generalize a'.tmps.getD 97 undef = x97 at hf
                  generalize a'.tmps.getD 98 undef = x98 at hf
                  generalize a'.tmps.getD 99 undef = x99 at hf
                  have BX3 := Lib.hid (BXt.out.below hb8 BXt.out.lt)
                  have B3 := Lib.hid (Bt.out.trans (hb8.mono Bt.out.size))
                  have RX3 := Lib.hid (RowOff.of_own (g := gx) O8.out HGXT.out)
                  have HV3 := Lib.hid HVZ.out
                  have HL3 := Lib.hid HZL.out
                  have HF3 := Lib.hid HF2.out
                  clear hsp hrest hdf hsz o0 hvz hb8 O8 RXt BXt Bt RX2 BX2 B2 HBT HCA
                  subst hf
                  simp only [List.drop_succ_cons, List.drop_zero]
                  go_frame
                  have HFN : Hid (FitN (L2.set 3 size)) := HF3.out.set 3 (show size < 256 ^ 4 by omega)
                  have HIS : Hid ((inoC L2).setIfInBounds 3 (.int .i64 (size : Int)) = inoC (L2.set 3 size)) := by show _ = _; rw [inoC_set]
                  have HISZ : Hid (3 < (inoC L2).size) := by show _ < _; rw [inoC_size, HF3.out.1]; omega
                  have HIN2 := Lib.hid (ino_info12 HFN.out.1)
                  have CP := Lib.hid (fun A c w hr => rput_nat A c zs m nn (L2.set 3 size) w HV3.out h1 h2 HFN.out hr)
                  rw [HL3.out] at CP
                  go_wp2_with (first
                    | (refine store_int_blk 3 (.tmp 102) (.tmp 101) gx 3 .i64 (size : Int) 35 (inoC L2) rfl rfl rfl rfl (fun w => by kernel_rfl) BX3.out HISZ.out ?_; intro wf hrf hgf; rw [HIS.out] at hrf)
                    | (refine load_blk 35 (.tmp 8) gx 35 (inoC (L2.set 3 size)) _ rfl rfl rfl hrf Tryz.underlying35 rfl HIN2.out ?_; go_frame))
                  have BF := Lib.hid (B3.out.grown hgf B3.out.size (fun k e => by cases e; exact HGX.out))
                  refine (CP.out _ _ _ (off_row (RX3.out.push (.inl rfl) hgf))).mono ?_
                  rintro e wg ⟨⟨v, rfl, hn⟩, hbg⟩
                  obtain ⟨A6, c6, rfl, hr6⟩ := hn.read
                  have BG := Lib.hid (BF.out.trans (hbg.mono BF.out.size))
                  go_wp2
                  go_ret2
                  rw [HFIN.out]
                  exact ⟨⟨A6, c6, rfl, hr6⟩, BG.out⟩
              · have HFIN : Hid (cutO xs (nn : Int) (size : Int) = (putV V2 nn (L2.set 3 size), 0)) := by show _ = _; exact HCO.out _ _ (by rw [HS2.out, HTZ.out, if_neg hcz])
                have RX3 := Lib.hid RXt.out
                have BX3 := Lib.hid BXt.out
                have B3 := Lib.hid Bt.out
                have HV3 := Lib.hid HV2.out
                have HL3 := Lib.hid HL2.out
                have HF3 := Lib.hid HF2.out
                have hcc : ¬ (0 : Int) < (r : Int) ∨ ((0 : Int) < (r : Int) ∧ ¬ (0 : Int) < (b : Int)) := by omega
                clear RXt BXt Bt RX2 BX2 B2 hcz HTZ
                rcases hcc with c1 | ⟨c1, c2⟩
                · skip
                  have HFN : Hid (FitN (L2.set 3 size)) := HF3.out.set 3 (show size < 256 ^ 4 by omega)
                  have HIS : Hid ((inoC L2).setIfInBounds 3 (.int .i64 (size : Int)) = inoC (L2.set 3 size)) := by show _ = _; rw [inoC_set]
                  have HISZ : Hid (3 < (inoC L2).size) := by show _ < _; rw [inoC_size, HF3.out.1]; omega
                  have HIN2 := Lib.hid (ino_info12 HFN.out.1)
                  have CP := Lib.hid (fun A c w hr => rput_nat A c V2 m nn (L2.set 3 size) w HV3.out h1 h2 HFN.out hr)
                  rw [HL3.out] at CP
                  go_wp2_with (first
                    | (refine store_int_blk 3 (.tmp 102) (.tmp 101) gx 3 .i64 (size : Int) 35 (inoC L2) rfl rfl rfl rfl (fun w => by kernel_rfl) BX3.out HISZ.out ?_; intro wf hrf hgf; rw [HIS.out] at hrf)
                    | (refine load_blk 35 (.tmp 8) gx 35 (inoC (L2.set 3 size)) _ rfl rfl rfl hrf Tryz.underlying35 rfl HIN2.out ?_; go_frame))
                  have BF := Lib.hid (B3.out.grown hgf B3.out.size (fun k e => by cases e; exact HGX.out))
                  refine (CP.out _ _ _ (off_row (RX3.out.push (.inl rfl) hgf))).mono ?_
                  rintro e wg ⟨⟨v, rfl, hn⟩, hbg⟩
                  obtain ⟨A6, c6, rfl, hr6⟩ := hn.read
                  have BG := Lib.hid (BF.out.trans (hbg.mono BF.out.size))
                  go_wp2
                  go_ret2
                  rw [HFIN.out]
                  exact ⟨⟨A6, c6, rfl, hr6⟩, BG.out⟩
                · skip
                  have HFN : Hid (FitN (L2.set 3 size)) := HF3.out.set 3 (show size < 256 ^ 4 by omega)
                  have HIS : Hid ((inoC L2).setIfInBounds 3 (.int .i64 (size : Int)) = inoC (L2.set 3 size)) := by show _ = _; rw [inoC_set]
                  have HISZ : Hid (3 < (inoC L2).size) := by show _ < _; rw [inoC_size, HF3.out.1]; omega
                  have HIN2 := Lib.hid (ino_info12 HFN.out.1)
                  have CP := Lib.hid (fun A c w hr => rput_nat A c V2 m nn (L2.set 3 size) w HV3.out h1 h2 HFN.out hr)
                  rw [HL3.out] at CP
                  go_wp2_with (first
                    | (refine store_int_blk 3 (.tmp 102) (.tmp 101) gx 3 .i64 (size : Int) 35 (inoC L2) rfl rfl rfl rfl (fun w => by kernel_rfl) BX3.out HISZ.out ?_; intro wf hrf hgf; rw [HIS.out] at hrf)
                    | (refine load_blk 35 (.tmp 8) gx 35 (inoC (L2.set 3 size)) _ rfl rfl rfl hrf Tryz.underlying35 rfl HIN2.out ?_; go_frame))
                  have BF := Lib.hid (B3.out.grown hgf B3.out.size (fun k e => by cases e; exact HGX.out))
                  refine (CP.out _ _ _ (off_row (RX3.out.push (.inl rfl) hgf))).mono ?_
                  rintro e wg ⟨⟨v, rfl, hn⟩, hbg⟩
                  obtain ⟨A6, c6, rfl, hr6⟩ := hn.read
                  have BG := Lib.hid (BF.out.trans (hbg.mono BF.out.size))
                  go_wp2
                  go_ret2
                  rw [HFIN.out]
                  exact ⟨⟨A6, c6, rfl, hr6⟩, BG.out⟩
            · have hc1 : (code == 0) = false := beq_eq_false_iff_ne.2 hc0
              have RX5 : Hid (RowOff w5 gx A' (V2.map .string)) := by show RowOff _ _ _ _; rw [hxe]; exact RX.out.below hb5
              clear hb5 RX BX BB k10 CGV CGD hxe
              have CAT := Lib.hid (fun A c w hr => rat_any A c V2 m (size / 128) L2 w HV2.out HF2.out (by omega) hr)
              rw [HL2.out, HDN.out] at CAT
              obtain ⟨b, hb⟩ : ∃ b, atX V2 m L2 (size / 128) = b := ⟨_, rfl⟩
              have HBD : Hid (b ≠ 0 → datB V2 m b = true) := fun h0 => by rw [← hb] at h0 ⊢; exact atX_dat h0
              obtain ⟨q, hq⟩ : ∃ q, size / 128 = q := ⟨_, rfl⟩
              obtain ⟨r, hr⟩ : ∃ r, size % 128 = r := ⟨_, rfl⟩
              have HTZ : Hid (tailZ m size (V2, L2) = if r ≠ 0 ∧ b ≠ 0 then (layX V2 b r (List.replicate (128 - r) 0), L2) else (V2, L2)) := by show _ = _; unfold tailZ; dsimp only; rw [hb, hr]
              have s1 : (size : Int).tdiv 128 = (q : Int) := by rw [← hq]; rfl
              have s2 : IntKind.i64.wrap (q : Int) = (q : Int) := IntWalk.i64_in _ (by omega)
              have s3 : (size : Int) / 128 = (q : Int) := by omega
              have s4 : (size : Int).tmod 128 = (r : Int) := by rw [← hr]; rfl
              have s5 : IntKind.i64.wrap (r : Int) = (r : Int) := IntWalk.i64_in _ (by omega)
              have s6 : (size : Int) % 128 = (r : Int) := by omega
              have r128 : r < 128 := by omega
              have HIN2' := Lib.hid (ino_info12 HF2.out.1)
              rw [hb, hq] at CAT
              clear hb hq hr
              go_wp2_with (first
                | (refine store_int_blk 3 (.tmp 71) _ gx 10 .i64 0 35 (inoC L) rfl rfl rfl rfl (fun w => by kernel_rfl) BX5.out HIS10Z.out ?_; intro w2 hr2 hg2; rw [HIS10.out] at hr2)
                | (refine load_blk 35 (.tmp 8) gx 35 (inoC L2) _ rfl rfl rfl hr2 Tryz.underlying35 rfl HIN2'.out ?_; go_frame))
              have BX2 := Lib.hid hr2
              have B2 := Lib.hid (B5.out.grown hg2 B5.out.size (fun k e => by cases e; exact HGX.out))
              have RX2 := Lib.hid (RX5.out.push (.inl rfl) hg2)
              clear hr2 hg2 BX5 B5 RX5
              refine (CAT.out _ _ _ (off_row RX2.out)).mono ?_
              rintro e wt ⟨rfl, hbt⟩
              have BXt := Lib.hid (BX2.out.below hbt BX2.out.lt)
              have RXt := Lib.hid (RX2.out.below hbt)
              have Bt := Lib.hid (B2.out.trans (hbt.mono B2.out.size))
              clear hbt CAT HIN2'
              by_cases hcz : r ≠ 0 ∧ b ≠ 0
              · have r1 : (0 : Int) < (r : Int) := by omega
                have b1 : (0 : Int) < (b : Int) := by omega
                rw [if_pos hcz] at HTZ
                have hbd := datB_iff.1 (HBD.out hcz.2)
                have hbl : b < V2.length := hbd.2
                have hblx : b < xs.length := by rw [← HL2.out]; exact hbl
                obtain ⟨s, hs⟩ : ∃ s, V2[b] = s := ⟨_, rfl⟩
                have hss : s.size = 128 := by rw [← hs]; exact HV2.out.1 _ (List.getElem_mem hbl)
                obtain ⟨z, hz⟩ : ∃ z, 128 - r = z := ⟨_, rfl⟩
                obtain ⟨zs, hzs⟩ : ∃ zs, layX V2 b r (List.replicate (128 - r) 0) = zs := ⟨_, rfl⟩
                obtain ⟨t, ht⟩ : ∃ t, s.extract 0 r ++ zerosB z = t := ⟨_, rfl⟩
                have HSET : Hid (V2.set b t = zs) := by
                  show _ = _
                  rw [← hzs]
                  unfold layX
                  rw [List.getD_eq_getElem?_getD, List.getElem?_eq_getElem hbl, hs]
                  congr 1
                  rw [← ht]
                  apply WideShapes.bytes_inj
                  have e1 := Lib.extract_data s 0 r
                  have e2 : s.data.toList.length = 128 := by rw [Array.length_toList]; exact hss
                  rw [show (some s).getD ⟨#[]⟩ = s from rfl, layB_list]
                  simp only [ByteArray.data_append, Array.toList_append, e1, List.drop_zero, Nat.sub_zero, zerosB_list]
                  rw [hz, List.length_replicate, List.drop_of_length_le (by omega), List.append_nil]
                have HZL : Hid (zs.length = xs.length) := by show _ = _; rw [← hzs]; exact (layX_length _ _ _ _).trans HL2.out
                have HVZ : Hid (IsVol zs m) := by show IsVol _ _; rw [← hzs]; exact layX_ok HV2.out (HBD.out hcz.2) (by rw [List.length_replicate]; omega)
                have HFIN : Hid (cutO xs (nn : Int) (size : Int) = (putV zs nn (L2.set 3 size), 0)) := by show _ = _; exact HCO.out _ _ (by rw [HS2.out, HTZ.out, hzs])
                have HSB := Lib.hid hs
                have w1 : IntKind.i64.wrap (128 - (r : Int)) = (z : Int) := by
                  have : IntKind.i64.wrap (128 - (r : Int)) = 128 - (r : Int) := IntWalk.i64_in _ (by omega)
                  rw [this]; omega
                have hrs : r ≤ s.size := by omega
                have r2 : (0 : Int) ≤ (r : Int) := by omega
                have r3 : (r : Int) ≤ (s.size : Int) := by omega
                have hz128 : z ≤ 128 := by omega
                have HTT := Lib.hid ht
                have HSS := Lib.hid hss
                have hes : (s.extract 0 r).size ≤ 128 := by rw [ByteArray.size_extract]; omega
                obtain ⟨bA, oA, hA1, _, _, hcA⟩ : ∃ b o, A' = some ⟨b, o, none⟩ ∧ b < wt.heap.size ∧ b ≠ gx ∧ ∀ i v, (V2.map Value.string)[i]? = some v → wt.cell? ⟨b, o + i, none⟩ = some v := by
                  rcases RXt.out with h | h
                  · exfalso
                    have := congrArg List.length h
                    have h0 : V2.length = 0 := by simpa using this
                    omega
                  · exact h
                subst hA1
                have HCA : Hid (wt.cell? ⟨bA, oA + b, none⟩ = some (.string s)) := hcA b _ (by rw [List.getElem?_map, List.getElem?_eq_getElem hbl, hs]; rfl)
                have HBT : Hid (∀ w', Below wt.heap.size wt w' → w'.cell? ⟨bA, oA + b, none⟩ = some (.string s)) := fun w' hb => by
                  rcases (RXt.out.below hb) with h | ⟨b2, o2, hA, _, _, hc⟩
                  · exfalso
                    have := congrArg List.length h
                    have h0 : V2.length = 0 := by simpa using this
                    omega
                  · injection hA with hA
                    injection hA with h1 h2 _
                    have := hc b (.string s) (by rw [List.getElem?_map, List.getElem?_eq_getElem hbl, HSB.out]; rfl)
                    rwa [← h1, ← h2] at this
                have hgxt : gx < wt.heap.size := BXt.out.lt
                have HGXT := Lib.hid hgxt
                clear hs hz hzs ht hss hbd hcA hcz hgxt
                go_wp2
                refine wp_region_invN 16 (cutW wt.heap.size (some ⟨bA, oA, none⟩) xs.length c' bA (oA + b) b size r z s t zs) (by kernel_rfl) (by kernel_rfl) (cutW_mono wt.heap.size (some ⟨bA, oA, none⟩) xs.length c' bA (oA + b) b size r z s t zs) ?_ ?_
                · intro i o' a' w' hi ho hb hag
                  have ev : ∀ t', Operand.tmp t' ∈ o'.op.operands → ∀ (j : Nat) (oj : Oper), j < 16 → _ → oj.dst = some t' → cutW wt.heap.size (some ⟨bA, oA, none⟩) xs.length c' bA (oA + b) b size r z s t zs j (a'.eval (.tmp t')) w' := fun t' ht j oj hjn hj hd => (hag t' ht).1 j oj hjn hj hd
                  have eb : ∀ t', Operand.tmp t' ∈ o'.op.operands → _ → a'.eval (.tmp t') = _ := fun t' ht h => (hag t' ht).2 h
                  have hcs := HBT.out w' hb
                  obtain rfl | rfl | rfl | rfl | rfl | rfl | rfl | rfl | rfl | rfl | rfl | rfl | rfl | rfl | rfl | rfl : i = 0 ∨ i = 1 ∨ i = 2 ∨ i = 3 ∨ i = 4 ∨ i = 5 ∨ i = 6 ∨ i = 7 ∨ i = 8 ∨ i = 9 ∨ i = 10 ∨ i = 11 ∨ i = 12 ∨ i = 13 ∨ i = 14 ∨ i = 15 := by omega
                  · cases ho
                    have e : a'.eval (.tmp 0) = .slice (some ⟨bA, oA, none⟩) xs.length c' := eb 0 (by simp [Op.operands]) (notDstA rfl)
                    refine step_val (v := .slice (some ⟨bA, oA, none⟩) xs.length c') (w' := w') ?_ rfl (Below.refl _ _)
                    unfold execOp
                    simp only [e, Sem.run_pure]
                  · cases ho
                    have e : a'.eval (.tmp 16) = .int .i64 (b : Int) := eb 16 (by simp [Op.operands]) (notDstA rfl)
                    refine step_val (v := .int .i64 (b : Int)) (w' := w') ?_ rfl (Below.refl _ _)
                    unfold execOp
                    simp only [e, Sem.run_pure]
                  · cases ho
                    have e : a'.eval (.tmp 0) = .slice (some ⟨bA, oA, none⟩) xs.length c' := eb 0 (by simp [Op.operands]) (notDstA rfl)
                    refine step_val (v := .slice (some ⟨bA, oA, none⟩) xs.length c') (w' := w') ?_ rfl (Below.refl _ _)
                    unfold execOp
                    simp only [e, Sem.run_pure]
                  · cases ho
                    have e : a'.eval (.tmp 16) = .int .i64 (b : Int) := eb 16 (by simp [Op.operands]) (notDstA rfl)
                    refine step_val (v := .int .i64 (b : Int)) (w' := w') ?_ rfl (Below.refl _ _)
                    unfold execOp
                    simp only [e, Sem.run_pure]
                  · cases ho
                    have e1 : a'.eval (.tmp 87) = .slice (some ⟨bA, oA, none⟩) xs.length c' := ev 87 (by simp [Op.operands, Call.operands]) 2 _ (by decide) rfl rfl
                    have e1' : a'.tmps[87]?.getD undef = .slice (some ⟨bA, oA, none⟩) xs.length c' := by rw [← Array.getD_eq_getD_getElem?]; exact e1
                    have e2 : a'.eval (.tmp 88) = .int .i64 (b : Int) := ev 88 (by simp [Op.operands, Call.operands]) 3 _ (by decide) rfl rfl
                    have e2' : a'.tmps[88]?.getD undef = .int .i64 (b : Int) := by rw [← Array.getD_eq_getD_getElem?]; exact e2
                    refine step_val (v := .pointer (some ⟨bA, oA + b, none⟩)) (w' := w') ?_ rfl (Below.refl _ _)
                    unfold execOp
                    simp [go_sem, e1', e2', hblx]
                  · cases ho
                    have e : a'.eval (.tmp 89) = .pointer (some ⟨bA, oA + b, none⟩) := ev 89 (by simp [Op.operands, Call.operands]) 4 _ (by decide) rfl rfl
                    have e' : a'.tmps[89]?.getD undef = .pointer (some ⟨bA, oA + b, none⟩) := by rw [← Array.getD_eq_getD_getElem?]; exact e
                    refine step_val (v := .string s) (w' := w') ?_ rfl (Below.refl _ _)
                    unfold execOp
                    simp [go_sem, e', hcs]
                  · cases ho
                    have e : a'.eval (.tmp 2) = .int .i64 (size : Int) := eb 2 (by simp [Op.operands]) (notDstA rfl)
                    refine step_val (v := .int .i64 (size : Int)) (w' := w') ?_ rfl (Below.refl _ _)
                    unfold execOp
                    simp only [e, Sem.run_pure]
                  · cases ho
                    have e : a'.eval (.tmp 91) = .int .i64 (size : Int) := ev 91 (by simp [Op.operands, Call.operands]) 6 _ (by decide) rfl rfl
                    have e' : a'.tmps[91]?.getD undef = .int .i64 (size : Int) := by rw [← Array.getD_eq_getD_getElem?]; exact e
                    refine step_val (v := .int .i64 (r : Int)) (w' := w') ?_ rfl (Below.refl _ _)
                    unfold execOp
                    simp [go_sem, e', s4, s5, s6]
                  · cases ho
                    have e1 : a'.eval (.tmp 90) = .string s := ev 90 (by simp [Op.operands, Call.operands]) 5 _ (by decide) rfl rfl
                    have e1' : a'.tmps[90]?.getD undef = .string s := by rw [← Array.getD_eq_getD_getElem?]; exact e1
                    have e2 : a'.eval (.tmp 92) = .int .i64 (r : Int) := ev 92 (by simp [Op.operands, Call.operands]) 7 _ (by decide) rfl rfl
                    have e2' : a'.tmps[92]?.getD undef = .int .i64 (r : Int) := by rw [← Array.getD_eq_getD_getElem?]; exact e2
                    refine step_val (v := .string (s.extract 0 r)) (w' := w') ?_ rfl (Below.refl _ _)
                    unfold execOp
                    simp [go_sem, e1', e2', r2, r3, hrs]
                  · cases ho
                    have e : a'.eval (.tmp 2) = .int .i64 (size : Int) := eb 2 (by simp [Op.operands]) (notDstA rfl)
                    refine step_val (v := .int .i64 (size : Int)) (w' := w') ?_ rfl (Below.refl _ _)
                    unfold execOp
                    simp only [e, Sem.run_pure]
                  · cases ho
                    have e : a'.eval (.tmp 94) = .int .i64 (size : Int) := ev 94 (by simp [Op.operands, Call.operands]) 9 _ (by decide) rfl rfl
                    have e' : a'.tmps[94]?.getD undef = .int .i64 (size : Int) := by rw [← Array.getD_eq_getD_getElem?]; exact e
                    refine step_val (v := .int .i64 (r : Int)) (w' := w') ?_ rfl (Below.refl _ _)
                    unfold execOp
                    simp [go_sem, e', s4, s5, s6]
                  · cases ho
                    have e : a'.eval (.tmp 95) = .int .i64 (r : Int) := ev 95 (by simp [Op.operands, Call.operands]) 10 _ (by decide) rfl rfl
                    have e' : a'.tmps[95]?.getD undef = .int .i64 (r : Int) := by rw [← Array.getD_eq_getD_getElem?]; exact e
                    refine step_val (v := .int .i64 (z : Int)) (w' := w') ?_ rfl (Below.refl _ _)
                    unfold execOp
                    simp [go_sem, e', w1]
                  · cases ho
                    have e : a'.eval (.tmp 96) = .int .i64 (z : Int) := ev 96 (by simp [Op.operands]) 11 _ (by decide) rfl rfl
                    obtain ⟨i0, q1', q2', q3', q4'⟩ := info_parts u8_info
                    obtain ⟨wm, hm, hown, hgm⟩ := run_make_full (P := Tryz.prog) w' wt.heap.size 58 5 i0 (.int .u8 0) 1 Tryz.underlying58 q1' q2' q3' .i64 .i64 z (by rw [q4']; omega) (by unfold maxLen; omega) hb.size
                    refine step_val (v := .slice (some ⟨w'.heap.size, 0, none⟩) z z) (w' := wm) ?_ ⟨w'.heap.size, rfl, hown⟩ ((Below.refl _ _).grown hgm (Nat.le_refl _) (fun k hk => by cases hk))
                    unfold execOp
                    simp only [e]
                    rw [Sem.run_bind, hm]
                    rfl
                  · cases ho
                    obtain ⟨gm, e, hown⟩ := ev 97 (by simp [Op.operands]) 12 _ (by decide) rfl rfl
                    have hcv := made_zerosC hown
                    refine step_val (v := .string (zerosB z)) (w' := w') ?_ rfl (Below.refl _ _)
                    unfold execOp
                    simp only [e]
                    rw [Sem.run_bind, hcv]
                    rfl
                  · cases ho
                    have e1 : a'.eval (.tmp 93) = .string (s.extract 0 r) := ev 93 (by simp [Op.operands, Call.operands]) 8 _ (by decide) rfl rfl
                    have e1' : a'.tmps[93]?.getD undef = .string (s.extract 0 r) := by rw [← Array.getD_eq_getD_getElem?]; exact e1
                    have e2 : a'.eval (.tmp 98) = .string (zerosB z) := ev 98 (by simp [Op.operands, Call.operands]) 13 _ (by decide) rfl rfl
                    have e2' : a'.tmps[98]?.getD undef = .string (zerosB z) := by rw [← Array.getD_eq_getD_getElem?]; exact e2
                    have ad := run_string_add_sum (P := Tryz.prog) (w := w') (s.extract 0 r) (zerosB z) (by rw [zerosB_size]; omega)
                    refine step_val (v := .string t) (w' := w') ?_ rfl (Below.refl _ _)
                    unfold execOp
                    simp [go_sem, e1', e2', ad, HTT.out]
                  · cases ho
                    have e1 : a'.eval (.tmp 85) = .slice (some ⟨bA, oA, none⟩) xs.length c' := ev 85 (by simp [Op.operands, Call.operands]) 0 _ (by decide) rfl rfl
                    have e1' : a'.tmps[85]?.getD undef = .slice (some ⟨bA, oA, none⟩) xs.length c' := by rw [← Array.getD_eq_getD_getElem?]; exact e1
                    have e2 : a'.eval (.tmp 86) = .int .i64 (b : Int) := ev 86 (by simp [Op.operands, Call.operands]) 1 _ (by decide) rfl rfl
                    have e2' : a'.tmps[86]?.getD undef = .int .i64 (b : Int) := by rw [← Array.getD_eq_getD_getElem?]; exact e2
                    have e3 : a'.eval (.tmp 99) = .string t := ev 99 (by simp [Op.operands, Call.operands]) 14 _ (by decide) rfl rfl
                    have e3' : a'.tmps[99]?.getD undef = .string t := by rw [← Array.getD_eq_getD_getElem?]; exact e3
                    refine step_call (f := 45) (args := #[.slice (some ⟨bA, oA, none⟩) xs.length c', .int .i64 (b : Int), .string t]) ?_ ?_
                    · unfold execOp
                      simp [go_sem, e1', e2', e3']
                    · have := rwith_any (some ⟨bA, oA, none⟩) c' V2 b t w' hbl (by rw [HL2.out]; omega) (off_row (RXt.out.below hb))
                      rw [HL2.out] at this
                      refine this.mono ?_
                      rintro e w2 ⟨v, he, hn, hb2⟩
                      rw [HSET.out] at hn
                      exact ⟨v, he, own_low hn hb.size, hb2⟩
                · intro a' w8 hb8 hdf hsz hsp hrest
                  have hf := frame_of [85, 86, 87, 88, 89, 90, 91, 92, 93, 94, 95, 96, 97, 98, 99, 100] hdf hsz (fun t ht => hrest t (notDst_of rfl ht))
                  have o0 : w8.ownsRow wt.heap.size 9 1 (a'.tmps.getD 100 undef) zs.length (zs.map .string) := hsp 15 _ 100 (by decide) rfl rfl
                  obtain ⟨gz, cz, hvz⟩ := Go.Joins.ownsRow_form o0 (by rw [HZL.out]; omega)
                  have O8 : Hid (w8.ownsRow wt.heap.size 9 1 (.slice (some ⟨gz, 0, none⟩) zs.length cz) zs.length (zs.map .string)) := by rw [← hvz]; exact o0
                  simp only [List.map_cons, List.map_nil, putsD] at hf
                  rw [hvz, HZL.out] at hf
                  generalize a'.tmps.getD 85 undef = x85 at hf
                  generalize a'.tmps.getD 86 undef = x86 at hf
                  generalize a'.tmps.getD 87 undef = x87 at hf
                  generalize a'.tmps.getD 88 undef = x88 at hf
                  generalize a'.tmps.getD 89 undef = x89 at hf
                  generalize a'.tmps.getD 90 undef = x90 at hf
                  generalize a'.tmps.getD 91 undef = x91 at hf
                  generalize a'.tmps.getD 92 undef = x92 at hf
                  generalize a'.tmps.getD 93 undef = x93 at hf
                  generalize a'.tmps.getD 94 undef = x94 at hf
                  generalize a'.tmps.getD 95 undef = x95 at hf
                  generalize a'.tmps.getD 96 undef = x96 at hf
                  generalize a'.tmps.getD 97 undef = x97 at hf
                  generalize a'.tmps.getD 98 undef = x98 at hf
                  generalize a'.tmps.getD 99 undef = x99 at hf
                  have BX3 := Lib.hid (BXt.out.below hb8 BXt.out.lt)
                  have B3 := Lib.hid (Bt.out.trans (hb8.mono Bt.out.size))
                  have RX3 := Lib.hid (RowOff.of_own (g := gx) O8.out HGXT.out)
                  have HV3 := Lib.hid HVZ.out
                  have HL3 := Lib.hid HZL.out
                  have HF3 := Lib.hid HF2.out
                  clear hsp hrest hdf hsz o0 hvz hb8 O8 RXt BXt Bt RX2 BX2 B2 HBT HCA
                  subst hf
                  simp only [List.drop_succ_cons, List.drop_zero]
                  go_frame
                  have HFN : Hid (FitN (L2.set 3 size)) := HF3.out.set 3 (show size < 256 ^ 4 by omega)
                  have HIS : Hid ((inoC L2).setIfInBounds 3 (.int .i64 (size : Int)) = inoC (L2.set 3 size)) := by show _ = _; rw [inoC_set]
                  have HISZ : Hid (3 < (inoC L2).size) := by show _ < _; rw [inoC_size, HF3.out.1]; omega
                  have HIN2 := Lib.hid (ino_info12 HFN.out.1)
                  have CP := Lib.hid (fun A c w hr => rput_nat A c zs m nn (L2.set 3 size) w HV3.out h1 h2 HFN.out hr)
                  rw [HL3.out] at CP
                  go_wp2_with (first
                    | (refine store_int_blk 3 (.tmp 102) (.tmp 101) gx 3 .i64 (size : Int) 35 (inoC L2) rfl rfl rfl rfl (fun w => by kernel_rfl) BX3.out HISZ.out ?_; intro wf hrf hgf; rw [HIS.out] at hrf)
                    | (refine load_blk 35 (.tmp 8) gx 35 (inoC (L2.set 3 size)) _ rfl rfl rfl hrf Tryz.underlying35 rfl HIN2.out ?_; go_frame))
                  have BF := Lib.hid (B3.out.grown hgf B3.out.size (fun k e => by cases e; exact HGX.out))
                  refine (CP.out _ _ _ (off_row (RX3.out.push (.inl rfl) hgf))).mono ?_
                  rintro e wg ⟨⟨v, rfl, hn⟩, hbg⟩
                  obtain ⟨A6, c6, rfl, hr6⟩ := hn.read
                  have BG := Lib.hid (BF.out.trans (hbg.mono BF.out.size))
                  go_wp2
                  go_ret2
                  rw [HFIN.out]
                  exact ⟨⟨A6, c6, rfl, hr6⟩, BG.out⟩
              · have HFIN : Hid (cutO xs (nn : Int) (size : Int) = (putV V2 nn (L2.set 3 size), 0)) := by show _ = _; exact HCO.out _ _ (by rw [HS2.out, HTZ.out, if_neg hcz])
                have RX3 := Lib.hid RXt.out
                have BX3 := Lib.hid BXt.out
                have B3 := Lib.hid Bt.out
                have HV3 := Lib.hid HV2.out
                have HL3 := Lib.hid HL2.out
                have HF3 := Lib.hid HF2.out
                have hcc : ¬ (0 : Int) < (r : Int) ∨ ((0 : Int) < (r : Int) ∧ ¬ (0 : Int) < (b : Int)) := by omega
                clear RXt BXt Bt RX2 BX2 B2 hcz HTZ
                rcases hcc with c1 | ⟨c1, c2⟩
                · skip
                  have HFN : Hid (FitN (L2.set 3 size)) := HF3.out.set 3 (show size < 256 ^ 4 by omega)
                  have HIS : Hid ((inoC L2).setIfInBounds 3 (.int .i64 (size : Int)) = inoC (L2.set 3 size)) := by show _ = _; rw [inoC_set]
                  have HISZ : Hid (3 < (inoC L2).size) := by show _ < _; rw [inoC_size, HF3.out.1]; omega
                  have HIN2 := Lib.hid (ino_info12 HFN.out.1)
                  have CP := Lib.hid (fun A c w hr => rput_nat A c V2 m nn (L2.set 3 size) w HV3.out h1 h2 HFN.out hr)
                  rw [HL3.out] at CP
                  go_wp2_with (first
                    | (refine store_int_blk 3 (.tmp 102) (.tmp 101) gx 3 .i64 (size : Int) 35 (inoC L2) rfl rfl rfl rfl (fun w => by kernel_rfl) BX3.out HISZ.out ?_; intro wf hrf hgf; rw [HIS.out] at hrf)
                    | (refine load_blk 35 (.tmp 8) gx 35 (inoC (L2.set 3 size)) _ rfl rfl rfl hrf Tryz.underlying35 rfl HIN2.out ?_; go_frame))
                  have BF := Lib.hid (B3.out.grown hgf B3.out.size (fun k e => by cases e; exact HGX.out))
                  refine (CP.out _ _ _ (off_row (RX3.out.push (.inl rfl) hgf))).mono ?_
                  rintro e wg ⟨⟨v, rfl, hn⟩, hbg⟩
                  obtain ⟨A6, c6, rfl, hr6⟩ := hn.read
                  have BG := Lib.hid (BF.out.trans (hbg.mono BF.out.size))
                  go_wp2
                  go_ret2
                  rw [HFIN.out]
                  exact ⟨⟨A6, c6, rfl, hr6⟩, BG.out⟩
                · skip
                  have HFN : Hid (FitN (L2.set 3 size)) := HF3.out.set 3 (show size < 256 ^ 4 by omega)
                  have HIS : Hid ((inoC L2).setIfInBounds 3 (.int .i64 (size : Int)) = inoC (L2.set 3 size)) := by show _ = _; rw [inoC_set]
                  have HISZ : Hid (3 < (inoC L2).size) := by show _ < _; rw [inoC_size, HF3.out.1]; omega
                  have HIN2 := Lib.hid (ino_info12 HFN.out.1)
                  have CP := Lib.hid (fun A c w hr => rput_nat A c V2 m nn (L2.set 3 size) w HV3.out h1 h2 HFN.out hr)
                  rw [HL3.out] at CP
                  go_wp2_with (first
                    | (refine store_int_blk 3 (.tmp 102) (.tmp 101) gx 3 .i64 (size : Int) 35 (inoC L2) rfl rfl rfl rfl (fun w => by kernel_rfl) BX3.out HISZ.out ?_; intro wf hrf hgf; rw [HIS.out] at hrf)
                    | (refine load_blk 35 (.tmp 8) gx 35 (inoC (L2.set 3 size)) _ rfl rfl rfl hrf Tryz.underlying35 rfl HIN2.out ?_; go_frame))
                  have BF := Lib.hid (B3.out.grown hgf B3.out.size (fun k e => by cases e; exact HGX.out))
                  refine (CP.out _ _ _ (off_row (RX3.out.push (.inl rfl) hgf))).mono ?_
                  rintro e wg ⟨⟨v, rfl, hn⟩, hbg⟩
                  obtain ⟨A6, c6, rfl, hr6⟩ := hn.read
                  have BG := Lib.hid (BF.out.trans (hbg.mono BF.out.size))
                  go_wp2
                  go_ret2
                  rw [HFIN.out]
                  exact ⟨⟨A6, c6, rfl, hr6⟩, BG.out⟩
          | false =>
            rw [if_neg (by rw [hdb]; decide)] at hgd
            rw [hgd] at CGD
            have hgv : giveV V m l10 = V := by unfold giveV; rw [hdb]; simp
            rw [hgv] at HDI
            have HV2 := Lib.hid HVV.out
            have HL2 := Lib.hid HVL.out
            have HS2 : Hid (shortG noK m size (xs, l) = tailZ m size (V, L2)) := by show _ = _; rw [HSH.out, HS70.out, HDI.out]
            clear hgd hdb hgv
            go_wp2_with fail
            refine (CGD.out _).mono ?_
            rintro e w4' ⟨rfl, rfl⟩
            have RX5 := Lib.hid RX.out
            have BX5 := Lib.hid BX.out
            have B5 := Lib.hid BB.out
            clear RX BX BB k10 CGD
            generalize w4 = w5 at *
            have CAT := Lib.hid (fun A c w hr => rat_any A c V m (size / 128) L2 w HV2.out HF2.out (by omega) hr)
            rw [HL2.out, HDN.out] at CAT
            obtain ⟨b, hb⟩ : ∃ b, atX V m L2 (size / 128) = b := ⟨_, rfl⟩
            have HBD : Hid (b ≠ 0 → datB V m b = true) := fun h0 => by rw [← hb] at h0 ⊢; exact atX_dat h0
            obtain ⟨q, hq⟩ : ∃ q, size / 128 = q := ⟨_, rfl⟩
            obtain ⟨r, hr⟩ : ∃ r, size % 128 = r := ⟨_, rfl⟩
            have HTZ : Hid (tailZ m size (V, L2) = if r ≠ 0 ∧ b ≠ 0 then (layX V b r (List.replicate (128 - r) 0), L2) else (V, L2)) := by show _ = _; unfold tailZ; dsimp only; rw [hb, hr]
            have s1 : (size : Int).tdiv 128 = (q : Int) := by rw [← hq]; rfl
            have s2 : IntKind.i64.wrap (q : Int) = (q : Int) := IntWalk.i64_in _ (by omega)
            have s3 : (size : Int) / 128 = (q : Int) := by omega
            have s4 : (size : Int).tmod 128 = (r : Int) := by rw [← hr]; rfl
            have s5 : IntKind.i64.wrap (r : Int) = (r : Int) := IntWalk.i64_in _ (by omega)
            have s6 : (size : Int) % 128 = (r : Int) := by omega
            have r128 : r < 128 := by omega
            have HIN2' := Lib.hid (ino_info12 HF2.out.1)
            rw [hb, hq] at CAT
            clear hb hq hr
            go_wp2_with (first
              | (refine store_int_blk 3 (.tmp 71) _ gx 10 .i64 0 35 (inoC L) rfl rfl rfl rfl (fun w => by kernel_rfl) BX5.out HIS10Z.out ?_; intro w2 hr2 hg2; rw [HIS10.out] at hr2)
              | (refine load_blk 35 (.tmp 8) gx 35 (inoC L2) _ rfl rfl rfl hr2 Tryz.underlying35 rfl HIN2'.out ?_; go_frame))
            have BX2 := Lib.hid hr2
            have B2 := Lib.hid (B5.out.grown hg2 B5.out.size (fun k e => by cases e; exact HGX.out))
            have RX2 := Lib.hid (RX5.out.push (.inl rfl) hg2)
            clear hr2 hg2 BX5 B5 RX5
            refine (CAT.out _ _ _ (off_row RX2.out)).mono ?_
            rintro e wt ⟨rfl, hbt⟩
            have BXt := Lib.hid (BX2.out.below hbt BX2.out.lt)
            have RXt := Lib.hid (RX2.out.below hbt)
            have Bt := Lib.hid (B2.out.trans (hbt.mono B2.out.size))
            clear hbt CAT HIN2'
            by_cases hcz : r ≠ 0 ∧ b ≠ 0
            · have r1 : (0 : Int) < (r : Int) := by omega
              have b1 : (0 : Int) < (b : Int) := by omega
              rw [if_pos hcz] at HTZ
              have hbd := datB_iff.1 (HBD.out hcz.2)
              have hbl : b < V.length := hbd.2
              have hblx : b < xs.length := by rw [← HL2.out]; exact hbl
              obtain ⟨s, hs⟩ : ∃ s, V[b] = s := ⟨_, rfl⟩
              have hss : s.size = 128 := by rw [← hs]; exact HV2.out.1 _ (List.getElem_mem hbl)
              obtain ⟨z, hz⟩ : ∃ z, 128 - r = z := ⟨_, rfl⟩
              obtain ⟨zs, hzs⟩ : ∃ zs, layX V b r (List.replicate (128 - r) 0) = zs := ⟨_, rfl⟩
              obtain ⟨t, ht⟩ : ∃ t, s.extract 0 r ++ zerosB z = t := ⟨_, rfl⟩
              have HSET : Hid (V.set b t = zs) := by
                show _ = _
                rw [← hzs]
                unfold layX
                rw [List.getD_eq_getElem?_getD, List.getElem?_eq_getElem hbl, hs]
                congr 1
                rw [← ht]
                apply WideShapes.bytes_inj
                have e1 := Lib.extract_data s 0 r
                have e2 : s.data.toList.length = 128 := by rw [Array.length_toList]; exact hss
                rw [show (some s).getD ⟨#[]⟩ = s from rfl, layB_list]
                simp only [ByteArray.data_append, Array.toList_append, e1, List.drop_zero, Nat.sub_zero, zerosB_list]
                rw [hz, List.length_replicate, List.drop_of_length_le (by omega), List.append_nil]
              have HZL : Hid (zs.length = xs.length) := by show _ = _; rw [← hzs]; exact (layX_length _ _ _ _).trans HL2.out
              have HVZ : Hid (IsVol zs m) := by show IsVol _ _; rw [← hzs]; exact layX_ok HV2.out (HBD.out hcz.2) (by rw [List.length_replicate]; omega)
              have HFIN : Hid (cutO xs (nn : Int) (size : Int) = (putV zs nn (L2.set 3 size), 0)) := by show _ = _; exact HCO.out _ _ (by rw [HS2.out, HTZ.out, hzs])
              have HSB := Lib.hid hs
              have w1 : IntKind.i64.wrap (128 - (r : Int)) = (z : Int) := by
                have : IntKind.i64.wrap (128 - (r : Int)) = 128 - (r : Int) := IntWalk.i64_in _ (by omega)
                rw [this]; omega
              have hrs : r ≤ s.size := by omega
              have r2 : (0 : Int) ≤ (r : Int) := by omega
              have r3 : (r : Int) ≤ (s.size : Int) := by omega
              have hz128 : z ≤ 128 := by omega
              have HTT := Lib.hid ht
              have HSS := Lib.hid hss
              have hes : (s.extract 0 r).size ≤ 128 := by rw [ByteArray.size_extract]; omega
              obtain ⟨bA, oA, hA1, _, _, hcA⟩ : ∃ b o, A' = some ⟨b, o, none⟩ ∧ b < wt.heap.size ∧ b ≠ gx ∧ ∀ i v, (V.map Value.string)[i]? = some v → wt.cell? ⟨b, o + i, none⟩ = some v := by
                rcases RXt.out with h | h
                · exfalso
                  have := congrArg List.length h
                  have h0 : V.length = 0 := by simpa using this
                  omega
                · exact h
              subst hA1
              have HCA : Hid (wt.cell? ⟨bA, oA + b, none⟩ = some (.string s)) := hcA b _ (by rw [List.getElem?_map, List.getElem?_eq_getElem hbl, hs]; rfl)
              have HBT : Hid (∀ w', Below wt.heap.size wt w' → w'.cell? ⟨bA, oA + b, none⟩ = some (.string s)) := fun w' hb => by
                rcases (RXt.out.below hb) with h | ⟨b2, o2, hA, _, _, hc⟩
                · exfalso
                  have := congrArg List.length h
                  have h0 : V.length = 0 := by simpa using this
                  omega
                · injection hA with hA
                  injection hA with h1 h2 _
                  have := hc b (.string s) (by rw [List.getElem?_map, List.getElem?_eq_getElem hbl, HSB.out]; rfl)
                  rwa [← h1, ← h2] at this
              have hgxt : gx < wt.heap.size := BXt.out.lt
              have HGXT := Lib.hid hgxt
              clear hs hz hzs ht hss hbd hcA hcz hgxt
              go_wp2
              refine wp_region_invN 16 (cutW wt.heap.size (some ⟨bA, oA, none⟩) xs.length c' bA (oA + b) b size r z s t zs) (by kernel_rfl) (by kernel_rfl) (cutW_mono wt.heap.size (some ⟨bA, oA, none⟩) xs.length c' bA (oA + b) b size r z s t zs) ?_ ?_
              · intro i o' a' w' hi ho hb hag
                have ev : ∀ t', Operand.tmp t' ∈ o'.op.operands → ∀ (j : Nat) (oj : Oper), j < 16 → _ → oj.dst = some t' → cutW wt.heap.size (some ⟨bA, oA, none⟩) xs.length c' bA (oA + b) b size r z s t zs j (a'.eval (.tmp t')) w' := fun t' ht j oj hjn hj hd => (hag t' ht).1 j oj hjn hj hd
                have eb : ∀ t', Operand.tmp t' ∈ o'.op.operands → _ → a'.eval (.tmp t') = _ := fun t' ht h => (hag t' ht).2 h
                have hcs := HBT.out w' hb
                obtain rfl | rfl | rfl | rfl | rfl | rfl | rfl | rfl | rfl | rfl | rfl | rfl | rfl | rfl | rfl | rfl : i = 0 ∨ i = 1 ∨ i = 2 ∨ i = 3 ∨ i = 4 ∨ i = 5 ∨ i = 6 ∨ i = 7 ∨ i = 8 ∨ i = 9 ∨ i = 10 ∨ i = 11 ∨ i = 12 ∨ i = 13 ∨ i = 14 ∨ i = 15 := by omega
                · cases ho
                  have e : a'.eval (.tmp 0) = .slice (some ⟨bA, oA, none⟩) xs.length c' := eb 0 (by simp [Op.operands]) (notDstA rfl)
                  refine step_val (v := .slice (some ⟨bA, oA, none⟩) xs.length c') (w' := w') ?_ rfl (Below.refl _ _)
                  unfold execOp
                  simp only [e, Sem.run_pure]
                · cases ho
                  have e : a'.eval (.tmp 16) = .int .i64 (b : Int) := eb 16 (by simp [Op.operands]) (notDstA rfl)
                  refine step_val (v := .int .i64 (b : Int)) (w' := w') ?_ rfl (Below.refl _ _)
                  unfold execOp
                  simp only [e, Sem.run_pure]
                · cases ho
                  have e : a'.eval (.tmp 0) = .slice (some ⟨bA, oA, none⟩) xs.length c' := eb 0 (by simp [Op.operands]) (notDstA rfl)
                  refine step_val (v := .slice (some ⟨bA, oA, none⟩) xs.length c') (w' := w') ?_ rfl (Below.refl _ _)
                  unfold execOp
                  simp only [e, Sem.run_pure]
                · cases ho
                  have e : a'.eval (.tmp 16) = .int .i64 (b : Int) := eb 16 (by simp [Op.operands]) (notDstA rfl)
                  refine step_val (v := .int .i64 (b : Int)) (w' := w') ?_ rfl (Below.refl _ _)
                  unfold execOp
                  simp only [e, Sem.run_pure]
                · cases ho
                  have e1 : a'.eval (.tmp 87) = .slice (some ⟨bA, oA, none⟩) xs.length c' := ev 87 (by simp [Op.operands, Call.operands]) 2 _ (by decide) rfl rfl
                  have e1' : a'.tmps[87]?.getD undef = .slice (some ⟨bA, oA, none⟩) xs.length c' := by rw [← Array.getD_eq_getD_getElem?]; exact e1
                  have e2 : a'.eval (.tmp 88) = .int .i64 (b : Int) := ev 88 (by simp [Op.operands, Call.operands]) 3 _ (by decide) rfl rfl
                  have e2' : a'.tmps[88]?.getD undef = .int .i64 (b : Int) := by rw [← Array.getD_eq_getD_getElem?]; exact e2
                  refine step_val (v := .pointer (some ⟨bA, oA + b, none⟩)) (w' := w') ?_ rfl (Below.refl _ _)
                  unfold execOp
                  simp [go_sem, e1', e2', hblx]
                · cases ho
                  have e : a'.eval (.tmp 89) = .pointer (some ⟨bA, oA + b, none⟩) := ev 89 (by simp [Op.operands, Call.operands]) 4 _ (by decide) rfl rfl
                  have e' : a'.tmps[89]?.getD undef = .pointer (some ⟨bA, oA + b, none⟩) := by rw [← Array.getD_eq_getD_getElem?]; exact e
                  refine step_val (v := .string s) (w' := w') ?_ rfl (Below.refl _ _)
                  unfold execOp
                  simp [go_sem, e', hcs]
                · cases ho
                  have e : a'.eval (.tmp 2) = .int .i64 (size : Int) := eb 2 (by simp [Op.operands]) (notDstA rfl)
                  refine step_val (v := .int .i64 (size : Int)) (w' := w') ?_ rfl (Below.refl _ _)
                  unfold execOp
                  simp only [e, Sem.run_pure]
                · cases ho
                  have e : a'.eval (.tmp 91) = .int .i64 (size : Int) := ev 91 (by simp [Op.operands, Call.operands]) 6 _ (by decide) rfl rfl
                  have e' : a'.tmps[91]?.getD undef = .int .i64 (size : Int) := by rw [← Array.getD_eq_getD_getElem?]; exact e
                  refine step_val (v := .int .i64 (r : Int)) (w' := w') ?_ rfl (Below.refl _ _)
                  unfold execOp
                  simp [go_sem, e', s4, s5, s6]
                · cases ho
                  have e1 : a'.eval (.tmp 90) = .string s := ev 90 (by simp [Op.operands, Call.operands]) 5 _ (by decide) rfl rfl
                  have e1' : a'.tmps[90]?.getD undef = .string s := by rw [← Array.getD_eq_getD_getElem?]; exact e1
                  have e2 : a'.eval (.tmp 92) = .int .i64 (r : Int) := ev 92 (by simp [Op.operands, Call.operands]) 7 _ (by decide) rfl rfl
                  have e2' : a'.tmps[92]?.getD undef = .int .i64 (r : Int) := by rw [← Array.getD_eq_getD_getElem?]; exact e2
                  refine step_val (v := .string (s.extract 0 r)) (w' := w') ?_ rfl (Below.refl _ _)
                  unfold execOp
                  simp [go_sem, e1', e2', r2, r3, hrs]
                · cases ho
                  have e : a'.eval (.tmp 2) = .int .i64 (size : Int) := eb 2 (by simp [Op.operands]) (notDstA rfl)
                  refine step_val (v := .int .i64 (size : Int)) (w' := w') ?_ rfl (Below.refl _ _)
                  unfold execOp
                  simp only [e, Sem.run_pure]
                · cases ho
                  have e : a'.eval (.tmp 94) = .int .i64 (size : Int) := ev 94 (by simp [Op.operands, Call.operands]) 9 _ (by decide) rfl rfl
                  have e' : a'.tmps[94]?.getD undef = .int .i64 (size : Int) := by rw [← Array.getD_eq_getD_getElem?]; exact e
                  refine step_val (v := .int .i64 (r : Int)) (w' := w') ?_ rfl (Below.refl _ _)
                  unfold execOp
                  simp [go_sem, e', s4, s5, s6]
                · cases ho
                  have e : a'.eval (.tmp 95) = .int .i64 (r : Int) := ev 95 (by simp [Op.operands, Call.operands]) 10 _ (by decide) rfl rfl
                  have e' : a'.tmps[95]?.getD undef = .int .i64 (r : Int) := by rw [← Array.getD_eq_getD_getElem?]; exact e
                  refine step_val (v := .int .i64 (z : Int)) (w' := w') ?_ rfl (Below.refl _ _)
                  unfold execOp
                  simp [go_sem, e', w1]
                · cases ho
                  have e : a'.eval (.tmp 96) = .int .i64 (z : Int) := ev 96 (by simp [Op.operands]) 11 _ (by decide) rfl rfl
                  obtain ⟨i0, q1', q2', q3', q4'⟩ := info_parts u8_info
                  obtain ⟨wm, hm, hown, hgm⟩ := run_make_full (P := Tryz.prog) w' wt.heap.size 58 5 i0 (.int .u8 0) 1 Tryz.underlying58 q1' q2' q3' .i64 .i64 z (by rw [q4']; omega) (by unfold maxLen; omega) hb.size
                  refine step_val (v := .slice (some ⟨w'.heap.size, 0, none⟩) z z) (w' := wm) ?_ ⟨w'.heap.size, rfl, hown⟩ ((Below.refl _ _).grown hgm (Nat.le_refl _) (fun k hk => by cases hk))
                  unfold execOp
                  simp only [e]
                  rw [Sem.run_bind, hm]
                  rfl
                · cases ho
                  obtain ⟨gm, e, hown⟩ := ev 97 (by simp [Op.operands]) 12 _ (by decide) rfl rfl
                  have hcv := made_zerosC hown
                  refine step_val (v := .string (zerosB z)) (w' := w') ?_ rfl (Below.refl _ _)
                  unfold execOp
                  simp only [e]
                  rw [Sem.run_bind, hcv]
                  rfl
                · cases ho
                  have e1 : a'.eval (.tmp 93) = .string (s.extract 0 r) := ev 93 (by simp [Op.operands, Call.operands]) 8 _ (by decide) rfl rfl
                  have e1' : a'.tmps[93]?.getD undef = .string (s.extract 0 r) := by rw [← Array.getD_eq_getD_getElem?]; exact e1
                  have e2 : a'.eval (.tmp 98) = .string (zerosB z) := ev 98 (by simp [Op.operands, Call.operands]) 13 _ (by decide) rfl rfl
                  have e2' : a'.tmps[98]?.getD undef = .string (zerosB z) := by rw [← Array.getD_eq_getD_getElem?]; exact e2
                  have ad := run_string_add_sum (P := Tryz.prog) (w := w') (s.extract 0 r) (zerosB z) (by rw [zerosB_size]; omega)
                  refine step_val (v := .string t) (w' := w') ?_ rfl (Below.refl _ _)
                  unfold execOp
                  simp [go_sem, e1', e2', ad, HTT.out]
                · cases ho
                  have e1 : a'.eval (.tmp 85) = .slice (some ⟨bA, oA, none⟩) xs.length c' := ev 85 (by simp [Op.operands, Call.operands]) 0 _ (by decide) rfl rfl
                  have e1' : a'.tmps[85]?.getD undef = .slice (some ⟨bA, oA, none⟩) xs.length c' := by rw [← Array.getD_eq_getD_getElem?]; exact e1
                  have e2 : a'.eval (.tmp 86) = .int .i64 (b : Int) := ev 86 (by simp [Op.operands, Call.operands]) 1 _ (by decide) rfl rfl
                  have e2' : a'.tmps[86]?.getD undef = .int .i64 (b : Int) := by rw [← Array.getD_eq_getD_getElem?]; exact e2
                  have e3 : a'.eval (.tmp 99) = .string t := ev 99 (by simp [Op.operands, Call.operands]) 14 _ (by decide) rfl rfl
                  have e3' : a'.tmps[99]?.getD undef = .string t := by rw [← Array.getD_eq_getD_getElem?]; exact e3
                  refine step_call (f := 45) (args := #[.slice (some ⟨bA, oA, none⟩) xs.length c', .int .i64 (b : Int), .string t]) ?_ ?_
                  · unfold execOp
                    simp [go_sem, e1', e2', e3']
                  · have := rwith_any (some ⟨bA, oA, none⟩) c' V b t w' hbl (by rw [HL2.out]; omega) (off_row (RXt.out.below hb))
                    rw [HL2.out] at this
                    refine this.mono ?_
                    rintro e w2 ⟨v, he, hn, hb2⟩
                    rw [HSET.out] at hn
                    exact ⟨v, he, own_low hn hb.size, hb2⟩
              · intro a' w8 hb8 hdf hsz hsp hrest
                have hf := frame_of [85, 86, 87, 88, 89, 90, 91, 92, 93, 94, 95, 96, 97, 98, 99, 100] hdf hsz (fun t ht => hrest t (notDst_of rfl ht))
                have o0 : w8.ownsRow wt.heap.size 9 1 (a'.tmps.getD 100 undef) zs.length (zs.map .string) := hsp 15 _ 100 (by decide) rfl rfl
                obtain ⟨gz, cz, hvz⟩ := Go.Joins.ownsRow_form o0 (by rw [HZL.out]; omega)
                have O8 : Hid (w8.ownsRow wt.heap.size 9 1 (.slice (some ⟨gz, 0, none⟩) zs.length cz) zs.length (zs.map .string)) := by rw [← hvz]; exact o0
                simp only [List.map_cons, List.map_nil, putsD] at hf
                rw [hvz, HZL.out] at hf
                generalize a'.tmps.getD 85 undef = x85 at hf
                generalize a'.tmps.getD 86 undef = x86 at hf
                generalize a'.tmps.getD 87 undef = x87 at hf
                generalize a'.tmps.getD 88 undef = x88 at hf
                generalize a'.tmps.getD 89 undef = x89 at hf
                generalize a'.tmps.getD 90 undef = x90 at hf
                generalize a'.tmps.getD 91 undef = x91 at hf
                generalize a'.tmps.getD 92 undef = x92 at hf
                generalize a'.tmps.getD 93 undef = x93 at hf
                generalize a'.tmps.getD 94 undef = x94 at hf
                generalize a'.tmps.getD 95 undef = x95 at hf
                generalize a'.tmps.getD 96 undef = x96 at hf
                generalize a'.tmps.getD 97 undef = x97 at hf
                generalize a'.tmps.getD 98 undef = x98 at hf
                generalize a'.tmps.getD 99 undef = x99 at hf
                have BX3 := Lib.hid (BXt.out.below hb8 BXt.out.lt)
                have B3 := Lib.hid (Bt.out.trans (hb8.mono Bt.out.size))
                have RX3 := Lib.hid (RowOff.of_own (g := gx) O8.out HGXT.out)
                have HV3 := Lib.hid HVZ.out
                have HL3 := Lib.hid HZL.out
                have HF3 := Lib.hid HF2.out
                clear hsp hrest hdf hsz o0 hvz hb8 O8 RXt BXt Bt RX2 BX2 B2 HBT HCA
                subst hf
                simp only [List.drop_succ_cons, List.drop_zero]
                go_frame
                have HFN : Hid (FitN (L2.set 3 size)) := HF3.out.set 3 (show size < 256 ^ 4 by omega)
                have HIS : Hid ((inoC L2).setIfInBounds 3 (.int .i64 (size : Int)) = inoC (L2.set 3 size)) := by show _ = _; rw [inoC_set]
                have HISZ : Hid (3 < (inoC L2).size) := by show _ < _; rw [inoC_size, HF3.out.1]; omega
                have HIN2 := Lib.hid (ino_info12 HFN.out.1)
                have CP := Lib.hid (fun A c w hr => rput_nat A c zs m nn (L2.set 3 size) w HV3.out h1 h2 HFN.out hr)
                rw [HL3.out] at CP
                go_wp2_with (first
                  | (refine store_int_blk 3 (.tmp 102) (.tmp 101) gx 3 .i64 (size : Int) 35 (inoC L2) rfl rfl rfl rfl (fun w => by kernel_rfl) BX3.out HISZ.out ?_; intro wf hrf hgf; rw [HIS.out] at hrf)
                  | (refine load_blk 35 (.tmp 8) gx 35 (inoC (L2.set 3 size)) _ rfl rfl rfl hrf Tryz.underlying35 rfl HIN2.out ?_; go_frame))
                have BF := Lib.hid (B3.out.grown hgf B3.out.size (fun k e => by cases e; exact HGX.out))
                refine (CP.out _ _ _ (off_row (RX3.out.push (.inl rfl) hgf))).mono ?_
                rintro e wg ⟨⟨v, rfl, hn⟩, hbg⟩
                obtain ⟨A6, c6, rfl, hr6⟩ := hn.read
                have BG := Lib.hid (BF.out.trans (hbg.mono BF.out.size))
                go_wp2
                go_ret2
                rw [HFIN.out]
                exact ⟨⟨A6, c6, rfl, hr6⟩, BG.out⟩
            · have HFIN : Hid (cutO xs (nn : Int) (size : Int) = (putV V nn (L2.set 3 size), 0)) := by show _ = _; exact HCO.out _ _ (by rw [HS2.out, HTZ.out, if_neg hcz])
              have RX3 := Lib.hid RXt.out
              have BX3 := Lib.hid BXt.out
              have B3 := Lib.hid Bt.out
              have HV3 := Lib.hid HV2.out
              have HL3 := Lib.hid HL2.out
              have HF3 := Lib.hid HF2.out
              have hcc : ¬ (0 : Int) < (r : Int) ∨ ((0 : Int) < (r : Int) ∧ ¬ (0 : Int) < (b : Int)) := by omega
              clear RXt BXt Bt RX2 BX2 B2 hcz HTZ
              rcases hcc with c1 | ⟨c1, c2⟩
              · skip
                have HFN : Hid (FitN (L2.set 3 size)) := HF3.out.set 3 (show size < 256 ^ 4 by omega)
                have HIS : Hid ((inoC L2).setIfInBounds 3 (.int .i64 (size : Int)) = inoC (L2.set 3 size)) := by show _ = _; rw [inoC_set]
                have HISZ : Hid (3 < (inoC L2).size) := by show _ < _; rw [inoC_size, HF3.out.1]; omega
                have HIN2 := Lib.hid (ino_info12 HFN.out.1)
                have CP := Lib.hid (fun A c w hr => rput_nat A c V m nn (L2.set 3 size) w HV3.out h1 h2 HFN.out hr)
                rw [HL3.out] at CP
                go_wp2_with (first
                  | (refine store_int_blk 3 (.tmp 102) (.tmp 101) gx 3 .i64 (size : Int) 35 (inoC L2) rfl rfl rfl rfl (fun w => by kernel_rfl) BX3.out HISZ.out ?_; intro wf hrf hgf; rw [HIS.out] at hrf)
                  | (refine load_blk 35 (.tmp 8) gx 35 (inoC (L2.set 3 size)) _ rfl rfl rfl hrf Tryz.underlying35 rfl HIN2.out ?_; go_frame))
                have BF := Lib.hid (B3.out.grown hgf B3.out.size (fun k e => by cases e; exact HGX.out))
                refine (CP.out _ _ _ (off_row (RX3.out.push (.inl rfl) hgf))).mono ?_
                rintro e wg ⟨⟨v, rfl, hn⟩, hbg⟩
                obtain ⟨A6, c6, rfl, hr6⟩ := hn.read
                have BG := Lib.hid (BF.out.trans (hbg.mono BF.out.size))
                go_wp2
                go_ret2
                rw [HFIN.out]
                exact ⟨⟨A6, c6, rfl, hr6⟩, BG.out⟩
              · skip
                have HFN : Hid (FitN (L2.set 3 size)) := HF3.out.set 3 (show size < 256 ^ 4 by omega)
                have HIS : Hid ((inoC L2).setIfInBounds 3 (.int .i64 (size : Int)) = inoC (L2.set 3 size)) := by show _ = _; rw [inoC_set]
                have HISZ : Hid (3 < (inoC L2).size) := by show _ < _; rw [inoC_size, HF3.out.1]; omega
                have HIN2 := Lib.hid (ino_info12 HFN.out.1)
                have CP := Lib.hid (fun A c w hr => rput_nat A c V m nn (L2.set 3 size) w HV3.out h1 h2 HFN.out hr)
                rw [HL3.out] at CP
                go_wp2_with (first
                  | (refine store_int_blk 3 (.tmp 102) (.tmp 101) gx 3 .i64 (size : Int) 35 (inoC L2) rfl rfl rfl rfl (fun w => by kernel_rfl) BX3.out HISZ.out ?_; intro wf hrf hgf; rw [HIS.out] at hrf)
                  | (refine load_blk 35 (.tmp 8) gx 35 (inoC (L2.set 3 size)) _ rfl rfl rfl hrf Tryz.underlying35 rfl HIN2.out ?_; go_frame))
                have BF := Lib.hid (B3.out.grown hgf B3.out.size (fun k e => by cases e; exact HGX.out))
                refine (CP.out _ _ _ (off_row (RX3.out.push (.inl rfl) hgf))).mono ?_
                rintro e wg ⟨⟨v, rfl, hn⟩, hbg⟩
                obtain ⟨A6, c6, rfl, hr6⟩ := hn.read
                have BG := Lib.hid (BF.out.trans (hbg.mono BF.out.size))
                go_wp2
                go_ret2
                rw [HFIN.out]
                exact ⟨⟨A6, c6, rfl, hr6⟩, BG.out⟩
        · have h768' : ¬ (size : Int) ≤ 768 := by omega
          have HDI : Hid (dropI noK m size (V, L) = (V, L)) := by show _ = _; unfold dropI; rw [if_neg h768]
          have HV2 := Lib.hid HVV.out
          have HL2 := Lib.hid HVL.out
          have HF2 := Lib.hid HFL.out
          have HS2 : Hid (shortG noK m size (xs, l) = tailZ m size (V, L)) := by show _ = _; rw [HSH.out, HS70.out, HDI.out]
          have RX2 := Lib.hid RX.out
          have BX2 := Lib.hid BX.out
          have B2 := Lib.hid BB.out
          clear RX BX BB
          generalize w4 = w2 at *
          have CAT := Lib.hid (fun A c w hr => rat_any A c V m (size / 128) L w HV2.out HF2.out (by omega) hr)
          rw [HL2.out, HDN.out] at CAT
          obtain ⟨b, hb⟩ : ∃ b, atX V m L (size / 128) = b := ⟨_, rfl⟩
          have HBD : Hid (b ≠ 0 → datB V m b = true) := fun h0 => by rw [← hb] at h0 ⊢; exact atX_dat h0
          obtain ⟨q, hq⟩ : ∃ q, size / 128 = q := ⟨_, rfl⟩
          obtain ⟨r, hr⟩ : ∃ r, size % 128 = r := ⟨_, rfl⟩
          have HTZ : Hid (tailZ m size (V, L) = if r ≠ 0 ∧ b ≠ 0 then (layX V b r (List.replicate (128 - r) 0), L) else (V, L)) := by show _ = _; unfold tailZ; dsimp only; rw [hb, hr]
          have s1 : (size : Int).tdiv 128 = (q : Int) := by rw [← hq]; rfl
          have s2 : IntKind.i64.wrap (q : Int) = (q : Int) := IntWalk.i64_in _ (by omega)
          have s3 : (size : Int) / 128 = (q : Int) := by omega
          have s4 : (size : Int).tmod 128 = (r : Int) := by rw [← hr]; rfl
          have s5 : IntKind.i64.wrap (r : Int) = (r : Int) := IntWalk.i64_in _ (by omega)
          have s6 : (size : Int) % 128 = (r : Int) := by omega
          have r128 : r < 128 := by omega
          have HIN2' := Lib.hid (ino_info12 HF2.out.1)
          rw [hb, hq] at CAT
          clear hb hq hr
          go_wp2_with (refine load_blk 35 (.tmp 8) gx 35 (inoC L) _ rfl rfl rfl BX2.out Tryz.underlying35 rfl HIN2'.out ?_; go_frame)
          refine (CAT.out _ _ _ (off_row RX2.out)).mono ?_
          rintro e wt ⟨rfl, hbt⟩
          have BXt := Lib.hid (BX2.out.below hbt BX2.out.lt)
          have RXt := Lib.hid (RX2.out.below hbt)
          have Bt := Lib.hid (B2.out.trans (hbt.mono B2.out.size))
          clear hbt CAT HIN2'
          by_cases hcz : r ≠ 0 ∧ b ≠ 0
          · have r1 : (0 : Int) < (r : Int) := by omega
            have b1 : (0 : Int) < (b : Int) := by omega
            rw [if_pos hcz] at HTZ
            have hbd := datB_iff.1 (HBD.out hcz.2)
            have hbl : b < V.length := hbd.2
            have hblx : b < xs.length := by rw [← HL2.out]; exact hbl
            obtain ⟨s, hs⟩ : ∃ s, V[b] = s := ⟨_, rfl⟩
            have hss : s.size = 128 := by rw [← hs]; exact HV2.out.1 _ (List.getElem_mem hbl)
            obtain ⟨z, hz⟩ : ∃ z, 128 - r = z := ⟨_, rfl⟩
            obtain ⟨zs, hzs⟩ : ∃ zs, layX V b r (List.replicate (128 - r) 0) = zs := ⟨_, rfl⟩
            obtain ⟨t, ht⟩ : ∃ t, s.extract 0 r ++ zerosB z = t := ⟨_, rfl⟩
            have HSET : Hid (V.set b t = zs) := by
              show _ = _
              rw [← hzs]
              unfold layX
              rw [List.getD_eq_getElem?_getD, List.getElem?_eq_getElem hbl, hs]
              congr 1
              rw [← ht]
              apply WideShapes.bytes_inj
              have e1 := Lib.extract_data s 0 r
              have e2 : s.data.toList.length = 128 := by rw [Array.length_toList]; exact hss
              rw [show (some s).getD ⟨#[]⟩ = s from rfl, layB_list]
              simp only [ByteArray.data_append, Array.toList_append, e1, List.drop_zero, Nat.sub_zero, zerosB_list]
              rw [hz, List.length_replicate, List.drop_of_length_le (by omega), List.append_nil]
            have HZL : Hid (zs.length = xs.length) := by show _ = _; rw [← hzs]; exact (layX_length _ _ _ _).trans HL2.out
            have HVZ : Hid (IsVol zs m) := by show IsVol _ _; rw [← hzs]; exact layX_ok HV2.out (HBD.out hcz.2) (by rw [List.length_replicate]; omega)
            have HFIN : Hid (cutO xs (nn : Int) (size : Int) = (putV zs nn (L.set 3 size), 0)) := by show _ = _; exact HCO.out _ _ (by rw [HS2.out, HTZ.out, hzs])
            have HSB := Lib.hid hs
            have w1 : IntKind.i64.wrap (128 - (r : Int)) = (z : Int) := by
              have : IntKind.i64.wrap (128 - (r : Int)) = 128 - (r : Int) := IntWalk.i64_in _ (by omega)
              rw [this]; omega
            have hrs : r ≤ s.size := by omega
            have r2 : (0 : Int) ≤ (r : Int) := by omega
            have r3 : (r : Int) ≤ (s.size : Int) := by omega
            have hz128 : z ≤ 128 := by omega
            have HTT := Lib.hid ht
            have HSS := Lib.hid hss
            have hes : (s.extract 0 r).size ≤ 128 := by rw [ByteArray.size_extract]; omega
            obtain ⟨bA, oA, hA1, _, _, hcA⟩ : ∃ b o, A' = some ⟨b, o, none⟩ ∧ b < wt.heap.size ∧ b ≠ gx ∧ ∀ i v, (V.map Value.string)[i]? = some v → wt.cell? ⟨b, o + i, none⟩ = some v := by
              rcases RXt.out with h | h
              · exfalso
                have := congrArg List.length h
                have h0 : V.length = 0 := by simpa using this
                omega
              · exact h
            subst hA1
            have HCA : Hid (wt.cell? ⟨bA, oA + b, none⟩ = some (.string s)) := hcA b _ (by rw [List.getElem?_map, List.getElem?_eq_getElem hbl, hs]; rfl)
            have HBT : Hid (∀ w', Below wt.heap.size wt w' → w'.cell? ⟨bA, oA + b, none⟩ = some (.string s)) := fun w' hb => by
              rcases (RXt.out.below hb) with h | ⟨b2, o2, hA, _, _, hc⟩
              · exfalso
                have := congrArg List.length h
                have h0 : V.length = 0 := by simpa using this
                omega
              · injection hA with hA
                injection hA with h1 h2 _
                have := hc b (.string s) (by rw [List.getElem?_map, List.getElem?_eq_getElem hbl, HSB.out]; rfl)
                rwa [← h1, ← h2] at this
            have hgxt : gx < wt.heap.size := BXt.out.lt
            have HGXT := Lib.hid hgxt
            clear hs hz hzs ht hss hbd hcA hcz hgxt
            go_wp2
            refine wp_region_invN 16 (cutW wt.heap.size (some ⟨bA, oA, none⟩) xs.length c' bA (oA + b) b size r z s t zs) (by kernel_rfl) (by kernel_rfl) (cutW_mono wt.heap.size (some ⟨bA, oA, none⟩) xs.length c' bA (oA + b) b size r z s t zs) ?_ ?_
            · intro i o' a' w' hi ho hb hag
              have ev : ∀ t', Operand.tmp t' ∈ o'.op.operands → ∀ (j : Nat) (oj : Oper), j < 16 → _ → oj.dst = some t' → cutW wt.heap.size (some ⟨bA, oA, none⟩) xs.length c' bA (oA + b) b size r z s t zs j (a'.eval (.tmp t')) w' := fun t' ht j oj hjn hj hd => (hag t' ht).1 j oj hjn hj hd
              have eb : ∀ t', Operand.tmp t' ∈ o'.op.operands → _ → a'.eval (.tmp t') = _ := fun t' ht h => (hag t' ht).2 h
              have hcs := HBT.out w' hb
              obtain rfl | rfl | rfl | rfl | rfl | rfl | rfl | rfl | rfl | rfl | rfl | rfl | rfl | rfl | rfl | rfl : i = 0 ∨ i = 1 ∨ i = 2 ∨ i = 3 ∨ i = 4 ∨ i = 5 ∨ i = 6 ∨ i = 7 ∨ i = 8 ∨ i = 9 ∨ i = 10 ∨ i = 11 ∨ i = 12 ∨ i = 13 ∨ i = 14 ∨ i = 15 := by omega
              · cases ho
                have e : a'.eval (.tmp 0) = .slice (some ⟨bA, oA, none⟩) xs.length c' := eb 0 (by simp [Op.operands]) (notDstA rfl)
                refine step_val (v := .slice (some ⟨bA, oA, none⟩) xs.length c') (w' := w') ?_ rfl (Below.refl _ _)
                unfold execOp
                simp only [e, Sem.run_pure]
              · cases ho
                have e : a'.eval (.tmp 16) = .int .i64 (b : Int) := eb 16 (by simp [Op.operands]) (notDstA rfl)
                refine step_val (v := .int .i64 (b : Int)) (w' := w') ?_ rfl (Below.refl _ _)
                unfold execOp
                simp only [e, Sem.run_pure]
              · cases ho
                have e : a'.eval (.tmp 0) = .slice (some ⟨bA, oA, none⟩) xs.length c' := eb 0 (by simp [Op.operands]) (notDstA rfl)
                refine step_val (v := .slice (some ⟨bA, oA, none⟩) xs.length c') (w' := w') ?_ rfl (Below.refl _ _)
                unfold execOp
                simp only [e, Sem.run_pure]
              · cases ho
                have e : a'.eval (.tmp 16) = .int .i64 (b : Int) := eb 16 (by simp [Op.operands]) (notDstA rfl)
                refine step_val (v := .int .i64 (b : Int)) (w' := w') ?_ rfl (Below.refl _ _)
                unfold execOp
                simp only [e, Sem.run_pure]
              · cases ho
                have e1 : a'.eval (.tmp 87) = .slice (some ⟨bA, oA, none⟩) xs.length c' := ev 87 (by simp [Op.operands, Call.operands]) 2 _ (by decide) rfl rfl
                have e1' : a'.tmps[87]?.getD undef = .slice (some ⟨bA, oA, none⟩) xs.length c' := by rw [← Array.getD_eq_getD_getElem?]; exact e1
                have e2 : a'.eval (.tmp 88) = .int .i64 (b : Int) := ev 88 (by simp [Op.operands, Call.operands]) 3 _ (by decide) rfl rfl
                have e2' : a'.tmps[88]?.getD undef = .int .i64 (b : Int) := by rw [← Array.getD_eq_getD_getElem?]; exact e2
                refine step_val (v := .pointer (some ⟨bA, oA + b, none⟩)) (w' := w') ?_ rfl (Below.refl _ _)
                unfold execOp
                simp [go_sem, e1', e2', hblx]
              · cases ho
                have e : a'.eval (.tmp 89) = .pointer (some ⟨bA, oA + b, none⟩) := ev 89 (by simp [Op.operands, Call.operands]) 4 _ (by decide) rfl rfl
                have e' : a'.tmps[89]?.getD undef = .pointer (some ⟨bA, oA + b, none⟩) := by rw [← Array.getD_eq_getD_getElem?]; exact e
                refine step_val (v := .string s) (w' := w') ?_ rfl (Below.refl _ _)
                unfold execOp
                simp [go_sem, e', hcs]
              · cases ho
                have e : a'.eval (.tmp 2) = .int .i64 (size : Int) := eb 2 (by simp [Op.operands]) (notDstA rfl)
                refine step_val (v := .int .i64 (size : Int)) (w' := w') ?_ rfl (Below.refl _ _)
                unfold execOp
                simp only [e, Sem.run_pure]
              · cases ho
                have e : a'.eval (.tmp 91) = .int .i64 (size : Int) := ev 91 (by simp [Op.operands, Call.operands]) 6 _ (by decide) rfl rfl
                have e' : a'.tmps[91]?.getD undef = .int .i64 (size : Int) := by rw [← Array.getD_eq_getD_getElem?]; exact e
                refine step_val (v := .int .i64 (r : Int)) (w' := w') ?_ rfl (Below.refl _ _)
                unfold execOp
                simp [go_sem, e', s4, s5, s6]
              · cases ho
                have e1 : a'.eval (.tmp 90) = .string s := ev 90 (by simp [Op.operands, Call.operands]) 5 _ (by decide) rfl rfl
                have e1' : a'.tmps[90]?.getD undef = .string s := by rw [← Array.getD_eq_getD_getElem?]; exact e1
                have e2 : a'.eval (.tmp 92) = .int .i64 (r : Int) := ev 92 (by simp [Op.operands, Call.operands]) 7 _ (by decide) rfl rfl
                have e2' : a'.tmps[92]?.getD undef = .int .i64 (r : Int) := by rw [← Array.getD_eq_getD_getElem?]; exact e2
                refine step_val (v := .string (s.extract 0 r)) (w' := w') ?_ rfl (Below.refl _ _)
                unfold execOp
                simp [go_sem, e1', e2', r2, r3, hrs]
              · cases ho
                have e : a'.eval (.tmp 2) = .int .i64 (size : Int) := eb 2 (by simp [Op.operands]) (notDstA rfl)
                refine step_val (v := .int .i64 (size : Int)) (w' := w') ?_ rfl (Below.refl _ _)
                unfold execOp
                simp only [e, Sem.run_pure]
              · cases ho
                have e : a'.eval (.tmp 94) = .int .i64 (size : Int) := ev 94 (by simp [Op.operands, Call.operands]) 9 _ (by decide) rfl rfl
                have e' : a'.tmps[94]?.getD undef = .int .i64 (size : Int) := by rw [← Array.getD_eq_getD_getElem?]; exact e
                refine step_val (v := .int .i64 (r : Int)) (w' := w') ?_ rfl (Below.refl _ _)
                unfold execOp
                simp [go_sem, e', s4, s5, s6]
              · cases ho
                have e : a'.eval (.tmp 95) = .int .i64 (r : Int) := ev 95 (by simp [Op.operands, Call.operands]) 10 _ (by decide) rfl rfl
                have e' : a'.tmps[95]?.getD undef = .int .i64 (r : Int) := by rw [← Array.getD_eq_getD_getElem?]; exact e
                refine step_val (v := .int .i64 (z : Int)) (w' := w') ?_ rfl (Below.refl _ _)
                unfold execOp
                simp [go_sem, e', w1]
              · cases ho
                have e : a'.eval (.tmp 96) = .int .i64 (z : Int) := ev 96 (by simp [Op.operands]) 11 _ (by decide) rfl rfl
                obtain ⟨i0, q1', q2', q3', q4'⟩ := info_parts u8_info
                obtain ⟨wm, hm, hown, hgm⟩ := run_make_full (P := Tryz.prog) w' wt.heap.size 58 5 i0 (.int .u8 0) 1 Tryz.underlying58 q1' q2' q3' .i64 .i64 z (by rw [q4']; omega) (by unfold maxLen; omega) hb.size
                refine step_val (v := .slice (some ⟨w'.heap.size, 0, none⟩) z z) (w' := wm) ?_ ⟨w'.heap.size, rfl, hown⟩ ((Below.refl _ _).grown hgm (Nat.le_refl _) (fun k hk => by cases hk))
                unfold execOp
                simp only [e]
                rw [Sem.run_bind, hm]
                rfl
              · cases ho
                obtain ⟨gm, e, hown⟩ := ev 97 (by simp [Op.operands]) 12 _ (by decide) rfl rfl
                have hcv := made_zerosC hown
                refine step_val (v := .string (zerosB z)) (w' := w') ?_ rfl (Below.refl _ _)
                unfold execOp
                simp only [e]
                rw [Sem.run_bind, hcv]
                rfl
              · cases ho
                have e1 : a'.eval (.tmp 93) = .string (s.extract 0 r) := ev 93 (by simp [Op.operands, Call.operands]) 8 _ (by decide) rfl rfl
                have e1' : a'.tmps[93]?.getD undef = .string (s.extract 0 r) := by rw [← Array.getD_eq_getD_getElem?]; exact e1
                have e2 : a'.eval (.tmp 98) = .string (zerosB z) := ev 98 (by simp [Op.operands, Call.operands]) 13 _ (by decide) rfl rfl
                have e2' : a'.tmps[98]?.getD undef = .string (zerosB z) := by rw [← Array.getD_eq_getD_getElem?]; exact e2
                have ad := run_string_add_sum (P := Tryz.prog) (w := w') (s.extract 0 r) (zerosB z) (by rw [zerosB_size]; omega)
                refine step_val (v := .string t) (w' := w') ?_ rfl (Below.refl _ _)
                unfold execOp
                simp [go_sem, e1', e2', ad, HTT.out]
              · cases ho
                have e1 : a'.eval (.tmp 85) = .slice (some ⟨bA, oA, none⟩) xs.length c' := ev 85 (by simp [Op.operands, Call.operands]) 0 _ (by decide) rfl rfl
                have e1' : a'.tmps[85]?.getD undef = .slice (some ⟨bA, oA, none⟩) xs.length c' := by rw [← Array.getD_eq_getD_getElem?]; exact e1
                have e2 : a'.eval (.tmp 86) = .int .i64 (b : Int) := ev 86 (by simp [Op.operands, Call.operands]) 1 _ (by decide) rfl rfl
                have e2' : a'.tmps[86]?.getD undef = .int .i64 (b : Int) := by rw [← Array.getD_eq_getD_getElem?]; exact e2
                have e3 : a'.eval (.tmp 99) = .string t := ev 99 (by simp [Op.operands, Call.operands]) 14 _ (by decide) rfl rfl
                have e3' : a'.tmps[99]?.getD undef = .string t := by rw [← Array.getD_eq_getD_getElem?]; exact e3
                refine step_call (f := 45) (args := #[.slice (some ⟨bA, oA, none⟩) xs.length c', .int .i64 (b : Int), .string t]) ?_ ?_
                · unfold execOp
                  simp [go_sem, e1', e2', e3']
                · have := rwith_any (some ⟨bA, oA, none⟩) c' V b t w' hbl (by rw [HL2.out]; omega) (off_row (RXt.out.below hb))
                  rw [HL2.out] at this
                  refine this.mono ?_
                  rintro e w2 ⟨v, he, hn, hb2⟩
                  rw [HSET.out] at hn
                  exact ⟨v, he, own_low hn hb.size, hb2⟩
            · intro a' w8 hb8 hdf hsz hsp hrest
              have hf := frame_of [85, 86, 87, 88, 89, 90, 91, 92, 93, 94, 95, 96, 97, 98, 99, 100] hdf hsz (fun t ht => hrest t (notDst_of rfl ht))
              have o0 : w8.ownsRow wt.heap.size 9 1 (a'.tmps.getD 100 undef) zs.length (zs.map .string) := hsp 15 _ 100 (by decide) rfl rfl
              obtain ⟨gz, cz, hvz⟩ := Go.Joins.ownsRow_form o0 (by rw [HZL.out]; omega)
              have O8 : Hid (w8.ownsRow wt.heap.size 9 1 (.slice (some ⟨gz, 0, none⟩) zs.length cz) zs.length (zs.map .string)) := by rw [← hvz]; exact o0
              simp only [List.map_cons, List.map_nil, putsD] at hf
              rw [hvz, HZL.out] at hf
              generalize a'.tmps.getD 85 undef = x85 at hf
              generalize a'.tmps.getD 86 undef = x86 at hf
              generalize a'.tmps.getD 87 undef = x87 at hf
              generalize a'.tmps.getD 88 undef = x88 at hf
              generalize a'.tmps.getD 89 undef = x89 at hf
              generalize a'.tmps.getD 90 undef = x90 at hf
              generalize a'.tmps.getD 91 undef = x91 at hf
              generalize a'.tmps.getD 92 undef = x92 at hf
              generalize a'.tmps.getD 93 undef = x93 at hf
              generalize a'.tmps.getD 94 undef = x94 at hf
              generalize a'.tmps.getD 95 undef = x95 at hf
              generalize a'.tmps.getD 96 undef = x96 at hf
              generalize a'.tmps.getD 97 undef = x97 at hf
              generalize a'.tmps.getD 98 undef = x98 at hf
              generalize a'.tmps.getD 99 undef = x99 at hf
              have BX3 := Lib.hid (BXt.out.below hb8 BXt.out.lt)
              have B3 := Lib.hid (Bt.out.trans (hb8.mono Bt.out.size))
              have RX3 := Lib.hid (RowOff.of_own (g := gx) O8.out HGXT.out)
              have HV3 := Lib.hid HVZ.out
              have HL3 := Lib.hid HZL.out
              have HF3 := Lib.hid HF2.out
              clear hsp hrest hdf hsz o0 hvz hb8 O8 RXt BXt Bt RX2 BX2 B2 HBT HCA
              subst hf
              simp only [List.drop_succ_cons, List.drop_zero]
              go_frame
              have HFN : Hid (FitN (L.set 3 size)) := HF3.out.set 3 (show size < 256 ^ 4 by omega)
              have HIS : Hid ((inoC L).setIfInBounds 3 (.int .i64 (size : Int)) = inoC (L.set 3 size)) := by show _ = _; rw [inoC_set]
              have HISZ : Hid (3 < (inoC L).size) := by show _ < _; rw [inoC_size, HF3.out.1]; omega
              have HIN2 := Lib.hid (ino_info12 HFN.out.1)
              have CP := Lib.hid (fun A c w hr => rput_nat A c zs m nn (L.set 3 size) w HV3.out h1 h2 HFN.out hr)
              rw [HL3.out] at CP
              go_wp2_with (first
                | (refine store_int_blk 3 (.tmp 102) (.tmp 101) gx 3 .i64 (size : Int) 35 (inoC L) rfl rfl rfl rfl (fun w => by kernel_rfl) BX3.out HISZ.out ?_; intro wf hrf hgf; rw [HIS.out] at hrf)
                | (refine load_blk 35 (.tmp 8) gx 35 (inoC (L.set 3 size)) _ rfl rfl rfl hrf Tryz.underlying35 rfl HIN2.out ?_; go_frame))
              have BF := Lib.hid (B3.out.grown hgf B3.out.size (fun k e => by cases e; exact HGX.out))
              refine (CP.out _ _ _ (off_row (RX3.out.push (.inl rfl) hgf))).mono ?_
              rintro e wg ⟨⟨v, rfl, hn⟩, hbg⟩
              obtain ⟨A6, c6, rfl, hr6⟩ := hn.read
              have BG := Lib.hid (BF.out.trans (hbg.mono BF.out.size))
              go_wp2
              go_ret2
              rw [HFIN.out]
              exact ⟨⟨A6, c6, rfl, hr6⟩, BG.out⟩
          · have HFIN : Hid (cutO xs (nn : Int) (size : Int) = (putV V nn (L.set 3 size), 0)) := by show _ = _; exact HCO.out _ _ (by rw [HS2.out, HTZ.out, if_neg hcz])
            have RX3 := Lib.hid RXt.out
            have BX3 := Lib.hid BXt.out
            have B3 := Lib.hid Bt.out
            have HV3 := Lib.hid HV2.out
            have HL3 := Lib.hid HL2.out
            have HF3 := Lib.hid HF2.out
            have hcc : ¬ (0 : Int) < (r : Int) ∨ ((0 : Int) < (r : Int) ∧ ¬ (0 : Int) < (b : Int)) := by omega
            clear RXt BXt Bt RX2 BX2 B2 hcz HTZ
            rcases hcc with c1 | ⟨c1, c2⟩
            · skip
              have HFN : Hid (FitN (L.set 3 size)) := HF3.out.set 3 (show size < 256 ^ 4 by omega)
              have HIS : Hid ((inoC L).setIfInBounds 3 (.int .i64 (size : Int)) = inoC (L.set 3 size)) := by show _ = _; rw [inoC_set]
              have HISZ : Hid (3 < (inoC L).size) := by show _ < _; rw [inoC_size, HF3.out.1]; omega
              have HIN2 := Lib.hid (ino_info12 HFN.out.1)
              have CP := Lib.hid (fun A c w hr => rput_nat A c V m nn (L.set 3 size) w HV3.out h1 h2 HFN.out hr)
              rw [HL3.out] at CP
              go_wp2_with (first
                | (refine store_int_blk 3 (.tmp 102) (.tmp 101) gx 3 .i64 (size : Int) 35 (inoC L) rfl rfl rfl rfl (fun w => by kernel_rfl) BX3.out HISZ.out ?_; intro wf hrf hgf; rw [HIS.out] at hrf)
                | (refine load_blk 35 (.tmp 8) gx 35 (inoC (L.set 3 size)) _ rfl rfl rfl hrf Tryz.underlying35 rfl HIN2.out ?_; go_frame))
              have BF := Lib.hid (B3.out.grown hgf B3.out.size (fun k e => by cases e; exact HGX.out))
              refine (CP.out _ _ _ (off_row (RX3.out.push (.inl rfl) hgf))).mono ?_
              rintro e wg ⟨⟨v, rfl, hn⟩, hbg⟩
              obtain ⟨A6, c6, rfl, hr6⟩ := hn.read
              have BG := Lib.hid (BF.out.trans (hbg.mono BF.out.size))
              go_wp2
              go_ret2
              rw [HFIN.out]
              exact ⟨⟨A6, c6, rfl, hr6⟩, BG.out⟩
            · skip
              have HFN : Hid (FitN (L.set 3 size)) := HF3.out.set 3 (show size < 256 ^ 4 by omega)
              have HIS : Hid ((inoC L).setIfInBounds 3 (.int .i64 (size : Int)) = inoC (L.set 3 size)) := by show _ = _; rw [inoC_set]
              have HISZ : Hid (3 < (inoC L).size) := by show _ < _; rw [inoC_size, HF3.out.1]; omega
              have HIN2 := Lib.hid (ino_info12 HFN.out.1)
              have CP := Lib.hid (fun A c w hr => rput_nat A c V m nn (L.set 3 size) w HV3.out h1 h2 HFN.out hr)
              rw [HL3.out] at CP
              go_wp2_with (first
                | (refine store_int_blk 3 (.tmp 102) (.tmp 101) gx 3 .i64 (size : Int) 35 (inoC L) rfl rfl rfl rfl (fun w => by kernel_rfl) BX3.out HISZ.out ?_; intro wf hrf hgf; rw [HIS.out] at hrf)
                | (refine load_blk 35 (.tmp 8) gx 35 (inoC (L.set 3 size)) _ rfl rfl rfl hrf Tryz.underlying35 rfl HIN2.out ?_; go_frame))
              have BF := Lib.hid (B3.out.grown hgf B3.out.size (fun k e => by cases e; exact HGX.out))
              refine (CP.out _ _ _ (off_row (RX3.out.push (.inl rfl) hgf))).mono ?_
              rintro e wg ⟨⟨v, rfl, hn⟩, hbg⟩
              obtain ⟨A6, c6, rfl, hr6⟩ := hn.read
              have BG := Lib.hid (BF.out.trans (hbg.mono BF.out.size))
              go_wp2
              go_ret2
              rw [HFIN.out]
              exact ⟨⟨A6, c6, rfl, hr6⟩, BG.out⟩
  · have hlt' : ¬ (size : Int) < (sx : Int) := by omega
    rw [if_neg hlts] at HCO0
    have HFIN : Hid (cutO xs (nn : Int) (size : Int) = (putV xs nn (l.set 3 size), 0)) := HCO0.out
    have RX3 := Lib.hid RX.out
    have BX3 := Lib.hid BX.out
    have B3 := Lib.hid BB.out
    have HV3 := Lib.hid HV0.out
    have HL3 : Hid (True ∧ xs.length = xs.length) := ⟨trivial, rfl⟩
    have HF3 := Lib.hid HF0.out
    clear RX BX BB
    have HFN : Hid (FitN (l.set 3 size)) := HF3.out.set 3 (show size < 256 ^ 4 by omega)
    have HIS : Hid ((inoC l).setIfInBounds 3 (.int .i64 (size : Int)) = inoC (l.set 3 size)) := by show _ = _; rw [inoC_set]
    have HISZ : Hid (3 < (inoC l).size) := by show _ < _; rw [inoC_size, HF3.out.1]; omega
    have HIN2 := Lib.hid (ino_info12 HFN.out.1)
    have CP := Lib.hid (fun A c w hr => rput_nat A c xs m nn (l.set 3 size) w HV3.out h1 h2 HFN.out hr)
    skip
    go_wp2_with (first
      | (refine store_int_blk 3 (.tmp 102) (.tmp 101) gx 3 .i64 (size : Int) 35 (inoC l) rfl rfl rfl rfl (fun w => by kernel_rfl) BX3.out HISZ.out ?_; intro wf hrf hgf; rw [HIS.out] at hrf)
      | (refine load_blk 35 (.tmp 8) gx 35 (inoC (l.set 3 size)) _ rfl rfl rfl hrf Tryz.underlying35 rfl HIN2.out ?_; go_frame))
    have BF := Lib.hid (B3.out.grown hgf B3.out.size (fun k e => by cases e; exact HGX.out))
    refine (CP.out _ _ _ (off_row (RX3.out.push (.inl rfl) hgf))).mono ?_
    rintro e wg ⟨⟨v, rfl, hn⟩, hbg⟩
    obtain ⟨A6, c6, rfl, hr6⟩ := hn.read
    have BG := Lib.hid (BF.out.trans (hbg.mono BF.out.size))
    go_wp2
    go_ret2
    rw [HFIN.out]
    exact ⟨⟨A6, c6, rfl, hr6⟩, BG.out⟩
end Go.Proofs.YtoanladhikdcaaaGreat

namespace Go.Proofs.YtoanladhikdcaaaGreat
set_option linter.unusedVariables false
set_option linter.unusedSimpArgs false
set_option maxRecDepth 100000
theorem writeO_le {xs : List ByteArray} (hx : xs.length ≤ 1000000) (n off : Int) (d : List UInt8) : (writeO xs n off d).1.length ≤ 1000000 := by
  by_cases h0 : inoE xs n = 0
  · obtain ⟨m, nn, hv, rfl, h1, h2, _⟩ := inoE_ok h0
    unfold writeO
    rw [h0, if_neg (by simp)]
    by_cases hneg : off < 0
    · rw [if_pos hneg]; simp
    · rw [if_neg hneg]
      by_cases hbig : 8960 < off ∨ 8960 < off + (d.length : Int)
      · rw [if_pos hbig]; simp
      · rw [if_neg hbig, mO_vol hv]
        cases hw : wriG noK xs m (getR xs (nn : Int)) off.toNat d with
        | none => simp
        | some r =>
          have := wriG_ok (noK_ok m) (⟨hv, rfl, getR_fit hv h1 h2⟩ : OkS xs.length m (xs, getR xs (nn : Int))) (by omega) hw
          dsimp only
          rw [putV_length, this.len]; exact hx
  · unfold writeO
    rw [if_pos h0]; simp
theorem cutO_le {xs : List ByteArray} (hx : xs.length ≤ 1000000) (n size : Int) : (cutO xs n size).1.length ≤ 1000000 := by
  by_cases h0 : inoE xs n = 0
  · obtain ⟨m, nn, hv, rfl, h1, h2, _⟩ := inoE_ok h0
    unfold cutO
    rw [h0, if_neg (by simp)]
    by_cases hneg : size < 0
    · rw [if_pos hneg]; simp
    · rw [if_neg hneg]
      by_cases hbig : 8960 < size
      · rw [if_pos hbig]; simp
      · rw [if_neg hbig, mO_vol hv]
        have := cutG_ok (noK_ok m) (⟨hv, rfl, getR_fit hv h1 h2⟩ : OkS xs.length m (xs, getR xs (nn : Int))) (size := size.toNat) (by omega)
        dsimp only
        rw [putV_length, this.len]; exact hx
  · unfold cutO
    rw [if_pos h0]; simp
end Go.Proofs.YtoanladhikdcaaaGreat

namespace Go.Proofs.YtoanladhikdcaaaGreat
open Go.RowKit
set_option linter.unusedVariables false
set_option linter.unusedSimpArgs false
set_option maxRecDepth 100000
set_option maxHeartbeats 4000000 in
theorem rcut_any (A : Option Addr) (c : Nat) (xs : List ByteArray) (n size : Int) (w : World) (hx : xs.length ≤ 1000000) (h : RowAt w w.heap.size A (xs.map .string)) :
    Calls Tryz.prog 23 #[.slice A xs.length c, .int .i64 n, .int .i64 size] w (RRow (cutO xs n size).1 (cutO xs n size).2 w) := by
  have CG := Lib.hid (rget_ino A c xs n w hx h)
  have hl12 : (getR xs n).length = 12 := getR_len _ _
  have HR := Lib.hid h
  by_cases h0 : inoE xs n = 0
  · by_cases hneg : size < 0
    · have HW : Hid (cutO xs n size = ([], 1)) := by show _ = _; unfold cutO; rw [h0, if_neg (by simp), if_pos hneg]
      rw [h0] at CG
      generalize getR xs n = l at *
      clear h0
      have HIZ : Hid ((inoC l).size = 12) := by show _ = _; rw [inoC_size, hl12]
      have HI := Lib.hid (ino_info12 hl12)
      clear h hl12
      go_enter Tryz.func23, Tryz.ntmps23
      go_wp2_with fail
      refine CG.out.mono ?_
      rintro e w1 ⟨rfl, hb1⟩
      have B1 := Lib.hid hb1
      clear hb1 CG
      go_wp2_with (refine store_blk 35 (.tmp 8) (.tmp 21) w1.heap.size 35 (inoC (List.replicate 12 0)) (inoC l) rfl rfl rfl rfl (Blk.new w1 _ _) (by rw [HIZ.out]; rfl) HI.out (inoC_one _) ?_; intro w2 hr2 hg2)
      have B2 : Below w.heap.size w w2 := (B1.out.alloc B1.out.size _).grown hg2 (by have := B1.out.size; simp; omega) (fun k e => by cases e; exact B1.out.size)
      go_ret2
      rw [HW.out]
      exact RRow.nil (B2.alloc B2.size _)
    · by_cases hbig : 8960 < size
      · have HW : Hid (cutO xs n size = ([], 6)) := by show _ = _; unfold cutO; rw [h0, if_neg (by simp), if_neg hneg, if_pos hbig]
        rw [h0] at CG
        generalize getR xs n = l at *
        clear h0
        have HIZ : Hid ((inoC l).size = 12) := by show _ = _; rw [inoC_size, hl12]
        have HI := Lib.hid (ino_info12 hl12)
        clear h hl12
        go_enter Tryz.func23, Tryz.ntmps23
        go_wp2_with fail
        refine CG.out.mono ?_
        rintro e w1 ⟨rfl, hb1⟩
        have B1 := Lib.hid hb1
        clear hb1 CG
        go_wp2_with (refine store_blk 35 (.tmp 8) (.tmp 21) w1.heap.size 35 (inoC (List.replicate 12 0)) (inoC l) rfl rfl rfl rfl (Blk.new w1 _ _) (by rw [HIZ.out]; rfl) HI.out (inoC_one _) ?_; intro w2 hr2 hg2)
        have B2 : Below w.heap.size w w2 := (B1.out.alloc B1.out.size _).grown hg2 (by have := B1.out.size; simp; omega) (fun k e => by cases e; exact B1.out.size)
        go_ret2
        rw [HW.out]
        exact RRow.nil (B2.alloc B2.size _)
      · obtain ⟨m, nn, hv, rfl, h1, h2, _⟩ := inoE_ok h0
        obtain ⟨o, rfl⟩ := Int.eq_ofNat_of_zero_le (show 0 ≤ size by omega)
        exact rcut_main A c xs m nn o w hv h1 h2 (by omega) h
  · have HW : Hid (cutO xs n size = ([], inoE xs n)) := by show _ = _; unfold cutO; rw [if_pos h0]
    generalize getR xs n = l at *
    generalize inoE xs n = cd at *
    have h01 : (cd != 0) = true := by simpa using h0
    have HIZ : Hid ((inoC l).size = 12) := by show _ = _; rw [inoC_size, hl12]
    have HI := Lib.hid (ino_info12 hl12)
    clear h hl12
    go_enter Tryz.func23, Tryz.ntmps23
    go_wp2_with fail
    refine CG.out.mono ?_
    rintro e w1 ⟨rfl, hb1⟩
    have B1 := Lib.hid hb1
    clear hb1 CG
    go_wp2_with (refine store_blk 35 (.tmp 8) (.tmp 21) w1.heap.size 35 (inoC (List.replicate 12 0)) (inoC l) rfl rfl rfl rfl (Blk.new w1 _ _) (by rw [HIZ.out]; rfl) HI.out (inoC_one _) ?_; intro w2 hr2 hg2)
    have B2 : Below w.heap.size w w2 := (B1.out.alloc B1.out.size _).grown hg2 (by have := B1.out.size; simp; omega) (fun k e => by cases e; exact B1.out.size)
    go_ret2
    rw [HW.out]
    exact RRow.nil (B2.alloc B2.size _)
end Go.Proofs.YtoanladhikdcaaaGreat
