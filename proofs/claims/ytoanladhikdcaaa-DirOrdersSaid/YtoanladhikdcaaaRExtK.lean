/-
  Joined in one text: RExtA, RExtCnt.
-/
import Derived.Test.YtoanladhikdcaaaRInoGet
import Derived.Test.YtoanladhikdcaaaExtA
import Derived.Test.YtoanladhikdcaaaExtM
namespace Go.Proofs.Ytoanladhikdcaaa
open Go.RowKit
set_option linter.unusedVariables false
set_option linter.unusedSimpArgs false
set_option maxRecDepth 100000
/-- the number of a block that files may have, or 0 -/
def goodN (xs : List ByteArray) (m b : Nat) : Nat := if datB xs m b = true then b else 0
theorem rgood_any (A : Option Addr) (c : Nat) (xs : List ByteArray) (m b : Nat) (w : World) (hx : xs.length ≤ 1000000) :
    Calls Try.prog 91 #[.slice A xs.length c, .int .i64 (dataN m : Nat), .int .i64 b] w fun e w' => e = .returned (.int .i64 (goodN xs m b : Nat)) ∧ w = w' := by
  have HD : Hid (goodN xs m b = if dataN m ≤ b ∧ b < xs.length then b else 0) := by show _ = _; unfold goodN datB; simp only [decide_eq_true_eq]
  generalize goodN xs m b = gn at *
  generalize dataN m = d at *
  generalize xs.length = q at *
  by_cases h1 : b < d
  · have k1 : (b : Int) < (d : Int) := by omega
    go_enter Try.func91, Try.ntmps91
    go_wp2
    go_ret
    exact ⟨ret_int (by rw [HD.out, if_neg (by omega)]; rfl), rfl⟩
  · have k1 : ¬ (b : Int) < (d : Int) := by omega
    by_cases h2 : q ≤ b
    · have k2 : (q : Int) ≤ (b : Int) := by omega
      go_enter Try.func91, Try.ntmps91
      go_wp2
      go_ret
      exact ⟨ret_int (by rw [HD.out, if_neg (by omega)]; rfl), rfl⟩
    · have k2 : ¬ (q : Int) ≤ (b : Int) := by omega
      go_enter Try.func91, Try.ntmps91
      go_wp2
      go_ret
      exact ⟨ret_int (by rw [HD.out, if_pos (by omega)]), rfl⟩
theorem rdata_any (A : Option Addr) (c : Nat) (xs : List ByteArray) (m : Nat) (w : World) (hv : IsVol xs m) (h : RowAt w w.heap.size A (xs.map .string)) :
    Calls Try.prog 77 #[.slice A xs.length c] w fun e w' => e = .returned (.int .i64 (dataN m : Nat)) ∧ Below w.heap.size w w' := by
  have hl := hv.len
  have CO := Lib.hid (rof_any A c xs w (by omega) h)
  unfold OfPost ofE at CO
  rw [ofR_some.2 hv] at CO
  dsimp only at CO
  clear h hv
  go_enter Try.func77, Try.ntmps77
  go_wp2_with fail
  refine CO.out.mono ?_
  rintro e w1 ⟨rfl, hb1⟩
  have B1 := Lib.hid hb1
  have hz1 := hb1.size
  clear hb1
  go_wp2
  go_ret
  exact ⟨rfl, B1.out.alloc hz1 _⟩
theorem numAt_twoB {bs : List UInt8} {p : Nat} (h : p + 2 ≤ bs.length) : numAt bs p 2 = (bs.getD p 0).toNat + 256 * (bs.getD (p + 1) 0).toNat := by
  unfold numAt
  rw [List.drop_eq_getElem_cons (by omega), List.drop_eq_getElem_cons (show p + 1 < bs.length by omega)]
  simp only [List.take_succ_cons, List.take_zero, leN, Nat.mul_zero, Nat.add_zero, List.getD_eq_getElem?_getD]
  rw [List.getElem?_eq_getElem (by omega), List.getElem?_eq_getElem (by omega)]
  rfl
theorem rtwo19_any (s : ByteArray) (p : Nat) (w : World) (hs : p + 2 ≤ s.size) (hz : s.size ≤ 1000000) :
    Calls Try.prog 103 #[.string s, .int .i64 p] w fun e w' => e = .returned (.int .i64 (numAt s.data.toList p 2 : Nat)) ∧ Below w.heap.size w w' := by
  have h1 : p < s.size := by omega
  have h2 : p + 1 < s.size := by omega
  have HN : Hid (numAt s.data.toList p 2 = s[p].toNat + 256 * s[p + 1].toNat) := by
    show _ = _
    have hdl : s.data.toList.length = s.size := by rw [Array.length_toList]; rfl
    rw [numAt_twoB (by omega), List.getD_eq_getElem?_getD, List.getD_eq_getElem?_getD, List.getElem?_eq_getElem (by omega), List.getElem?_eq_getElem (by omega)]
    rfl
  have a1 := s[p].toNat_lt
  have a2 := s[p + 1].toNat_lt
  have s1 : IntKind.i64.wrap ((p : Int) + 1) = (p : Int) + 1 := IntWalk.i64_in _ (by omega)
  have s2 : ((p : Int) + 1).toNat = p + 1 := by omega
  have s3 : (0 : Int) ≤ (p : Int) + 1 := by omega
  have s4 : (p : Int) + 1 < (s.size : Int) := by omega
  have s5 : (p : Int) < (s.size : Int) := by omega
  have s6 : (0 : Int) ≤ (p : Int) := by omega
  have s7 : IntKind.i64.wrap (s[p].toNat : Int) = (s[p].toNat : Int) := IntWalk.i64_in _ (by omega)
  have s8 : IntKind.i64.wrap (s[p + 1].toNat : Int) = (s[p + 1].toNat : Int) := IntWalk.i64_in _ (by omega)
  have s9 : IntKind.i64.wrap ((256 : Int) * (s[p + 1].toNat : Int)) = (256 : Int) * (s[p + 1].toNat : Int) := IntWalk.i64_in _ (by omega)
  have s10 : IntKind.i64.wrap ((s[p].toNat : Int) + (256 : Int) * (s[p + 1].toNat : Int)) = (s[p].toNat : Int) + (256 : Int) * (s[p + 1].toNat : Int) := IntWalk.i64_in _ (by omega)
  go_enter Try.func103, Try.ntmps103
  go_wp2_with fail
  refine wp_region_ext (by kernel_rfl) (by kernel_rfl) ?_
  repeat (go_big_quiet_step (fail))
  refine wpQuiet_nil ?_
  rintro _ ⟨u, rfl⟩
  have UB := Lib.hid u.below
  generalize u.val = W2 at *
  go_wp2
  go_ret
  exact ⟨ret_int (by rw [HN.out]; push_cast; rfl), UB.out⟩
theorem rsize_any (l : List Nat) (w : World) (hl : FitN l) :
    Calls Try.prog 63 #[.agg (inoC l)] w fun e w' => e = .returned (.int .i64 (sizeX l : Nat)) ∧ Below w.heap.size w w' := by
  have h3 := fit_lt hl 3
  obtain ⟨a0, a1, a2, a3, a4, a5, a6, a7, a8, a9, a10, a11, rfl⟩ := len12 hl.1
  have HS : Hid (sizeX [a0, a1, a2, a3, a4, a5, a6, a7, a8, a9, a10, a11] = min a3 8960) := rfl
  have h3' : a3 < 4294967296 := h3
  unfold inoC
  simp only [List.map_cons, List.map_nil]
  clear hl h3
  by_cases hb : 8960 < a3
  · have k1 : (8960 : Int) < (a3 : Int) := by omega
    go_enter Try.func63, Try.ntmps63
    go_wp2
    go_ret
    exact ⟨ret_int (by rw [HS.out]; omega), (Below.refl _ _).alloc (Nat.le_refl _) _⟩
  · have k1 : ¬ (8960 : Int) < (a3 : Int) := by omega
    go_enter Try.func63, Try.ntmps63
    go_wp2
    go_ret
    exact ⟨ret_int (by rw [HS.out]; omega), (Below.refl _ _).alloc (Nat.le_refl _) _⟩
set_option maxHeartbeats 2000000 in
theorem rat_any (A : Option Addr) (c : Nat) (xs : List ByteArray) (m k : Nat) (l : List Nat) (w : World) (hv : IsVol xs m) (hl : FitN l) (hk : k < 70) (h : RowAt w w.heap.size A (xs.map .string)) :
    Calls Try.prog 78 #[.slice A xs.length c, .int .i64 (dataN m : Nat), .agg (inoC l), .int .i64 k] w fun e w' => e = .returned (.int .i64 (atX xs m l k : Nat)) ∧ Below w.heap.size w w' := by
  have hvl := hv.len
  have hx : xs.length ≤ 1000000 := by omega
  have HA : Hid (∀ r, rawX xs m l k = r → atX xs m l k = goodN xs m r) := fun r hr => by unfold atX goodN; rw [hr]
  have CG := Lib.hid (fun (b : Nat) (w : World) => rgood_any A c xs m b w hx)
  have B0 : Hid (Below w.heap.size w (w.alloc (.cells (inoC l) 41))) := (Below.refl _ _).alloc (Nat.le_refl _) _
  have cellI : ∀ i, i < 12 → (inoC l)[i]? = some (.int .i64 ((l.getD i 0 : Nat) : Int)) := fun i hi => by
    unfold inoC
    have : i < l.length := by rw [hl.1]; exact hi
    simp [this]
  have HZ : Hid (∀ i, i < xs.length → (xs.getD i ⟨#[]⟩).size = 128) := fun i hi => hv.size i hi
  have HRow := Lib.hid h
  by_cases h6 : k < 6
  · have HR : Hid (rawX xs m l k = l.getD (4 + k) 0) := by show _ = _; unfold rawX; rw [if_pos h6]
    have hc := cellI (4 + k) (by omega)
    have k1 : (k : Int) < 6 := by omega
    have k2 : (0 : Int) ≤ (k : Int) := by omega
    have HF := Lib.hid (HA.out _ HR.out)
    clear cellI HR
    generalize l.getD (4 + k) 0 = r at *
    go_enter Try.func78, Try.ntmps78
    go_wp2_with fail
    refine (CG.out r _).mono ?_
    rintro e w' ⟨rfl, rfl⟩
    go_wp2
    go_ret
    exact ⟨ret_int (by rw [HF.out]), B0.out⟩
  · have HR : Hid (rawX xs m l k = if datB xs m (l.getD 10 0) = true then numAt (blkL xs (l.getD 10 0)) (2 * (k - 6)) 2 else 0) := by show _ = _; unfold rawX; rw [if_neg h6]
    have hc := cellI 10 (by omega)
    have k1 : ¬ (k : Int) < 6 := by omega
    have hli := fit_lt hl 10
    have HG : Hid (goodN xs m (l.getD 10 0) = if datB xs m (l.getD 10 0) = true then l.getD 10 0 else 0) := rfl
    clear cellI
    generalize l.getD 10 0 = i at *
    cases hd : datB xs m i with
    | false =>
      have HF : Hid (atX xs m l k = 0) := by
        show _ = _
        rw [HA.out 0 (by rw [HR.out, hd]; rfl)]
        unfold goodN
        rw [datB_zero]; rfl
      rw [hd] at HG
      have CG0 := Lib.hid (fun w => CG.out i w)
      rw [HG.out] at CG0
      clear hd HG
      go_enter Try.func78, Try.ntmps78
      go_wp2_with fail
      refine (CG0.out _).mono ?_
      rintro e w' ⟨rfl, rfl⟩
      go_wp2
      go_ret
      exact ⟨ret_int (by rw [HF.out]; rfl), B0.out⟩
    | true =>
      rw [hd, if_pos rfl] at HG HR
      have hdd := datB_iff.1 hd
      have hi3 := datB_pos hd
      have CG0 := Lib.hid (fun w => CG.out i w)
      rw [HG.out] at CG0
      obtain ⟨bb, oo, rfl, hbb, hcc⟩ := row_get HRow.out i hdd.2
      have hsz := HZ.out i hdd.2
      obtain ⟨p, hp⟩ : ∃ p, 2 * (k - 6) = p := ⟨_, rfl⟩
      rw [hp] at HR
      have p1 : (2 : Int) * ((k : Int) - 6) = (p : Int) := by omega
      unfold blkL at HR
      generalize xs.getD i ⟨#[]⟩ = s at *
      have CT := Lib.hid (fun w => rtwo19_any s p w (by omega) (by omega))
      have hrl : numAt s.data.toList p 2 < 65536 := numAt_lt _ _ 2
      generalize numAt s.data.toList p 2 = r at *
      have HF := Lib.hid (HA.out r HR.out)
      have hcw : (w.alloc (.cells (inoC l) 41)).cell? ⟨bb, oo + i, none⟩ = some (.string s) := (B0.out.cell (p := ⟨bb, oo + i, none⟩) hbb).trans hcc
      have q1 : IntKind.i64.wrap ((k : Int) - 6) = (k : Int) - 6 := IntWalk.i64_in _ (by omega)
      have i1 : (0 : Int) ≤ (i : Int) := by omega
      have i2 : (i : Int) < (xs.length : Int) := by omega
      have i3 : ¬ i = 0 := by omega
      clear hp hd HG HRow HZ hdd
      go_enter Try.func78, Try.ntmps78
      go_wp2_with fail
      refine (CG0.out _).mono ?_
      rintro e w' ⟨rfl, rfl⟩
      go_wp2_with fail
      refine (CT.out _).mono ?_
      rintro e w2 ⟨rfl, hb2⟩
      have B2 := Lib.hid (B0.out.trans (hb2.mono B0.out.size))
      clear hb2
      go_wp2_with fail
      refine (CG.out r _).mono ?_
      rintro e w' ⟨rfl, rfl⟩
      go_wp2
      go_ret
      exact ⟨ret_int (by rw [HF.out]), B2.out⟩
end Go.Proofs.Ytoanladhikdcaaa

namespace Go.Proofs.Ytoanladhikdcaaa
open Go.RowKit
set_option linter.unusedVariables false
set_option linter.unusedSimpArgs false
set_option maxRecDepth 100000
theorem ino_info12 {l : List Nat} (h : l.length = 12) : (Try.prog.info? 41).map (·.size) = some (inoC l).size := by rw [inoC_size, h]; kernel_rfl
theorem inoC_at {l : List Nat} (h : l.length = 12) (i : Nat) (hi : i < 12) : (inoC l)[i]? = some (.int .i64 ((l.getD i 0 : Nat) : Int)) := by
  unfold inoC
  have : i < l.length := by omega
  simp [this]
theorem getR_fit {xs : List ByteArray} {m k : Nat} (hv : IsVol xs m) (h1 : 1 ≤ k) (h2 : k ≤ m) : FitN (getR xs (k : Int)) := by
  rw [getR_vol hv h1 h2]; exact inoR_fit _ _
end Go.Proofs.Ytoanladhikdcaaa
