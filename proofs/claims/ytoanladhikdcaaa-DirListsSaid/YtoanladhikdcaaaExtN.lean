/-
  What the methods numbers and first of an open file hand back; the iterator.
-/
import Derived.Test.YtoanladhikdcaaaExtA
import Derived.Test.YtoanladhikdcaaaInfra
namespace Go.Proofs.Ytoanladhikdcaaa
open Go.RowKit Go.Shelf
set_option linter.unusedVariables false
set_option linter.unusedSimpArgs false
set_option maxRecDepth 100000
attribute [local go_sem] Oper.semAt_some
/-- seventy numbers, the first k of them as they are told -/
def numC (f : Nat → Int) (k : Nat) : Array Value := ((List.range 70).map fun j => Value.int .i64 (if j < k then f j else 0)).toArray
theorem numC_size (f : Nat → Int) (k : Nat) : (numC f k).size = 70 := by unfold numC; simp
theorem numC_get (f : Nat → Int) (k j : Nat) (hj : j < 70) : (numC f k)[j]? = some (.int .i64 (if j < k then f j else 0)) := by
  unfold numC
  rw [List.getElem?_toArray, List.getElem?_map, List.getElem?_range hj]; rfl
theorem numC_set (f : Nat → Int) (k : Nat) : (numC f k).setIfInBounds k (.int .i64 (f k)) = numC f (k + 1) := by
  apply Array.ext_getElem?
  intro j
  rw [Array.getElem?_setIfInBounds]
  by_cases hj : j < 70
  · rw [numC_get f (k + 1) j hj]
    by_cases e : k = j
    · subst e
      rw [if_pos rfl, if_pos (by rw [numC_size]; exact hj), if_pos (by omega)]
    · rw [if_neg e, numC_get f k j hj]
      by_cases h : j < k
      · rw [if_pos h, if_pos (by omega)]
      · rw [if_neg h, if_neg (by omega)]
  · rw [Array.getElem?_eq_none (by rw [numC_size]; omega)]
    by_cases e : k = j
    · subst e
      rw [if_pos rfl, if_neg (by rw [numC_size]; exact hj), Array.getElem?_eq_none (by rw [numC_size]; omega)]
    · rw [if_neg e, Array.getElem?_eq_none (by rw [numC_size]; omega)]
theorem numC_one (f : Nat → Int) (k : Nat) : ∀ v ∈ numC f k, v.oneCell' = true := by
  intro v hv
  unfold numC at hv
  simp at hv
  obtain ⟨j, _, rfl⟩ := hv
  rfl
theorem numC_zero (f : Nat → Int) : numC f 0 = Array.replicate 70 (.int .i64 0) := by
  unfold numC
  simp only [Nat.not_lt_zero, if_false]
  rfl
theorem numC_lit (f : Nat → Int) : Try.zeroCells137 = numC f 0 := by
  rw [numC_zero]
  kernel_rfl
theorem seventy_info : (Try.prog.info? 137).map (·.size) = some 70 := by kernel_rfl
theorem idx_num (f : Nat → Int) (w : World) (k : Nat) (hk : k < 70) : (Instr.index 137 (.agg (numC f 70)) (.int .i64 k)).run Try.prog w = .ok (.int .i64 (f k)) w := by
  have h1 : (0 : Int) ≤ (k : Int) ∧ (k : Int) < 70 := by omega
  have h2 := numC_get f 70 k hk
  rw [if_pos hk] at h2
  have h3 : (numC f 70)[k]'(by rw [numC_size]; exact hk) = Value.int .i64 (f k) := by
    rw [Array.getElem?_eq_getElem (by rw [numC_size]; exact hk)] at h2
    exact Option.some.inj h2
  unfold Instr.index
  simp [go_sem, run_underlying Try.underlying137, h1, hk, h2, h3, numC_size]
section
variable {B : Nat} {g m n : Nat} {V : List ByteArray} {l : List Nat}
/-- the blocks, as they are told -/
def atF (V : List ByteArray) (m : Nat) (l : List Nat) (j : Nat) : Int := atI (atX V m l j)
set_option maxHeartbeats 4000000 in
theorem numbers_any (w : World) (h : FileX B w g m n V l) : Calls Try.prog 96 #[.pointer (some ⟨g, 0, none⟩)] w fun e w' => e = .returned (.agg (numC (atF V m l) 70)) ∧ Below w.heap.size w w' := by
  have HX := Lib.hid h
  clear h
  go_enter Try.func96, Try.ntmps96
  go_wp2_with fail
  rw [numC_lit (atF V m l)]
  obtain ⟨W0, hW0⟩ : ∃ W0, ((w.alloc (.cells (numC (atF V m l) 0) 137)).alloc (.cells (numC (atF V m l) 0) 137)) = W0 := ⟨_, rfl⟩
  have G0 : Hid (Blk W0 w.heap.size 137 (numC (atF V m l) 0)) := hW0 ▸ (Blk.new w _ _).alloc _
  have G1 : Hid (Blk W0 (w.heap.size + 1) 137 (numC (atF V m l) 0)) := by
    rw [← hW0]
    have := Blk.new (w.alloc (.cells (numC (atF V m l) 0) 137)) 137 (numC (atF V m l) 0)
    rw [World.size_alloc] at this
    exact this
  have B0 : Hid (Below w.heap.size w W0) := hW0 ▸ ((Below.refl w.heap.size w).alloc (Nat.le_refl _) _).alloc (by simp) _
  rw [hW0]
  clear hW0
  go_loopw [5] (fun i wr => ∃ (k : Nat), k ≤ 70 ∧ i = .int .i64 k ∧ Hid (Blk wr (w.heap.size + 1) 137 (numC (atF V m l) k)) ∧ Hid (Blk wr w.heap.size 137 (numC (atF V m l) 0)) ∧ Hid (Below w.heap.size w wr)) (fun i _ => 70 - (intOf i).toNat)
  case atStart => exact ⟨0, by omega, rfl, G1, G0, B0⟩
  case round =>
    obtain ⟨k, hk, rfl, GK, GR, BK⟩ := hrel
    by_cases hlt : k < 70
    · have CA := Lib.hid (at_any k wr hlt (HX.out.below BK.out))
      have HF : Hid (atF V m l k = atI (atX V m l k)) := rfl
      rw [← HF.out] at CA
      have HS := Lib.hid (numC_set (atF V m l) k)
      generalize atF V m l k = v at *
      have i1 : (k : Int) < 70 := by omega
      have i2 : (0 : Int) ≤ (k : Int) := by omega
      go_wp2_with fail
      refine CA.out.mono ?_
      rintro e w1 ⟨rfl, hb1⟩
      have G1 := Lib.hid (GK.out.below hb1 GK.out.lt)
      have G2 := Lib.hid (GR.out.below hb1 GR.out.lt)
      have B1 := Lib.hid (BK.out.trans (hb1.mono BK.out.size))
      have c1 := G1.out.cell k (numC_get _ _ _ hlt)
      have c1f := G1.out.frozen k
      generalize (if k < k then _ else _ : Int) = y at c1
      clear hb1 CA GK GR BK
      go_wp2
      have hgr := only_setCell (World.grownBy.refl w1 (some (w.heap.size + 1))) k (.int .i64 v)
      have G3 : Hid (Blk (w1.setCell ⟨w.heap.size + 1, k, none⟩ (.int .i64 v)) (w.heap.size + 1) 137 (numC (atF V m l) (k + 1))) := by rw [← HS.out]; exact G1.out.set_ k _
      have G4 := Lib.hid (G2.out.grown hgr (by intro e; have := Option.some.inj e; omega))
      have B3 := Lib.hid (B1.out.grown hgr B1.out.size (fun j e => by have := Option.some.inj e; omega))
      go_roundw
      case rel => exact ⟨k + 1, by omega, by go_num, G3, G4, B3⟩
      case measure => simp [intOf]; omega
    · obtain rfl : k = 70 := by omega
      go_wp2_with (first
        | (refine load_blk 137 (.tmp 3) (w.heap.size + 1) 137 (numC (atF V m l) 70) _ rfl rfl rfl GK.out Try.underlying137 rfl (by rw [numC_size]; exact seventy_info) ?_)
        | (refine store_blk 137 (.tmp 2) (.tmp 14) w.heap.size 137 (numC (atF V m l) 0) (numC (atF V m l) 70) rfl rfl rfl rfl GR.out (by rw [numC_size, numC_size]) (by rw [numC_size]; exact seventy_info) (numC_one _ _) ?_; intro w2 hr2 hg2))
      refine bodyPost_ret (results_cell_row rfl _ _ w.heap.size _ _ (0, 0) _ rfl hr2 Try.underlying137 rfl (by rw [numC_size]; exact seventy_info)) rfl ⟨rfl, ?_⟩
      exact BK.out.grown hg2 BK.out.size (fun j e => by have := Option.some.inj e; omega)
set_option maxHeartbeats 4000000 in
theorem first_file (count : Int) (w : World) (h : FileX B w g m n V l) : Calls Try.prog 70 #[.pointer (some ⟨g, 0, none⟩), .int .i64 count] w fun e w' =>
    ∃ Bl Bc, e = .returned (.func (Fn.func 97) #[] #[.pointer (some ⟨Bl, 0, none⟩), .pointer (some ⟨Bc, 0, none⟩)]) ∧ w.heap.size ≤ Bc ∧ Bc < Bl ∧ Blk w' Bl 137 (numC (atF V m l) 70) ∧ Blk w' Bc 3 #[.int .i64 count] ∧ Below w.heap.size w w' := by
  have HX := Lib.hid h
  clear h
  have G0 := Lib.hid (Blk.new w 3 #[.int .i64 count])
  have B0 := Lib.hid ((Below.refl w.heap.size w).alloc (Nat.le_refl _) (.cells #[.int .i64 count] 3))
  have CN := Lib.hid (numbers_any _ (HX.out.below ((Below.refl w.heap.size w).alloc (Nat.le_refl _) (.cells #[.int .i64 count] 3))))
  go_enter Try.func70, Try.ntmps70
  go_wp2_with fail
  refine CN.out.mono ?_
  rintro e w1 ⟨rfl, hb1⟩
  have G1 := Lib.hid (G0.out.below hb1 G0.out.lt)
  have B1 := Lib.hid (B0.out.trans (hb1.mono B0.out.size))
  have hlt := G1.out.lt
  clear hb1 CN G0 B0
  go_wp2_with (refine store_blk 137 (.tmp 5) (.tmp 7) w1.heap.size 137 Try.zeroCells137 (numC (atF V m l) 70) rfl rfl rfl rfl (Blk.new w1 _ _) (by rw [numC_size]; kernel_rfl) (by rw [numC_size]; exact seventy_info) (numC_one _ _) ?_; intro w2 hr2 hg2)
  go_ret
  refine ⟨_, _, rfl, Nat.le_refl _, hlt, hr2, (G1.out.alloc _).grown hg2 (by intro e; have := Option.some.inj e; omega), ?_⟩
  exact (B1.out.alloc B1.out.size _).grown hg2 (by simp; omega) (fun j e => by have := Option.some.inj e; have := B1.out.size; omega)
end
end Go.Proofs.Ytoanladhikdcaaa
