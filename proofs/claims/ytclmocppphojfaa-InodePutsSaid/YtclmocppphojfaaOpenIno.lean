/-
  An inode among the arguments.
-/
import Derived.Test.YtclmocppphojfaaOpenInts
import Derived.Test.YtclmocppphojfaaFits
namespace Go.Proofs.Ytclmocppphojfaa
open Go.ChangeShapes Go.WideShapes Go.ChangeAt Go.RowKit
set_option linter.unusedVariables false
set_option linter.unusedSimpArgs false
set_option maxRecDepth 100000
theorem inoCells : Try.prog.cellsOf 50 = 12 := by kernel_rfl
theorem sixCells : Try.prog.cellsOf 48 = 6 := by kernel_rfl
theorem i64Cells : Try.prog.cellsOf 3 = 1 := by kernel_rfl
def numOfV : Value → Int
  | .int _ z => z
  | _ => 0
theorem open_ino {H : Type} {enc : TypeId × Value → H} {W : World} {r : Reach} {base b0 : Nat} {spare : Nat → Bool} {held : Bool} {v : Value} {d : DataW H} {p : List MemPlace}
    (hv : Value.okWide Try.prog W r b0 50 v) (h : DataW.Trod enc Try.prog W base spare held 50 v d p) :
    ∃ l : List Int, v = .agg (intC l) ∧ l.length = 12 ∧ ∀ z ∈ l, -9223372036854775808 ≤ z ∧ z ≤ 9223372036854775807 := by
  obtain ⟨cs, n, rfl, hsz, hf⟩ := open_struct Try.underlying50 hv h
  rw [inoCells] at hsz
  have key : ∀ j, j < 12 → ∃ z, cs[j]? = some (.int .i64 z) ∧ (Lit.int .i64 z).wf = true := by
    obtain ⟨y0, h0⟩ := hf 0 _ rfl
    obtain ⟨y1, h1⟩ := hf 1 _ rfl
    obtain ⟨y2, h2⟩ := hf 2 _ rfl
    obtain ⟨y3, h3⟩ := hf 3 _ rfl
    obtain ⟨y4, h4⟩ := hf 4 _ rfl
    obtain ⟨y5, h5⟩ := hf 5 _ rfl
    obtain ⟨y6, h6⟩ := hf 6 _ rfl
    have e0 := field_int Try.underlying3 i64Cells h0
    have e1 := field_int Try.underlying3 i64Cells h1
    have e2 := field_int Try.underlying3 i64Cells h2
    have e3 := field_int Try.underlying3 i64Cells h3
    have e5 := field_int Try.underlying3 i64Cells h5
    have e6 := field_int Try.underlying3 i64Cells h6
    obtain ⟨xs, k, hk, _, hl, hn, hi⟩ := DataW.trod_array Try.underlying48 h4
    have arr : ∀ j, j < 6 → ∃ z, cs[4 + j]? = some (.int .i64 z) ∧ (Lit.int .i64 z).wf = true := fun j hj => by
      have := hi j hj
      rw [List.getElem?_eq_getElem (by omega)] at this
      obtain ⟨z, e, _, hw⟩ := DataW.trod_int Try.underlying3 this
      refine ⟨z, ?_, hw⟩
      rw [i64Cells] at e
      have := congrArg (·[0]?) e
      simp only [sixCells, List.getElem?_take, List.getElem?_drop] at this
      simp at this
      exact this.2
    intro j hj
    have hc : j = 0 ∨ j = 1 ∨ j = 2 ∨ j = 3 ∨ (4 ≤ j ∧ j < 10) ∨ j = 10 ∨ j = 11 := by omega
    rcases hc with rfl | rfl | rfl | rfl | ⟨a, b⟩ | rfl | rfl
    · exact e0
    · exact e1
    · exact e2
    · exact e3
    · have := arr (j - 4) (by omega)
      rwa [show 4 + (j - 4) = j by omega] at this
    · exact e5
    · exact e6
  refine ⟨(List.range 12).map fun j => numOfV (cs.getD j undef), ?_, by simp, fun z hz => ?_⟩
  · congr 1
    apply Array.ext_getElem?
    intro j
    unfold intC
    by_cases hj : j < 12
    · obtain ⟨z, e, _⟩ := key j hj
      rw [e]
      have e2 : cs.getD j undef = .int .i64 z := by simp [Array.getD_eq_getD_getElem?, e]
      simp [hj, numOfV, e]
    · rw [Array.getElem?_eq_none (by omega)]
      symm
      apply Array.getElem?_eq_none
      simp; omega
  · simp only [List.mem_map, List.mem_range] at hz
    obtain ⟨j, hj, rfl⟩ := hz
    obtain ⟨z, e, hw⟩ := key j hj
    have e2 : cs.getD j undef = .int .i64 z := by simp [Array.getD_eq_getD_getElem?, e]
    rw [e2]
    exact wf_i64 hw
end Go.Proofs.Ytclmocppphojfaa
