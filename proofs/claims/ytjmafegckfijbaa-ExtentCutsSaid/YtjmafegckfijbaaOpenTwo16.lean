/-
  Two numbers of 16 bits among the arguments.
-/
import Derived.Test.YtjmafegckfijbaaInfra
namespace Go.Proofs.Ytjmafegckfijbaa
open Go.ChangeShapes Go.WideShapes Go.ChangeAt Go.RowKit
set_option linter.unusedVariables false
set_option linter.unusedSimpArgs false
set_option maxRecDepth 100000
theorem two16Cells : Try.prog.cellsOf 73 = 2 := by kernel_rfl
theorem u16Cells1 : Try.prog.cellsOf 37 = 1 := by kernel_rfl
theorem wf_u16n {z : Int} (h : (Lit.int .u16 z).wf = true) : ∃ n : Nat, z = n ∧ n < 65536 := by
  simp [Lit.wf, IntKind.min, IntKind.max, IntKind.signed, IntKind.bits] at h
  exact ⟨z.toNat, by omega, by omega⟩
theorem open_two16 {H : Type} {enc : TypeId × Value → H} {W : World} {r : Reach} {b0 : Nat} {v : Value} {d : DataW H} {p : List MemPlace}
    (hv : Value.okWide Try.prog W r b0 73 v) (h : DataW.Trod enc Try.prog W 0 (fun _ => true) true 73 v d p) :
    ∃ a b : Nat, v = .agg #[.int .u16 (a : Int), .int .u16 (b : Int)] ∧ a < 65536 ∧ b < 65536 := by
  obtain ⟨cs, rfl, hs, hi⟩ := open_int_array Try.underlying73 Try.underlying37 u16Cells1 hv h
  rw [two16Cells] at hs
  obtain ⟨z0, e0, w0⟩ := hi 0 (by omega)
  obtain ⟨z1, e1, w1⟩ := hi 1 (by omega)
  obtain ⟨a, rfl, ha⟩ := wf_u16n w0
  obtain ⟨b, rfl, hb⟩ := wf_u16n w1
  obtain ⟨x, y, rfl⟩ := size2 hs
  simp at e0 e1
  subst e0; subst e1
  exact ⟨a, b, rfl, ha, hb⟩
end Go.Proofs.Ytjmafegckfijbaa
