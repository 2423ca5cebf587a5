/-
  Words for the statements of layer 14 whose arguments are a cpu and pages: a cpu held against itself.
-/
import Derived.Test.YtcjakmnplkeldaaDoorLawReturns
namespace Go.Proofs.YtcjakmnplkeldaaDoor
open Go.RowKit
set_option linter.unusedVariables false
set_option linter.unusedSimpArgs false
set_option maxRecDepth 100000
theorem cpuTy : Tryd.prog.underlying 25 = some (.struct (Tryd.prog.fieldsOf 25)) := by kernel_rfl
theorem cpuHeld : Tryd.prog.stoodInHeld 25 = false := by kernel_rfl
theorem cpu_equal (a0 a1 a2 a3 a4 a5 a6 a7 a8 a9 a10 a11 a12 a13 a14 a15 pc : Int) (w : World) : (Op.equalIn 10000 25 (.agg #[.int .u32 a0, .int .u32 a1, .int .u32 a2, .int .u32 a3, .int .u32 a4, .int .u32 a5, .int .u32 a6, .int .u32 a7, .int .u32 a8, .int .u32 a9, .int .u32 a10, .int .u32 a11, .int .u32 a12, .int .u32 a13, .int .u32 a14, .int .u32 a15, .int .u32 pc]) (.agg #[.int .u32 a0, .int .u32 a1, .int .u32 a2, .int .u32 a3, .int .u32 a4, .int .u32 a5, .int .u32 a6, .int .u32 a7, .int .u32 a8, .int .u32 a9, .int .u32 a10, .int .u32 a11, .int .u32 a12, .int .u32 a13, .int .u32 a14, .int .u32 a15, .int .u32 pc])).run Tryd.prog w = .ok true w := by
  rw [run_equalIn_agg _ _ _ _ _ cpuTy cpuHeld]
  have := fun w => regs_equal 9997 a0 a1 a2 a3 a4 a5 a6 a7 a8 a9 a10 a11 a12 a13 a14 a15 w
  simp [go_sem, this]
theorem cpuC_eql {R : List Nat} {pc : Nat} (h : R.length = 16) (w : World) : (binOp .eql 25 (.agg (cpuC R pc)) (.agg (cpuC R pc))).run Tryd.prog w = .ok (.bool true) w := by
  obtain ⟨a0, a1, a2, a3, a4, a5, a6, a7, a8, a9, a10, a11, a12, a13, a14, a15, rfl⟩ := len16 h
  rw [run_eql_struct]
  have : (Op.equalIn 10000 25 (.agg (cpuC [a0, a1, a2, a3, a4, a5, a6, a7, a8, a9, a10, a11, a12, a13, a14, a15] pc)) (.agg (cpuC [a0, a1, a2, a3, a4, a5, a6, a7, a8, a9, a10, a11, a12, a13, a14, a15] pc))).run Tryd.prog w = .ok true w := cpu_equal _ _ _ _ _ _ _ _ _ _ _ _ _ _ _ _ _ w
  rw [this]; rfl
theorem cpuC_neq {R : List Nat} {pc : Nat} (h : R.length = 16) (w : World) : (binOp .neq 25 (.agg (cpuC R pc)) (.agg (cpuC R pc))).run Tryd.prog w = .ok (.bool false) w := by
  obtain ⟨a0, a1, a2, a3, a4, a5, a6, a7, a8, a9, a10, a11, a12, a13, a14, a15, rfl⟩ := len16 h
  rw [run_neq_struct]
  have : (Op.equalIn 10000 25 (.agg (cpuC [a0, a1, a2, a3, a4, a5, a6, a7, a8, a9, a10, a11, a12, a13, a14, a15] pc)) (.agg (cpuC [a0, a1, a2, a3, a4, a5, a6, a7, a8, a9, a10, a11, a12, a13, a14, a15] pc))).run Tryd.prog w = .ok true w := cpu_equal _ _ _ _ _ _ _ _ _ _ _ _ _ _ _ _ _ w
  rw [this]; rfl
end Go.Proofs.YtcjakmnplkeldaaDoor
