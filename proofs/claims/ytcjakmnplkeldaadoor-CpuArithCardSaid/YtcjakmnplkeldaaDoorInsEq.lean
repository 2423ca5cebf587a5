/-
  Two instructions held against each other.
-/
import Derived.Test.YtcjakmnplkeldaaDoorIsaPlain
namespace Go.Proofs.YtcjakmnplkeldaaDoor
open Go.RowKit
set_option linter.unusedVariables false
set_option linter.unusedSimpArgs false
theorem insT : Tryd.prog.underlying 41 = some (.struct (Tryd.prog.fieldsOf 41)) := by kernel_rfl
theorem insH : Tryd.prog.stoodInHeld 41 = false := by kernel_rfl
theorem insG : Tryd.prog.eqGuardType Tryd.prog.depth 41 = false := by kernel_rfl
def insB (x y : Ins) : Bool := decide (x.op = y.op ∧ x.a = y.a ∧ x.b = y.b ∧ x.c = y.c ∧ x.imm = y.imm)
theorem insB_iff {x y : Ins} : insB x y = true ↔ x = y := by
  cases x; cases y; simp [insB]
theorem ins_equal (x y : Ins) (w : World) : (Op.equalIn 10000 41 (insE x) (insE y)).run Tryd.prog w = .ok (insB x y) w := by
  unfold insE
  rw [run_equalIn_agg _ _ _ _ _ insT insH]
  simp [go_sem]
  unfold insB
  by_cases h1 : x.op = y.op <;> by_cases h2 : x.a = y.a <;> by_cases h3 : x.b = y.b <;> by_cases h4 : x.c = y.c <;> by_cases h5 : x.imm = y.imm <;> (first | (simp [h1, h2, h3, h4, h5]; done) | (simp [h1, h2, h3, h4, h5]; omega))
theorem ins_eql (x y : Ins) (w : World) : (binOp .eql 41 (.agg #[.int .u8 x.op, .int .u8 x.a, .int .u8 x.b, .int .u8 x.c, .int .i32 x.imm]) (.agg #[.int .u8 y.op, .int .u8 y.a, .int .u8 y.b, .int .u8 y.c, .int .i32 y.imm])).run Tryd.prog w = .ok (.bool (insB x y)) w := by
  rw [run_eql_struct]
  have := ins_equal x y w
  unfold insE at this
  rw [this]; rfl
theorem ins_neq (x y : Ins) (w : World) : (binOp .neq 41 (.agg #[.int .u8 x.op, .int .u8 x.a, .int .u8 x.b, .int .u8 x.c, .int .i32 x.imm]) (.agg #[.int .u8 y.op, .int .u8 y.a, .int .u8 y.b, .int .u8 y.c, .int .i32 y.imm])).run Tryd.prog w = .ok (.bool (!insB x y)) w := by
  rw [run_neq_struct]
  have := ins_equal x y w
  unfold insE at this
  rw [this]; rfl
end Go.Proofs.YtcjakmnplkeldaaDoor
