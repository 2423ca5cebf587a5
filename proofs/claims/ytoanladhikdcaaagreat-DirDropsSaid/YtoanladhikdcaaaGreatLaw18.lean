/-
  law18's alive and Great, ref18's Same; two inodes held against each other.
-/
import Derived.Test.YtoanladhikdcaaaGreatInoPl
import Derived.Test.YtoanladhikdcaaaGreatGeomF
import Derived.Test.YtoanladhikdcaaaGreatInfra
import Derived.ChangeKeysEq
namespace Go.Proofs.YtoanladhikdcaaaGreat
open Go.RowKit
set_option linter.unusedVariables false
set_option linter.unusedSimpArgs false
set_option maxRecDepth 100000
def inoA (a0 a1 a2 a3 a4 a5 a6 a7 a8 a9 a10 a11 : Int) : Value := .agg #[.int .i64 a0, .int .i64 a1, .int .i64 a2, .int .i64 a3, .int .i64 a4, .int .i64 a5, .int .i64 a6, .int .i64 a7, .int .i64 a8, .int .i64 a9, .int .i64 a10, .int .i64 a11]
theorem inoTy : Tryz.prog.underlying 35 = some (.struct (Tryz.prog.fieldsOf 35)) := by kernel_rfl
theorem inoH : Tryz.prog.stoodInHeld 35 = false := by kernel_rfl
theorem six_info : ∃ i, Tryz.prog.info? 3 = some i ∧ i.size = 1 := by
  have h : (Tryz.prog.info? 3).map (·.size) = some 1 := by kernel_rfl
  cases hi : Tryz.prog.info? 3 with
  | none => rw [hi] at h; cases h
  | some i => rw [hi] at h; exact ⟨i, rfl, by simpa using h⟩
theorem six_equal (d : Nat) (a4 a5 a6 a7 a8 a9 : Int) (w : World) : (Op.equalIn (d + 1 + 1) 33 (.agg #[.int .i64 a4, .int .i64 a5, .int .i64 a6, .int .i64 a7, .int .i64 a8, .int .i64 a9]) (.agg #[.int .i64 a4, .int .i64 a5, .int .i64 a6, .int .i64 a7, .int .i64 a8, .int .i64 a9])).run Tryz.prog w = .ok true w := by
  obtain ⟨i, hi, hs⟩ := six_info
  rw [run_equalIn_array w (d + 1) _ _ Tryz.underlying33 hi, show Tryz.prog.cellsOf 3 = 1 by kernel_rfl, show List.range 6 = [0, 1, 2, 3, 4, 5] from rfl]
  simp [go_sem, Op.eqItems]
theorem ino_equal (a0 a1 a2 a3 a4 a5 a6 a7 a8 a9 a10 a11 : Int) (w : World) : (Op.equalIn 10000 35 (inoA a0 a1 a2 a3 a4 a5 a6 a7 a8 a9 a10 a11) (inoA a0 a1 a2 a3 a4 a5 a6 a7 a8 a9 a10 a11)).run Tryz.prog w = .ok true w := by
  unfold inoA
  rw [run_equalIn_agg _ _ _ _ _ inoTy inoH]
  have := fun w => six_equal 9997 a4 a5 a6 a7 a8 a9 w
  simp [go_sem, this]
theorem ino_eql (a0 a1 a2 a3 a4 a5 a6 a7 a8 a9 a10 a11 : Int) (w : World) : (binOp .eql 35 (inoA a0 a1 a2 a3 a4 a5 a6 a7 a8 a9 a10 a11) (inoA a0 a1 a2 a3 a4 a5 a6 a7 a8 a9 a10 a11)).run Tryz.prog w = .ok (.bool true) w := by
  rw [show inoA a0 a1 a2 a3 a4 a5 a6 a7 a8 a9 a10 a11 = Value.agg _ from rfl, run_eql_struct]
  have := ino_equal a0 a1 a2 a3 a4 a5 a6 a7 a8 a9 a10 a11 w
  unfold inoA at this
  rw [this]; rfl
theorem ino_neq (a0 a1 a2 a3 a4 a5 a6 a7 a8 a9 a10 a11 : Int) (w : World) : (binOp .neq 35 (inoA a0 a1 a2 a3 a4 a5 a6 a7 a8 a9 a10 a11) (inoA a0 a1 a2 a3 a4 a5 a6 a7 a8 a9 a10 a11)).run Tryz.prog w = .ok (.bool false) w := by
  rw [show inoA a0 a1 a2 a3 a4 a5 a6 a7 a8 a9 a10 a11 = Value.agg _ from rfl, run_neq_struct]
  have := ino_equal a0 a1 a2 a3 a4 a5 a6 a7 a8 a9 a10 a11 w
  unfold inoA at this
  rw [this]; rfl
def GreatPost (n : Nat) (w : World) (e : Ending) (w' : World) : Prop := (∃ r : Int, e = .returned (.int .i64 r) ∧ (r = 1 ∨ r = 0 ∧ n ≤ 80)) ∧ w = w'
end Go.Proofs.YtoanladhikdcaaaGreat
