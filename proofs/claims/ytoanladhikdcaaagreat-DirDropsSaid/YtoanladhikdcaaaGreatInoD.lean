/-
  What inode.All computes.
-/
import Derived.Test.YtoanladhikdcaaaGreatInoC
namespace Go.Proofs.YtoanladhikdcaaaGreat
open Go.RowKit
set_option linter.unusedVariables false
set_option linter.unusedSimpArgs false
set_option maxRecDepth 100000
theorem i64_info : (Tryz.prog.info? 3).map (fun i => (i.zero, i.size, i.bytes)) = some (some (.int .i64 0), 1, 8) := by kernel_rfl
def numsC (gs : List Nat) : List Value := gs.map fun g : Nat => Value.int .i64 (g : Int)
theorem numsC_snoc (gs : List Nat) (g : Nat) : numsC (gs ++ [g]) = numsC gs ++ [.int .i64 (g : Int)] := by unfold numsC; simp
def OwnNums (l : List Nat) (w : World) (v : Value) (w' : World) : Prop := w'.ownsRow w.heap.size 3 1 v l.length (numsC l)
theorem OwnNums.read {ys : List Nat} {w w' : World} {v : Value} (h : OwnNums ys w v w') : ∃ A c, v = .slice A ys.length c ∧ RowAt w' w'.heap.size A (numsC ys) := by
  unfold OwnNums at h
  by_cases hy : ys = []
  · subst hy
    rcases Go.Joins.ownsRow_forms h with ⟨e, _⟩ | ⟨g, cap, e⟩
    · exact ⟨none, 0, e, RowAt.nil⟩
    · exact ⟨_, cap, e, RowAt.nil⟩
  · obtain ⟨g, cap, rfl⟩ := Go.Joins.ownsRow_form h (List.length_pos_iff.2 hy)
    exact ⟨_, cap, rfl, RowAt.of_own h⟩
/-- the numbers of all inodes that are -/
def allR (xs : List ByteArray) (m : Nat) : List Nat := (List.range' 1 m).filter fun n => kindR xs n != 0
def allO (xs : List ByteArray) : List Nat := match ofR xs with
  | none => []
  | some m => allR xs m
theorem allR_succ (xs : List ByteArray) (k : Nat) : allR xs (k + 1) = allR xs k ++ (if kindR xs (k + 1) != 0 then [k + 1] else []) := by
  unfold allR
  rw [List.range'_concat, List.filter_append, Nat.one_mul, Nat.add_comm 1 k]
  congr 1
  by_cases h : kindR xs (k + 1) != 0
  · simp [List.filter_cons, h]
  · simp [List.filter_cons, h]
theorem allR_len (xs : List ByteArray) (k : Nat) : (allR xs k).length ≤ k := by
  unfold allR
  have := List.length_filter_le (fun n => kindR xs n != 0) (List.range' 1 k)
  simpa using this
end Go.Proofs.YtoanladhikdcaaaGreat
