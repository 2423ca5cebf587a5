/-
  What extent.Blocks hands back.
-/
import Derived.Test.YtoanladhikdcaaaExtCnt
import Derived.OwnWalkIn
namespace Go.Proofs.Ytoanladhikdcaaa
open Go.RowKit Go.Shelf
set_option linter.unusedVariables false
set_option linter.unusedSimpArgs false
set_option maxRecDepth 100000
attribute [local go_sem] Oper.semAt_some
def intsC (l : List Int) : List Value := l.map (.int .i64 ·)
theorem intsC_snoc (l : List Int) (z : Int) : intsC (l ++ [z]) = intsC l ++ [.int .i64 z] := by unfold intsC; simp
/-- a slice of numbers of the call's own -/
def OwnInts (l : List Int) (w : World) (v : Value) (w' : World) : Prop := w'.ownsRow w.heap.size 3 1 v l.length (intsC l)
theorem OwnInts.read {ys : List Int} {w w' : World} {v : Value} (h : OwnInts ys w v w') : ∃ A c, v = .slice A ys.length c ∧ RowAt w' w'.heap.size A (intsC ys) := by
  unfold OwnInts at h
  by_cases hy : ys = []
  · subst hy
    rcases Go.Joins.ownsRow_forms h with ⟨e, _⟩ | ⟨g, cap, e⟩
    · exact ⟨none, 0, e, RowAt.nil⟩
    · exact ⟨_, cap, e, RowAt.nil⟩
  · obtain ⟨g, cap, rfl⟩ := Go.Joins.ownsRow_form h (List.length_pos_iff.2 hy)
    exact ⟨_, cap, rfl, RowAt.of_own h⟩
def toldF (f : Nat → Int) (pre : List (Fin 70)) : List Int := pre.map fun i => f i.1
theorem toldF_snoc (f : Nat → Int) (pre : List (Fin 70)) (x : Fin 70) : toldF f (pre ++ [x]) = toldF f pre ++ [f x.1] := by unfold toldF; simp
theorem toldF_all (f : Nat → Int) (c : Nat) (h : c ≤ 70) : toldF f (upK c) = (List.range c).map f := by
  unfold toldF
  rw [← upK_map c h, List.map_map]
  rfl
/-- while they are collected -/
structure BlI (w : World) (z : Nat) (gl : Nat) (f : Nat → Int) (pre : List (Fin 70)) (W : World) : Prop where
  row : ∃ v, Blk W gl 71 #[v] ∧ W.ownsRow z 3 1 v (toldF f pre).length (intsC (toldF f pre))
  low : w.heap.size ≤ gl
  lz : z ≤ W.heap.size
  below : Below w.heap.size w W
theorem BlI.own {w : World} {z gl : Nat} {f : Nat → Int} (hB : w.heap.size ≤ z) : OwnFrom z (fun pre W => BlI w z gl f pre W) := fun s X Y row hs hg hr =>
  have hr' : ∀ r, row = some r → ∃ o : Obj, X.heap[r]? = some o ∧ o.isCells = false := fun r e => (hr r e).2
  ⟨by
    obtain ⟨v, h1, h2⟩ := hs.row
    exact ⟨v, Blk.own gl _ (fun (_ : Unit) => _) () X Y row h1 hg hr', own_own () h2 hg hr'⟩, hs.low, Nat.le_trans hs.lz hg.size, ownFrom_below (Nat.le_refl _) hB s X Y row hs.below hg hr⟩
end Go.Proofs.Ytoanladhikdcaaa
