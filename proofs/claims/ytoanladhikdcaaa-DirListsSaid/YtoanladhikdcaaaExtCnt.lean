/-
  What extent.Count tells.
-/
import Derived.Test.YtoanladhikdcaaaExtI
import Derived.Test.YtoanladhikdcaaaExtT
namespace Go.Proofs.Ytoanladhikdcaaa
open Go.RowKit Go.Shelf
set_option linter.unusedVariables false
set_option linter.unusedSimpArgs false
set_option maxRecDepth 100000
attribute [local go_sem] Oper.semAt_some
theorem upK_map (c : Nat) (h : c ≤ 70) : (upK c).map Fin.val = List.range c := by
  induction c with
  | zero => rfl
  | succ c ih => rw [upK_succ c (by omega), List.map_append, ih (by omega), List.range_succ]; rfl
/-- how many of these are -/
def cntF (V : List ByteArray) (m : Nat) (l : List Nat) (pre : List (Fin 70)) : Nat := (pre.filter fun i => atX V m l i.1 != 0).length
theorem cntF_snoc (V : List ByteArray) (m : Nat) (l : List Nat) (pre : List (Fin 70)) (x : Fin 70) : cntF V m l (pre ++ [x]) = cntF V m l pre + (if atX V m l x.1 != 0 then 1 else 0) := by
  unfold cntF
  rw [List.filter_append, List.length_append]
  by_cases h : (atX V m l x.1 != 0) = true <;> simp [h]
theorem cntF_le (V : List ByteArray) (m : Nat) (l : List Nat) (pre : List (Fin 70)) : cntF V m l pre ≤ pre.length := List.length_filter_le _ _
theorem cntF_all (V : List ByteArray) (m : Nat) (l : List Nat) : cntF V m l (upK 70) = manyX V m l 70 := by
  unfold cntF manyX
  rw [← upK_map 70 (Nat.le_refl _), List.filter_map, List.length_map]
  rfl
theorem FileX.own {B C : Nat} {g m n : Nat} {V : List ByteArray} {l : List Nat} {β : Type} : OwnFrom C (fun (_ : β) W => FileX B W g m n V l) := fun s X Y row hs hg hr => by
  have hr' : ∀ r, row = some r → ∃ o : Obj, X.heap[r]? = some o ∧ o.isCells = false := fun r e => (hr r e).2
  obtain ⟨gv, c, h⟩ := hs
  exact ⟨gv, c, h.low, Blk.own g _ (fun (_ : Unit) => _) () X Y row h.blk hg hr', own_own () h.own hg hr', h.vol, h.fit, h.one, h.top⟩
/-- while it is counted -/
structure CntI (w : World) (gc g m n : Nat) (V : List ByteArray) (l : List Nat) (pre : List (Fin 70)) (W : World) : Prop where
  fc : Blk W gc 3 #[.int .i64 (cntF V m l pre : Nat)]
  ff : FileX w.heap.size W g m n V l
  low : w.heap.size ≤ gc
  below : Below w.heap.size w W
theorem CntI.own {w : World} {gc g m n : Nat} {V : List ByteArray} {l : List Nat} {B : Nat} (hB : w.heap.size ≤ B) : OwnFrom B (fun pre W => CntI w gc g m n V l pre W) := fun s X Y row hs hg hr =>
  have hr' : ∀ r, row = some r → ∃ o : Obj, X.heap[r]? = some o ∧ o.isCells = false := fun r e => (hr r e).2
  ⟨Blk.own gc _ (fun (_ : Unit) => _) () X Y row hs.fc hg hr', FileX.own (β := Unit) (C := B) () X Y row hs.ff hg hr, hs.low, ownFrom_below (Nat.le_refl _) hB s X Y row hs.below hg hr⟩
theorem FileX.cell {w w' : World} {B g m n : Nat} {V : List ByteArray} {l : List Nat} (h : FileX B w g m n V l) {gc : Nat} {cs : Array Value} (hb : Blk w gc 3 cs) (hg : w.grownBy w' (some gc)) : FileX B w' g m n V l := by
  obtain ⟨gv, c, h⟩ := h
  refine ⟨gv, c, h.low, h.blk.grown hg (by intro e; exact h.blk.ne hb (by decide) (Option.some.inj e)), h.own.kept hg (.inr ?_), h.vol, h.fit, h.one, h.top⟩
  intro e
  have := own_ne h.own hb (by decide)
  exact this e.symm
theorem bool_nat (b : Bool) : (if b = true then 1 else 0 : Nat) = b.toNat := by cases b <;> rfl
end Go.Proofs.Ytoanladhikdcaaa
