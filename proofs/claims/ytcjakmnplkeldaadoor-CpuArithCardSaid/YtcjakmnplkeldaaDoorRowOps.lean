/-
  A whole struct or array that is loaded out of a block of its own, or stored into one.
-/
import Derived.Test.YtcjakmnplkeldaaDoorBase
import Derived.Deep.MidRow
namespace Go.Proofs.YtcjakmnplkeldaaDoor
open Go.RowKit
set_option linter.unusedVariables false
set_option linter.unusedSimpArgs false
section
variable {P : Program} {ops : Array Oper} {rest : List Oper} {o : Oper} {a : Act} {w : World} {Q : Exit → Act → World → Prop}

theorem load_blk (ty : TypeId) (x : Operand) (g : Nat) (t : TypeId) (cs : Array Value) (d : TypeDesc) (hgd : o.guard = none) (ho : o.op = .load ty x) (hx : a.eval x = .pointer (some ⟨g, 0, none⟩)) (hg : Blk w g t cs)
    (hu : P.underlying ty = some d) (hd : (match d with | .struct _ | .array _ _ => true | _ => false) = true) (hi : (P.info? ty).map (·.size) = some cs.size)
    (h : wpList P ops Q rest (a.put o.dst (.agg cs)) w) : wpList P ops Q (o :: rest) a w :=
  wpList_load_row hgd ty x ho g hx t cs (0, 0) d hg hu hd hi h
/-- in a region that draws its order -/
theorem quiet_load_blk {C : World → Prop} {K : Act → Prop} (ty : TypeId) (x : Operand) (g : Nat) (t : TypeId) (cs : Array Value) (d : TypeDesc) (ho : o.op = .load ty x) (hx : a.eval x = .pointer (some ⟨g, 0, none⟩)) (hg : ∀ w, C w → Blk w g t cs)
    (hu : P.underlying ty = some d) (hd : (match d with | .struct _ | .array _ _ => true | _ => false) = true) (hi : (P.info? ty).map (·.size) = some cs.size)
    (hk : K (a.put o.dst (.agg cs))) : o.quiet P a C K :=
  ⟨.agg cs, fun w hw => by
    unfold Oper.quietAt
    have hr := run_loadVar_row (P := P) w g t ty cs (0, 0) d (hg w hw) hu hd hi
    unfold execOp
    simp only [ho, hx, Instr.loadAt, Instr.sureAddr, Sem.run_bind, Sem.run_pure, Result.andThen_ok, hr]
    exact ⟨rfl, rfl⟩, hk⟩
end

/-- cells put into a row, one behind the other -/
def setL : Array Value → Nat → List Value → Array Value
  | cs, _, [] => cs
  | cs, o, v :: vs => setL (cs.setIfInBounds o v) (o + 1) vs
theorem setL_size : ∀ (vs : List Value) (cs : Array Value) (o : Nat), (setL cs o vs).size = cs.size
  | [], _, _ => rfl
  | v :: vs, cs, o => by rw [setL, setL_size vs]; simp
theorem setL_get : ∀ (vs : List Value) (cs : Array Value) (o j : Nat), o + vs.length ≤ cs.size → (setL cs o vs)[j]? = if o ≤ j ∧ j < o + vs.length then vs[j - o]? else cs[j]?
  | [], cs, o, j, _ => by rw [setL, if_neg (by intro h; simp at h; omega)]
  | v :: vs, cs, o, j, h => by
    simp only [List.length_cons] at h
    rw [setL, setL_get vs _ (o + 1) j (by simp; omega)]
    simp only [List.length_cons]
    by_cases hj : j = o
    · subst hj
      rw [if_neg (by omega), if_pos (by omega), Array.getElem?_setIfInBounds]
      simp; omega
    · by_cases hin : o + 1 ≤ j ∧ j < o + 1 + vs.length
      · rw [if_pos hin, if_pos (by omega)]
        rw [show j - o = (j - (o + 1)) + 1 by omega, List.getElem?_cons_succ]
      · rw [if_neg hin, if_neg (by omega), Array.getElem?_setIfInBounds, if_neg (by omega)]
theorem setL_all (cs : Array Value) (vs : List Value) (h : vs.length = cs.size) : setL cs 0 vs = vs.toArray := by
  apply Array.ext_getElem?
  intro j
  rw [setL_get vs cs 0 j (by omega)]
  by_cases hj : j < vs.length
  · rw [if_pos (by omega)]; simp
  · rw [if_neg (by omega), Array.getElem?_eq_none (by omega)]; simp; omega
theorem blk_setCells {g : Nat} {t : TypeId} : ∀ (vs : List Value) (o : Nat) (w : World) (cs : Array Value), Blk w g t cs → Blk (w.setCells g o vs) g t (setL cs o vs)
  | [], _, _, _, h => h
  | v :: vs, o, w, cs, h => blk_setCells vs (o + 1) _ _ (h.set_ o v)
theorem only_setCells {a : World} {g : Nat} : ∀ (vs : List Value) (o : Nat) (w : World), a.grownBy w (some g) → a.grownBy (w.setCells g o vs) (some g)
  | [], _, _, h => h
  | v :: vs, o, w, h => only_setCells vs (o + 1) _ (only_setCell h o v)
section
variable {P : Program} {ops : Array Oper} {rest : List Oper} {o : Oper} {a : Act} {w : World} {Q : Exit → Act → World → Prop}
/-- a whole value into a block of its own: the world behind it is a letter -/
theorem store_blk (ty : TypeId) (x y : Operand) (g : Nat) (t : TypeId) (cs new : Array Value) (hgd : o.guard = none) (ho : o.op = .store ty x y) (hx : a.eval x = .pointer (some ⟨g, 0, none⟩)) (hy : a.eval y = .agg new)
    (hg : Blk w g t cs) (hsz : new.size = cs.size) (hi : (P.info? ty).map (·.size) = some new.size) (h1 : ∀ v ∈ new, v.oneCell' = true)
    (h : ∀ w', Blk w' g t new → w.grownBy w' (some g) → wpList P ops Q rest (a.put o.dst undef) w') : wpList P ops Q (o :: rest) a w := by
  refine wpList_store_mid hgd ty x y ho g 0 new hx hy (fun j hj => ⟨?_, by rw [Nat.zero_add]; exact hg.frozen j⟩) hi (by rw [Array.all_eq_true_iff_forall_mem]; exact h1) (h _ ?_ (only_setCells _ _ _ (World.grownBy.refl w _)))
  · rw [Nat.zero_add, hg.cell j (Array.getElem?_eq_getElem (by omega))]; rfl
  · have := blk_setCells new.toList 0 w cs hg
    rwa [setL_all cs new.toList (by simpa using hsz), Array.toArray_toList] at this
end
end Go.Proofs.YtcjakmnplkeldaaDoor
