/-
  A range over a function: a region that draws its order, within a round; what a round must keep.
-/
import Derived.RangeFuncNested
import Derived.RangeFuncBound
import Derived.RangeFuncCalls
import Derived.RangeFuncLeaves
import Derived.Shelf.Abstract
import Derived.Shelf.RegionOpen
import Derived.OwnWalkIn
import Derived.TacticsInMore
import Derived.LoopNIn
import Derived.LoopIn
import Derived.OrdersIn
import Derived.Test.YtclmocppphojfaaTail
namespace Go.Proofs.Ytclmocppphojfaa
open Go.RowKit
set_option linter.unusedVariables false
section
variable {P : Program} {ops : Array Oper} {Q : Exit → Act → World → Prop} {md : Region.Mode}
/-- no deferred call among the operations -/
def noDefer (ops : Array Oper) : Bool := ops.all fun o => match o.op with
  | .defer _ => false
  | _ => true
theorem noDefer_spec {ops : Array Oper} (h : noDefer ops = true) {i : Nat} {o : Oper} (ho : ops[i]? = some o) : ∀ c, o.op ≠ .defer c := by
  intro c hc
  unfold noDefer at h
  rw [Array.all_eq_true] at h
  obtain ⟨hi, rfl⟩ := Array.getElem?_eq_some_iff.1 ho
  have := h i hi
  rw [hc] at this
  cases this
theorem wpIn_of_wp_op {l n : Nat} {o : Oper} {a : Act} {w : World} {K : Act → World → Prop} (hd : ∀ c, o.op ≠ .defer c) (h : o.wp P a w K Q) : o.wpIn (Fence.wide.inRound l) n P a w K Q := by
  refine ⟨fun _ _ => trivial, ?_⟩
  rw [Oper.semAt_eq _ _ _ hd]
  unfold Oper.wp at h
  generalize (execOp a.eval o).run P w = r at *
  cases r with
  | ok x w' =>
    cases x <;> simp only [Oper.upon, Oper.uponIn] at h ⊢ <;>
      first
        | exact h
        | exact h.elim
        | exact ⟨fun h0 => by simp [Fence.inRound, Fence.wide] at h0, CallsIn.inRound l (callsIn_wide.2 h)⟩
        | (refine ⟨fun h0 => by simp [Fence.inRound, Fence.wide] at h0, fun c cs _ => ?_⟩
           obtain ⟨v, w'', r, s⟩ := h c cs
           exact ⟨v, w'', r, stepsIn_wide.2 s⟩)
  | halt x w' => cases x <;> simp only [Oper.upon, Oper.uponIn] at h ⊢ <;> exact h
theorem wpAnyIn_of_wpAny {l n : Nat} (hd : noDefer ops = true) (hQ : ¬ LetsOut Q) : ∀ (f : Nat) (listed : Array Bool) (a : Act) (w : World), wpAny P md ops Q f listed a w → wpAnyIn (Fence.wide.inRound l) n P md ops Q f listed a w := by
  intro f
  induction f with
  | zero => exact fun _ _ _ h => h
  | succ f ih =>
    intro listed a w h
    refine ⟨h.1, fun i hi => ?_⟩
    have h2 := h.2 i hi
    unfold wpOp at h2
    unfold wpOpIn
    split
    · rename_i hn; rw [hn] at h2; exact ih _ _ _ h2
    · rename_i o ho
      rw [ho] at h2
      dsimp only at h2
      split
      · rename_i hw
        rw [if_pos hw] at h2
        rcases h2 with h2 | ⟨_, h2⟩
        · exact wpIn_of_wp_op (noDefer_spec hd ho) (Oper.wp_mono (fun a w h => ih _ a w h) h2)
        · exact (hQ h2).elim
      · rename_i hw
        rw [if_neg hw] at h2
        exact ⟨fun _ _ => trivial, ih _ _ _ h2⟩
/-- THE RULE: a region that draws its order, in a round, is walked as anywhere. -/
theorem wpIn_region_round {l n id : Nat} {a : Act} {w : World} (hm : P.follows .mixedOrders = true) (hd : noDefer ops = true) (hQ : ¬ LetsOut Q)
    (h : wpAny P .any ops Q ops.size (Array.replicate ops.size false) a { w with drawn := w.drawn + 1 }) : (Code.region id ops true).wpIn (Fence.wide.inRound l) n P Q a w :=
  wpIn_region_any hm (wpAnyIn_of_wpAny hd hQ _ _ _ _ h)
/-- the same, whatever is asked at the end -/
theorem wpIn_region_round' {l n id : Nat} {a : Act} {w : World} (hm : P.follows .mixedOrders = true) (hd : noDefer ops = true)
    (h : wpAny P .any ops (fun e a w => e ≠ .outgrown ∧ Q e a w) ops.size (Array.replicate ops.size false) a { w with drawn := w.drawn + 1 }) : (Code.region id ops true).wpIn (Fence.wide.inRound l) n P Q a w :=
  wpIn_mono (wpIn_region_round hm hd (by rintro ⟨_, _, h, _⟩; exact h rfl) h) (fun _ _ _ h => h.2)
/-- quiet operations, callees that make memory at the most, then a tail in one order: in a round -/
theorem wpIn_round_tail {l id : Nat} {a : Act} {w : World} {L : List Oper} {m : Nat} (n : Nat) (hm : P.follows .mixedOrders = true) (hd : noDefer L.toArray = true) (hB : Region.lexTailB .any L.toArray n = true)
    (h : wpQuiet P L.toArray (fun w' => ∃ u : Ext w, w' = u.val) (fun a' => ∀ w', (∃ u : Ext w, w' = u.val) → wpList P L.toArray (fun e a w => e ≠ .outgrown ∧ Q e a w) (L.drop n) a' w') (L.take n) a) : (Code.region id L.toArray true).wpIn (Fence.wide.inRound l) m P Q a w := by
  refine wpIn_region_round' hm hd ?_
  simp only [Region.lexTailB, Bool.and_eq_true, decide_eq_true_eq] at hB
  obtain ⟨⟨⟨⟨hsel, hn⟩, hs⟩, hc⟩, hlex⟩ := hB
  have hn' : n < L.length := by simpa using hn
  have htl : (L.take n).length = n := by simp; omega
  have hdl : (L.drop n).length = L.toArray.size - n := by simp
  have inv0 : HeadInv .any L.toArray n (Array.replicate L.toArray.size false) :=
    ⟨by simp, fun j oj _ hl => (by rw [getD_replicate_false] at hl; cases hl), fun t _ ht => getD_in (by simpa using ht) (getD_replicate_false _ _)⟩
  have H := headAny_lex (md := .any) (g := L.toArray.size - n) hsel hs hc hn (L.take n) 0 _ a (fun j hj => by
    have hj' : j < n := by omega
    simp [hj']) (by omega) inv0 (by rw [htl]; exact hlex) h
  have := wpAny_of_headAny (C := fun w' => ∃ u : Ext w, w' = u.val) (Q := fun e a w => e ≠ .outgrown ∧ Q e a w) (g := L.toArray.size - n) (fun listed a' w' hw' hL => by
    have := wpAny_of_seq (md := .any) (Q' := fun e a w => e ≠ .outgrown ∧ Q e a w) (L.drop n) n listed a' w' (fun j => by simp [List.getElem?_drop]) (by rw [hdl]; exact hL.1) (hL.2 w' hw')
    rwa [hdl] at this) _ _ _ ({ w with drawn := w.drawn + 1 }) ⟨⟨w.drew, (Below.refl _ _).drew⟩, rfl⟩ H
  rw [htl, show n + (L.toArray.size - n) = L.toArray.size by omega] at this
  exact this
/-- only quiet operations, and callees that make memory at the most: in a round -/
theorem wpIn_round_ext {l id : Nat} {a : Act} {w : World} {L : List Oper} {m : Nat} (hm : P.follows .mixedOrders = true) (hd : noDefer L.toArray = true) (hB : Region.lexB .any L.toArray = true)
    (h : wpQuiet P L.toArray (fun w' => ∃ u : Ext w, w' = u.val) (fun a' => ∀ w', (∃ u : Ext w, w' = u.val) → Q .normal a' w') L a) : (Code.region id L.toArray true).wpIn (Fence.wide.inRound l) m P Q a w := by
  refine wpIn_region_round' hm hd ?_
  simp only [Region.lexB, Bool.and_eq_true] at hB
  refine wpAny_of_quiet (C := fun w' => ∃ u : Ext w, w' = u.val) (Q := fun a' => ∀ w', (∃ u : Ext w, w' = u.val) → Q .normal a' w') (fun _ w' hw' h => ⟨by simp, h w' hw'⟩) _ _ _ _ ⟨⟨w.drew, (Below.refl _ _).drew⟩, rfl⟩ ?_
  have := wpAnyQ_lex (C := fun w' => ∃ u : Ext w, w' = u.val) (md := .any) hB.1 L.toArray.toList 0 (Array.replicate L.toArray.size false) a (by simp) (by simpa using hB.2) (by simpa using h)
  simpa using this
end
/-- the blocks of two types are as they were: those that the iterator reads -/
def KeepT (T : TypeId → Bool) (W W' : World) : Prop := ∀ b cs t, T t = true → Blk W b t cs → Blk W' b t cs
theorem KeepT.refl (T : TypeId → Bool) (W : World) : KeepT T W W := fun _ _ _ _ h => h
theorem KeepT.trans {T : TypeId → Bool} {A B C : World} (h : KeepT T A B) (k : KeepT T B C) : KeepT T A C := fun b cs t he hv => k b cs t he (h b cs t he hv)
theorem KeepT.grown {T : TypeId → Bool} {W W' : World} {row : Option Nat} (h : W.grownBy W' row) (hr : ∀ r, row = some r → (∃ o, W.heap[r]? = some o ∧ o.isCells = false) ∨ ∃ cs t, Blk W r t cs ∧ T t = false) : KeepT T W W' := fun b cs t he hv => by
  refine hv.grown h (fun e => ?_)
  rcases hr b e.symm with ⟨o', h1, h2⟩ | ⟨cs', t', h1, h2⟩
  · unfold Blk at hv; rw [hv] at h1; cases h1; cases h2
  · unfold Blk at hv h1
    rw [hv] at h1
    injection h1 with h1
    injection h1 with _ h3
    rw [h3, h2] at he; cases he
theorem KeepT.putObj {T : TypeId → Bool} (W : World) (l : Nat) (o o' : Obj) (h : W.heap[l]? = some o) (ho : o.isCells = false) : KeepT T W (W.putObj l o') :=
  KeepT.grown (grownBy_putObj' W l o') (fun r e => by cases e; exact .inl ⟨o, h, ho⟩)
theorem KeepT.alloc {T : TypeId → Bool} (W : World) (o : Obj) : KeepT T W (W.alloc o) := KeepT.grown (World.grownBy_alloc W o none) (fun r e => by cases e)
theorem KeepT.set_ {T : TypeId → Bool} {W : World} {g : Nat} {t : TypeId} {cs : Array Value} (hg : Blk W g t cs) (ht : T t = false) (i : Nat) (u : Value) : KeepT T W (W.setCell ⟨g, i, none⟩ u) :=
  KeepT.grown (only_setCell (World.grownBy.refl W (some g)) i u) (fun r e => by cases e; exact .inr ⟨_, _, hg, ht⟩)
theorem KeepT.below {T : TypeId → Bool} {W W' : World} (h : Below W.heap.size W W') : KeepT T W W' := fun b cs t _ hv => hv.below h hv.lt
theorem Blk.own {β : Type} (g : Nat) (t : TypeId) (f : β → Array Value) : Own (fun s W => Blk W g t (f s)) := fun s X Y row hs hg hrow =>
  hs.grown hg (fun e' => by obtain ⟨o, ho, hc⟩ := hrow g e'.symm; rw [show X.heap[g]? = _ from hs] at ho; cases ho; cases hc)
theorem keeps_below {W W' : World} (h : Below W.heap.size W W') : KeepsOthers W W' := ⟨h.size, fun k o hk _ => (h.block k (Array.getElem?_eq_some_iff.1 hk).1).trans hk⟩
end Go.Proofs.Ytclmocppphojfaa
