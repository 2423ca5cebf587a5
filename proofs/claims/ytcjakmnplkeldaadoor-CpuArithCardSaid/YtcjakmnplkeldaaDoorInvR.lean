/-
  A region that draws its order and lays memory in several operations: what each operation yields is told by a word on its value and the world, which lasts in later worlds. Then a tail in one forced order.
-/
import Derived.Test.YtcjakmnplkeldaaDoorFree
namespace Go.Proofs.YtcjakmnplkeldaaDoor
open Go.RowKit
section
variable {P : Program} {Q : Exit → Act → World → Prop}
def invB (l : List Oper) (n size : Nat) : Bool :=
  formedB l.toArray size && decide (n ≤ l.length) && (decide (n = l.length) || (Region.sinkB .any l.toArray n && Region.chainB .any l.toArray n)) &&
  Region.seqB .any l.toArray (l.length - n) n (List.replicate n true ++ List.replicate (l.length - n) false).toArray
theorem wp_region_inv {id : Nat} {l : List Oper} {a : Act} {w : World} (n : Nat) (spec : Nat → Value → World → Prop) (hm : P.follows .mixedOrders = true) (hB : invB l n a.tmps.size = true) (hmono : ∀ i v w w', spec i v w → Below w.heap.size w w' → spec i v w')
    (hstep : ∀ (i : Nat) (o : Oper) (a' : Act) (w' : World), i < n → l[i]? = some o → Below w.heap.size w w' → Agree l.toArray spec a a' o w' → o.wp P a' w' (fun a'' w'' => ∃ v, a'' = a'.put o.dst v ∧ spec i v w'' ∧ Below w'.heap.size w' w'') Q)
    (hend : ∀ (a' : Act) (w' : World), Below w.heap.size w w' → a'.defers = a.defers → a'.tmps.size = a.tmps.size → (∀ (i : Nat) (o : Oper) (d : Nat), i < n → l[i]? = some o → o.dst = some d → spec i (a'.tmps.getD d undef) w') → (∀ t, (∀ (j : Nat) (oj : Oper), j < n → l[j]? = some oj → oj.dst ≠ some t) → a'.tmps[t]? = a.tmps[t]?) → wpList P l.toArray Q (l.drop n) a' w') : (Code.region id l.toArray true).wp P Q a w := by
  simp only [invB, Bool.and_eq_true, decide_eq_true_eq] at hB
  obtain ⟨⟨⟨hF, hlen⟩, hsk⟩, hseq⟩ := hB
  have F := formed_of hF
  have get : ∀ (i : Nat) (o : Oper), l[i]? = some o → l.toArray[i]? = some o := fun i o h => by simpa using h
  have getL : ∀ (i : Nat) (o : Oper), l.toArray[i]? = some o → l[i]? = some o := fun i o h => by simpa using h
  have hsz : l.toArray.size = l.length := by simp
  have hT : ∀ listed, HeadInv .any l.toArray n listed → (∃ i, i < n ∧ listed.getD i true = false) → ∀ t ∈ Region.ready .any l.toArray listed, t < n := by
    rintro listed inv ⟨i, hi, hl⟩ t ht
    by_cases e : n = l.length
    · obtain ⟨_, o, ho, _⟩ := mem_ready.1 ht
      have := (Array.getElem?_eq_some_iff.1 ho).1
      omega
    · rw [decide_eq_false e] at hsk
      simp only [Bool.false_or, Bool.and_eq_true] at hsk
      rcases Nat.lt_or_ge t n with h | h
      · exact h
      · exact absurd ht (tail_waits hsk.1 hsk.2 (by omega) inv _ i rfl hi hl t h)
  have hend' : ∀ (listed : Array Bool) (a' : Act) (w' : World), HeadInv .any l.toArray n listed → (∀ i, i < n → listed.getD i true = true) → Below w.heap.size w w' → a'.defers = a.defers → a'.tmps.size = a.tmps.size → (∀ (i : Nat) (o : Oper) (d : Nat), i < n → l.toArray[i]? = some o → o.dst = some d → spec i (a'.tmps.getD d undef) w') → (∀ t, (∀ (j : Nat) (oj : Oper), j < n → l.toArray[j]? = some oj → oj.dst ≠ some t) → a'.tmps[t]? = a.tmps[t]?) → wpAny P .any l.toArray Q (l.drop n).length listed a' w' := by
    intro listed a' w' hv all hb hdf hts hdone hrest
    have el : listed = (List.replicate n true ++ List.replicate (l.length - n) false).toArray := by
      apply Array.ext_getElem?
      intro i
      rw [show (List.replicate n true ++ List.replicate (l.length - n) false).toArray[i]? = (List.replicate n true ++ List.replicate (l.length - n) false)[i]? from by simp only [List.getElem?_toArray], List.getElem?_append, List.length_replicate]
      by_cases h1 : i < n
      · rw [if_pos h1, List.getElem?_replicate, if_pos h1]
        have := all i h1
        have hlt : i < listed.size := by rw [hv.size, hsz]; omega
        rw [Array.getD_eq_getD_getElem?, Array.getElem?_eq_getElem hlt] at this
        rw [Array.getElem?_eq_getElem hlt]
        exact congrArg some this
      · rw [if_neg h1, List.getElem?_replicate]
        by_cases h2 : i < l.length
        · rw [if_pos (by omega)]
          have := hv.tail i (by omega) (by omega)
          have hlt : i < listed.size := by rw [hv.size, hsz]; omega
          rw [Array.getD_eq_getD_getElem?, Array.getElem?_eq_getElem hlt] at this
          rw [Array.getElem?_eq_getElem hlt]
          exact congrArg some this
        · rw [if_neg (by omega), Array.getElem?_eq_none (by rw [hv.size, hsz]; omega)]
    refine wpAny_of_seq (l.drop n) n listed _ w' (fun j => by simp [List.getElem?_drop]) ?_ (hend a' w' hb hdf hts (fun i o d hi ho hd => hdone i o d hi (get i o ho) hd) (fun t ht => hrest t (fun j oj hj ho => ht j oj hj (getL j oj ho))))
    rw [el, List.length_drop]; exact hseq
  refine wp_region_any hm ?_
  have H := wpAny_inv (P := P) (Q := Q) (a0 := a) (w0 := w) (n := n) (g := (l.drop n).length) F (by omega) hT spec hmono (fun i o a' w' hi ho hb hag => hstep i o a' w' hi (getL i o ho) hb hag) hend' n (Array.replicate l.toArray.size false) a { w with drawn := w.drawn + 1 } ?_ ?_ ?_
  · rw [List.length_drop, show n + (l.length - n) = l.toArray.size by omega] at H
    exact H
  · unfold unlisted
    rw [List.filter_eq_self.2 (fun i hi => ?_), List.length_range]
    rw [List.mem_range] at hi
    rw [Array.getD_eq_getD_getElem?, Array.getElem?_eq_getElem (by simp; omega)]
    simp
  · refine ⟨by simp, fun j oj hj hl => ?_, fun t _ ht => ?_⟩
    · rw [Array.getD_eq_getD_getElem?, Array.getElem?_replicate] at hl
      split at hl <;> cases hl
    · rw [Array.getD_eq_getD_getElem?, Array.getElem?_eq_getElem (by simpa using ht)]; simp
  · refine ⟨by simp, (Below.refl w.heap.size w).drew, rfl, rfl, fun i o d' ho hl => ?_, fun t _ => rfl⟩
    have hi := (Array.getElem?_eq_some_iff.1 ho).1
    rw [Array.getD_eq_getD_getElem?, Array.getElem?_eq_getElem (by simpa using hi)] at hl
    simp at hl
theorem step_val {o : Oper} {a : Act} {w w' : World} {v : Value} {S : Value → World → Prop} (hr : (execOp a.eval o).run P w = .ok (.value v) w') (h : S v w') (hb : Below w.heap.size w w') : o.wp P a w (fun a' w' => ∃ v, a' = a.put o.dst v ∧ S v w' ∧ Below w.heap.size w w') Q := by
  unfold Oper.wp; rw [hr]; exact ⟨v, rfl, h, hb⟩
theorem step_call {o : Oper} {a : Act} {w : World} {f : FuncId} {args : Array Value} {S : Value → World → Prop} (hr : (execOp a.eval o).run P w = .ok (.enter f args) w) (h : Calls P f args w fun e w' => ∃ v, e = .returned v ∧ S v w' ∧ Below w.heap.size w w') : o.wp P a w (fun a' w' => ∃ v, a' = a.put o.dst v ∧ S v w' ∧ Below w.heap.size w w') Q := by
  unfold Oper.wp; rw [hr]
  exact h.mono fun e w' ⟨v, he, h1, h2⟩ => by subst he; exact ⟨v, rfl, h1, h2⟩
end
end Go.Proofs.YtcjakmnplkeldaaDoor
