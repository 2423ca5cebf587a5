/-
  A region that draws its order, by an invariant: each operation has a word of its own on what it yields, which later operations keep. One operation may lay memory whose address hangs on the order.
-/
import Derived.Test.YtcjakmnplkeldaaDoorTail
namespace Go.Proofs.YtcjakmnplkeldaaDoor
open Go.RowKit
set_option linter.unusedVariables false
set_option linter.unusedSimpArgs false
section
variable {P : Program} {ops : Array Oper} {Q : Exit → Act → World → Prop}
/-- how many are still to come -/
def unlisted (n : Nat) (listed : Array Bool) : Nat := ((List.range n).filter fun i => !listed.getD i true).length
/-- the region's form: no guard; no slot is written twice; what is read was yielded; edges go back -/
structure Formed (ops : Array Oper) (size : Nat) : Prop where
  guard : ∀ (i : Nat) (o : Oper), ops[i]? = some o → o.guard = none
  dst : ∀ (i j : Nat) (oi oj : Oper) (d : Nat), ops[i]? = some oi → ops[j]? = some oj → oi.dst = some d → oj.dst = some d → i = j
  dep : ∀ (i : Nat) (oi : Oper), ops[i]? = some oi → ∀ t, Operand.tmp t ∈ oi.op.operands → ∀ (j : Nat) (oj : Oper), ops[j]? = some oj → oj.dst = some t → ∃ e ∈ oi.after, Region.binds .any e = true ∧ e.on = j
  back : ∀ (i : Nat) (o : Oper), ops[i]? = some o → ∀ e ∈ o.after, Region.binds .any e = true → e.on < i
  fits : ∀ (i : Nat) (o : Oper) (d : Nat), ops[i]? = some o → o.dst = some d → d < size
def formedB (ops : Array Oper) (size : Nat) : Bool :=
  (List.range ops.size).all fun i => match ops[i]? with
    | none => true
    | some o => o.guard.isNone && o.after.all (fun e => !Region.binds .any e || decide (e.on < i)) && (match o.dst with | some d => decide (d < size) | none => true) &&
      (List.range ops.size).all fun j => match ops[j]? with
        | none => true
        | some oj => (i == j || o.dst.isNone || o.dst != oj.dst) && (match oj.dst with
          | none => true
          | some t => !(o.op.operands.any fun x => match x with | .tmp t' => t' == t | _ => false) || o.after.any fun e => Region.binds .any e && e.on == j)
theorem formed_of {ops : Array Oper} {size : Nat} (h : formedB ops size = true) : Formed ops size := by
  unfold formedB at h
  rw [List.all_eq_true] at h
  have key : ∀ (i : Nat) (o : Oper), ops[i]? = some o → o.guard.isNone = true ∧ o.after.all (fun e => !Region.binds .any e || decide (e.on < i)) = true ∧ (match o.dst with | some d => decide (d < size) | none => true) = true ∧
      ∀ (j : Nat) (oj : Oper), ops[j]? = some oj → (i == j || o.dst.isNone || o.dst != oj.dst) = true ∧ (match oj.dst with
          | none => true
          | some t => !(o.op.operands.any fun x => match x with | .tmp t' => t' == t | _ => false) || o.after.any fun e => Region.binds .any e && e.on == j) = true := by
    intro i o ho
    have hi : i < ops.size := (Array.getElem?_eq_some_iff.1 ho).1
    have := h i (List.mem_range.2 hi)
    rw [ho] at this
    simp only [Bool.and_eq_true, List.all_eq_true] at this
    obtain ⟨⟨⟨h1, h2⟩, h3⟩, h4⟩ := this
    refine ⟨h1, h2, h3, fun j oj hoj => ?_⟩
    have hj : j < ops.size := (Array.getElem?_eq_some_iff.1 hoj).1
    have := h4 j (List.mem_range.2 hj)
    rw [hoj] at this
    simpa only [Bool.and_eq_true] using this
  refine ⟨fun i o ho => by simpa using (key i o ho).1, fun i j oi oj d hi hj h1 h2 => ?_, fun i oi hi t ht j oj hj hd => ?_, fun i o ho e he hbd => ?_, fun i o d ho hd => ?_⟩
  · have := ((key i oi hi).2.2.2 j oj hj).1
    rw [h1, h2] at this
    simpa using this
  · have := ((key i oi hi).2.2.2 j oj hj).2
    rw [hd] at this
    simp only [Bool.or_eq_true, Bool.not_eq_true'] at this
    rcases this with h1 | h1
    · exfalso
      rw [Array.any_eq_false] at h1
      obtain ⟨q, hq, e⟩ := Array.getElem_of_mem ht
      have := h1 q hq
      rw [e] at this
      simp at this
    · rw [Array.any_eq_true] at h1
      obtain ⟨q, hq, e⟩ := h1
      simp only [Bool.and_eq_true, beq_iff_eq] at e
      exact ⟨oi.after[q], Array.getElem_mem hq, e.1, e.2⟩
  · have := (key i o ho).2.1
    rw [Array.all_eq_true] at this
    obtain ⟨q, hq, rfl⟩ := Array.getElem_of_mem he
    have h2 := this q hq
    rw [hbd] at h2
    simpa using h2
  · have := (key i o ho).2.2.1
    rw [hd] at this
    simpa using this
/-- what the operands of an operation are -/
def Agree (ops : Array Oper) (spec : Nat → Value → World → Prop) (a0 a : Act) (o : Oper) (w : World) : Prop :=
  ∀ t, Operand.tmp t ∈ o.op.operands → (∀ (j : Nat) (oj : Oper), ops[j]? = some oj → oj.dst = some t → spec j (a.eval (.tmp t)) w) ∧ ((∀ (j : Nat) (oj : Oper), ops[j]? = some oj → oj.dst ≠ some t) → a.eval (.tmp t) = a0.eval (.tmp t))
structure Inv (ops : Array Oper) (spec : Nat → Value → World → Prop) (a0 : Act) (w0 : World) (listed : Array Bool) (a : Act) (w : World) : Prop where
  size : listed.size = ops.size
  below : Below w0.heap.size w0 w
  defers : a.defers = a0.defers
  tmps : a.tmps.size = a0.tmps.size
  done : ∀ (i : Nat) (o : Oper) (d : Nat), ops[i]? = some o → listed.getD i true = true → o.dst = some d → spec i (a.tmps.getD d undef) w
  rest : ∀ t, (∀ (j : Nat) (oj : Oper), ops[j]? = some oj → listed.getD j true = true → oj.dst ≠ some t) → a.tmps[t]? = a0.tmps[t]?
theorem filter_len_one {n m i : Nat} {listed : Array Bool} (hi : i < n) (hs : listed.size = m) (hn : n ≤ m) (h : listed.getD i true = false) : ((List.range n).filter fun j => !(listed.setIfInBounds i true).getD j true).length + 1 = ((List.range n).filter fun j => !listed.getD j true).length := by
  have e : ∀ j, (!(listed.setIfInBounds i true).getD j true) = (j != i && !listed.getD j true) := fun j => by
    by_cases hj : j = i
    · subst hj
      rw [Array.getD_eq_getD_getElem?, Array.getElem?_setIfInBounds_self_of_lt (by omega)]; simp
    · rw [Array.getD_eq_getD_getElem?, Array.getElem?_setIfInBounds_ne (Ne.symm hj), ← Array.getD_eq_getD_getElem?]; simp [hj]
  simp only [e]
  rw [← List.filter_filter]
  have hmem : i ∈ (List.range n).filter fun j => !listed.getD j true := List.mem_filter.2 ⟨List.mem_range.2 hi, by rw [h]; rfl⟩
  have hnd : ((List.range n).filter fun j => !listed.getD j true).Nodup := List.Pairwise.filter _ List.nodup_range
  have := List.Nodup.erase_eq_filter hnd i
  have hl := List.length_erase_of_mem hmem
  rw [this] at hl
  have hp := List.length_pos_of_mem hmem
  omega
theorem wpAny_inv {a0 : Act} {w0 : World} {n g : Nat} (F : Formed ops a0.tmps.size) (hn : n ≤ ops.size) (hT : ∀ listed, HeadInv .any ops n listed → (∃ i, i < n ∧ listed.getD i true = false) → ∀ t ∈ Region.ready .any ops listed, t < n)
    (spec : Nat → Value → World → Prop) (hmono : ∀ i v w w', spec i v w → Below w.heap.size w w' → spec i v w')
    (hstep : ∀ (i : Nat) (o : Oper) (a : Act) (w : World), i < n → ops[i]? = some o → Below w0.heap.size w0 w → Agree ops spec a0 a o w → o.wp P a w (fun a' w' => ∃ v, a' = a.put o.dst v ∧ spec i v w' ∧ Below w.heap.size w w') Q)
    (hend : ∀ (listed : Array Bool) (a : Act) (w : World), HeadInv .any ops n listed → (∀ i, i < n → listed.getD i true = true) → Below w0.heap.size w0 w → a.defers = a0.defers → a.tmps.size = a0.tmps.size → (∀ (i : Nat) (o : Oper) (d : Nat), i < n → ops[i]? = some o → o.dst = some d → spec i (a.tmps.getD d undef) w) → (∀ t, (∀ (j : Nat) (oj : Oper), j < n → ops[j]? = some oj → oj.dst ≠ some t) → a.tmps[t]? = a0.tmps[t]?) → wpAny P .any ops Q g listed a w) :
    ∀ (f : Nat) (listed : Array Bool) (a : Act) (w : World), unlisted n listed = f → HeadInv .any ops n listed → Inv ops spec a0 w0 listed a w → wpAny P .any ops Q (f + g) listed a w := by
  have low : ∀ {listed : Array Bool} {i : Nat}, listed.size = ops.size → i < n → listed.getD i true = false → unlisted n (listed.setIfInBounds i true) + 1 = unlisted n listed := fun {listed i} hs hi hl => by
    unfold unlisted
    exact filter_len_one hi hs hn hl
  intro f
  induction f with
  | zero =>
    intro listed a w hu hv inv
    rw [Nat.zero_add]
    have all : ∀ i, i < n → listed.getD i true = true := fun i hi => by
      cases hl : listed.getD i true with
      | true => rfl
      | false => have := low inv.size hi hl; omega
    refine hend listed a w hv all inv.below inv.defers inv.tmps (fun i o d hi ho hd => inv.done i o d ho (all i hi) hd) (fun t ht => inv.rest t (fun j oj hj hjl => ?_))
    rcases Nat.lt_or_ge j n with h1 | h1
    · exact ht j oj h1 hj
    · have := hv.tail j h1 (Array.getElem?_eq_some_iff.1 hj).1
      rw [hjl] at this; cases this
  | succ f ih =>
    intro listed a w hu hv inv
    have ex : ∃ i, i < n ∧ listed.getD i true = false := by
      have : 0 < unlisted n listed := by omega
      unfold unlisted at this
      obtain ⟨i, hi⟩ := List.exists_mem_of_length_pos this
      rw [List.mem_filter, List.mem_range] at hi
      exact ⟨i, hi.1, by simpa using hi.2⟩
    rw [Nat.add_right_comm]
    refine ⟨fun hr => ?_, fun i hi => ?_⟩
    · exfalso
      obtain ⟨i, hi, hl⟩ := ex
      have : ∀ i, i < n → listed.getD i true = true := by
        intro i
        induction i using Nat.strongRecOn with
        | ind i ih =>
          intro hi
          cases hl : listed.getD i true with
          | true => rfl
          | false =>
            exfalso
            have ho : ops[i]? = some (ops[i]'(by omega)) := Array.getElem?_eq_getElem (by omega)
            have : i ∈ Region.ready .any ops listed := mem_ready.2 ⟨hl, _, ho, fun e he hb => by
              have hlt := F.back i _ ho e he hb
              have := ih e.on hlt (by omega)
              rw [Array.getD_eq_getD_getElem?, Array.getElem?_eq_getElem (by rw [inv.size]; omega)] at this ⊢
              exact this⟩
            rw [hr] at this
            cases this
      rw [this i hi] at hl; cases hl
    have hin := hT listed hv ex i hi
    obtain ⟨hl, o, ho, hall⟩ := mem_ready.1 hi
    have hlt := low inv.size hin hl
    unfold wpOp
    rw [ho]
    dsimp only
    have hw : Region.wanted o (yielded ops a.tmps) = true := by unfold Region.wanted; rw [F.guard i o ho]
    rw [if_pos hw]
    left
    have hag : Agree ops spec a0 a o w := fun t ht => ⟨fun j oj hj hd => by
      obtain ⟨e, he, hb, hon⟩ := F.dep i o ho t ht j oj hj hd
      have h1 := hall e he hb
      rw [hon] at h1
      have hj' : j < listed.size := by rw [inv.size]; exact (Array.getElem?_eq_some_iff.1 hj).1
      refine inv.done j oj t hj ?_ hd
      rw [Array.getD_eq_getD_getElem?, Array.getElem?_eq_getElem hj'] at h1 ⊢
      exact h1, fun hn => by
      have := inv.rest t (fun j oj hj _ => hn j oj hj)
      show a.tmps.getD t undef = a0.tmps.getD t undef
      rw [Array.getD_eq_getD_getElem?, Array.getD_eq_getD_getElem?, this]⟩
    refine Oper.wp_mono ?_ (hstep i o a w hin ho inv.below hag)
    rintro a' w' ⟨v, rfl, hs, hb⟩
    refine ih _ _ _ (by omega) (hv.set hi hin) ⟨by simpa using inv.size, inv.below.trans (hb.mono inv.below.size), ?_, ?_, ?_, ?_⟩
    · cases o.dst <;> exact inv.defers
    · rw [← inv.tmps]; cases o.dst <;> simp [Act.put]
    · intro j oj d hj hjl hd
      by_cases e : i = j
      · subst e
        rw [ho] at hj
        cases hj
        have hfit := F.fits i o d ho hd
        rw [hd]
        show spec i ((a.tmps.setIfInBounds d v).getD d undef) w'
        rw [Array.getD_eq_getD_getElem?, Array.getElem?_setIfInBounds_self_of_lt (by rw [inv.tmps]; exact hfit)]
        exact hs
      · have hjl' : listed.getD j true = true := by
          rwa [Array.getD_eq_getD_getElem?, Array.getElem?_setIfInBounds_ne e, ← Array.getD_eq_getD_getElem?] at hjl
        have h1 := hmono j _ _ _ (inv.done j oj d hj hjl' hd) hb
        cases hdi : o.dst with
        | none => exact h1
        | some di =>
          have hne : di ≠ d := by rintro rfl; exact e (F.dst i j o oj di ho hj hdi hd)
          show spec j ((a.tmps.setIfInBounds di v).getD d undef) w'
          rw [Array.getD_eq_getD_getElem?, Array.getElem?_setIfInBounds_ne hne, ← Array.getD_eq_getD_getElem?]
          exact h1
    · intro t ht
      have h1 := inv.rest t (fun j oj hj hjl => ht j oj hj (by
        by_cases e : i = j
        · subst e; rw [hl] at hjl; cases hjl
        · rwa [Array.getD_eq_getD_getElem?, Array.getElem?_setIfInBounds_ne e, ← Array.getD_eq_getD_getElem?]))
      cases hdi : o.dst with
      | none => exact h1
      | some di =>
        have hne : di ≠ t := by
          rintro rfl
          refine ht i o ho ?_ hdi
          rw [Array.getD_eq_getD_getElem?, Array.getElem?_setIfInBounds_self_of_lt (by rw [inv.size]; exact (Array.getElem?_eq_some_iff.1 ho).1)]; rfl
        show (a.tmps.setIfInBounds di v)[t]? = a0.tmps[t]?
        rw [Array.getElem?_setIfInBounds_ne hne]
        exact h1
end
def ExtC (wb : World) : World → Prop := fun w' => ∃ u : Ext wb, w' = u.val
section
variable {P : Program} {ops : Array Oper} {Q : Exit → Act → World → Prop}
theorem put_get_ne {a : Act} {d t : Nat} {v : Value} (h : d ≠ t) : (a.put (some d) v).tmps[t]? = a.tmps[t]? := by
  show (a.tmps.setIfInBounds d v)[t]? = _
  rw [Array.getElem?_setIfInBounds_ne h]
theorem put_get_eq {a : Act} {d : Nat} {v : Value} (h : d < a.tmps.size) : (a.put (some d) v).tmps.getD d undef = v := by
  show (a.tmps.setIfInBounds d v).getD d undef = v
  rw [Array.getD_eq_getD_getElem?, Array.getElem?_setIfInBounds_self_of_lt h]; rfl
theorem put_size (a : Act) (d : Option Nat) (v : Value) : (a.put d v).tmps.size = a.tmps.size := by cases d <;> simp [Act.put]
theorem put_defers (a : Act) (d : Option Nat) (v : Value) : (a.put d v).defers = a.defers := by cases d <;> rfl
/-- what a walk in the text's order says of each of its operations -/
theorem quiet_chain {C : World → Prop} {af : Act} : ∀ (l : List Oper) (a : Act), (∀ o ∈ l, o.guard = none) → l.Pairwise (fun x y => ∀ d, x.dst = some d → y.dst ≠ some d) → (∀ o ∈ l, ∀ d, o.dst = some d → d < a.tmps.size) → wpQuiet P ops C (· = af) l a →
    (af.defers = a.defers ∧ af.tmps.size = a.tmps.size ∧ ∀ t, (∀ o ∈ l, o.dst ≠ some t) → af.tmps[t]? = a.tmps[t]?) ∧
    ∀ (k : Nat) (o : Oper), l[k]? = some o → ∃ ak v, (∀ w, C w → o.quietAt P ak C w v) ∧ (∀ t, (∀ oj ∈ l.drop k, oj.dst ≠ some t) → ak.tmps[t]? = af.tmps[t]?) ∧ ∀ d, o.dst = some d → af.tmps.getD d undef = v
  | [], a, _, _, _, h => by
    have e : a = af := h
    subst e
    exact ⟨⟨rfl, rfl, fun _ _ => rfl⟩, fun k o hk => by simp at hk⟩
  | o :: l, a, hg, hp, hf, h => by
    have hw : Region.wanted o (yielded ops a.tmps) = true := by unfold Region.wanted; rw [hg o (by simp)]
    simp only [wpQuiet, hw, if_true] at h
    obtain ⟨v, hq, hn⟩ := h
    rw [List.pairwise_cons] at hp
    obtain ⟨⟨h1, h2, h3⟩, h4⟩ := quiet_chain l (a.put o.dst v) (fun x hx => hg x (List.mem_cons_of_mem _ hx)) hp.2 (fun x hx d hd => by rw [put_size]; exact hf x (List.mem_cons_of_mem _ hx) d hd) hn
    have h3' : ∀ t, (∀ x ∈ o :: l, x.dst ≠ some t) → af.tmps[t]? = a.tmps[t]? := fun t ht => by
      rw [h3 t (fun x hx => ht x (List.mem_cons_of_mem _ hx))]
      cases hd : o.dst with
      | none => rfl
      | some d => exact put_get_ne (by rintro rfl; exact ht o (by simp) hd)
    refine ⟨⟨h1.trans (put_defers _ _ _), h2.trans (put_size _ _ _), h3'⟩, fun k x hx => ?_⟩
    cases k with
    | succ k => exact h4 k x (by simpa using hx)
    | zero =>
      have : o = x := by simpa using hx
      subst this
      refine ⟨a, v, hq, fun t ht => (h3' t (by simpa using ht)).symm, fun d hd => ?_⟩
      have hfit := hf o (by simp) d hd
      have e : af.tmps[d]? = (a.put o.dst v).tmps[d]? := h3 d (fun y hy => hp.1 y hy d hd)
      rw [Array.getD_eq_getD_getElem?, e, ← Array.getD_eq_getD_getElem?, hd]
      exact put_get_eq hfit
theorem step_quiet {o : Oper} {a ak : Act} {w : World} {v : Value} (hs : ∀ cs b, o.op ≠ .select cs b) (hq : o.quietAt P ak (ExtC w) w v) (hc : ∀ x ∈ o.op.operands, a.eval x = ak.eval x) :
    o.wp P a w (fun a' w' => ∃ v', a' = a.put o.dst v' ∧ v' = v ∧ Below w.heap.size w w') Q := by
  unfold Oper.wp
  unfold Oper.quietAt at hq
  rw [execOp_congr o hs hc]
  generalize (execOp ak.eval o).run P w = r at hq ⊢
  cases r with
  | ok x w' =>
    cases x <;> simp only [Oper.quietUpon] at hq <;> simp only [Oper.upon]
    · obtain ⟨rfl, rfl⟩ := hq; exact ⟨_, rfl, rfl, Below.refl _ _⟩
    · obtain ⟨rfl, rfl⟩ := hq; exact ⟨_, rfl, rfl, Below.refl _ _⟩
    · obtain ⟨rfl, hq⟩ := hq
      refine hq.mono ?_
      rintro e w'' ⟨rfl, u, rfl⟩
      exact ⟨_, rfl, rfl, u.below⟩
  | halt x w' => exact hq.elim
end
section
variable {P : Program} {Q : Exit → Act → World → Prop}
def readsT (d : Nat) (o : Oper) : Bool := o.op.operands.any fun x => match x with | .tmp t => t == d | _ => false
theorem readsT_iff {d : Nat} {o : Oper} : readsT d o = true ↔ Operand.tmp d ∈ o.op.operands := by
  unfold readsT
  rw [Array.any_eq_true]
  constructor
  · rintro ⟨q, hq, e⟩
    split at e
    · rename_i t ht
      have : t = d := by simpa using e
      subst this
      rw [← ht]; exact Array.getElem_mem hq
    · cases e
  · intro h
    obtain ⟨q, hq, e⟩ := Array.getElem_of_mem h
    exact ⟨q, hq, by rw [e]; simp⟩
/-- all that is asked of the region's form -/
def freeB (l : List Oper) (n1 k2 k3 d size : Nat) : Bool :=
  formedB l.toArray size && Region.noSelect l.toArray && decide (n1 + 1 + k2 + k3 ≤ l.length) && ((l[n1]?).bind (·.dst) == some d) && (l.take n1).all (fun o => !readsT d o) && ((l.drop (n1 + 1)).take k2).all (readsT d) && ((l.drop (n1 + 1 + k2)).take k3).all (fun o => !readsT d o) &&
  (decide (n1 + 1 + k2 + k3 = l.length) || (Region.sinkB .any l.toArray (n1 + 1 + k2 + k3) && Region.chainB .any l.toArray (n1 + 1 + k2 + k3))) &&
  Region.seqB .any l.toArray (l.length - (n1 + 1 + k2 + k3)) (n1 + 1 + k2 + k3) (List.replicate (n1 + 1 + k2 + k3) true ++ List.replicate (l.length - (n1 + 1 + k2 + k3)) false).toArray
theorem getD_of_get {a b : Act} {t : Nat} (h : a.tmps[t]? = b.tmps[t]?) : a.tmps.getD t undef = b.tmps.getD t undef := by rw [Array.getD_eq_getD_getElem?, Array.getD_eq_getD_getElem?, h]
theorem wp_region_free {id : Nat} {l : List Oper} {a a1 am a2 : Act} {w : World} (n1 k2 k3 d : Nat) (o1 : Oper) (Φ : Value → World → Prop) (hm : P.follows .mixedOrders = true) (hB : freeB l n1 k2 k3 d a.tmps.size = true) (ho1 : l[n1]? = some o1)
    (hΦ : ∀ X w w', Φ X w → Below w.heap.size w w' → Φ X w')
    (W1 : ∀ wb, Below w.heap.size w wb → wpQuiet P l.toArray (ExtC wb) (· = a1) (l.take n1) a)
    (MK : ∀ wb, Below w.heap.size w wb → ∃ X w', (execOp a1.eval o1).run P wb = .ok (.value X) w' ∧ Φ X w' ∧ Below wb.heap.size wb w')
    (UM : ∀ X wb, Below w.heap.size w wb → Φ X wb → wpQuiet P l.toArray (ExtC wb) (· = am.put (some d) X) ((l.drop (n1 + 1)).take k2) (a1.put (some d) X))
    (W2 : ∀ X wb, Below w.heap.size w wb → wpQuiet P l.toArray (ExtC wb) (· = a2.put (some d) X) ((l.drop (n1 + 1 + k2)).take k3) (am.put (some d) X))
    (hend : ∀ X w', Below w.heap.size w w' → Φ X w' → wpList P l.toArray Q (l.drop (n1 + 1 + k2 + k3)) (a2.put (some d) X) w') : (Code.region id l.toArray true).wp P Q a w := by
  simp only [freeB, Bool.and_eq_true, decide_eq_true_eq, beq_iff_eq, List.all_eq_true, Bool.not_eq_true'] at hB
  obtain ⟨⟨⟨⟨⟨⟨⟨⟨hF, hsel⟩, hlen⟩, hd⟩, hr1⟩, hr2⟩, hr3⟩, hsk⟩, hseq⟩ := hB
  have F := formed_of hF
  obtain ⟨N, hN⟩ : ∃ N, n1 + 1 + k2 + k3 = N := ⟨_, rfl⟩
  rw [hN] at hlen hsk hseq hend
  rw [ho1] at hd
  have hd1 : o1.dst = some d := hd
  have get : ∀ (i : Nat) (o : Oper), l[i]? = some o → l.toArray[i]? = some o := fun i o h => by simpa using h
  have getL : ∀ (i : Nat) (o : Oper), l.toArray[i]? = some o → l[i]? = some o := fun i o h => by simpa using h
  have idx : ∀ {i j : Nat} {x y : Oper} {t : Nat}, l[i]? = some x → l[j]? = some y → x.dst = some t → y.dst = some t → i = j := fun {i j x y t} h1 h2 h3 h4 => F.dst i j x y t (get i x h1) (get j y h2) h3 h4
  have seg : ∀ (p q : Nat), (∀ o ∈ (l.drop p).take q, o.guard = none) ∧ ((l.drop p).take q).Pairwise (fun x y => ∀ d, x.dst = some d → y.dst ≠ some d) ∧ ∀ o ∈ (l.drop p).take q, ∀ d, o.dst = some d → d < a.tmps.size := fun p q => by
    refine ⟨fun o ho => ?_, ?_, fun o ho d' hd' => ?_⟩
    · obtain ⟨i, hi⟩ := List.getElem?_of_mem (List.mem_of_mem_drop (List.mem_of_mem_take ho))
      exact F.guard i o (get i o hi)
    · rw [List.pairwise_iff_getElem]
      intro i j hi hj hij d' h1 h2
      have e1 : l[p + i]? = some (((l.drop p).take q)[i]) := by
        rw [← List.getElem?_drop]
        have := List.getElem?_eq_getElem hi
        rw [List.getElem?_take] at this
        split at this
        · exact this
        · cases this
      have e2 : l[p + j]? = some (((l.drop p).take q)[j]) := by
        rw [← List.getElem?_drop]
        have := List.getElem?_eq_getElem hj
        rw [List.getElem?_take] at this
        split at this
        · exact this
        · cases this
      have := idx e1 e2 h1 h2
      omega
    · obtain ⟨i, hi⟩ := List.getElem?_of_mem (List.mem_of_mem_drop (List.mem_of_mem_take ho))
      exact F.fits i o d' (get i o hi) hd'
  have s1 := seg 0 n1
  rw [List.drop_zero] at s1
  have s2 := seg (n1 + 1) k2
  have s3 := seg (n1 + 1 + k2) k3
  have hdn : d < a.tmps.size := F.fits n1 o1 d (get _ _ ho1) hd1
  -- the frames, once for all
  obtain ⟨⟨q1, q2, q3⟩, _⟩ := quiet_chain _ _ s1.1 s1.2.1 s1.2.2 (W1 w (Below.refl _ _))
  obtain ⟨X0, wX, _, hX0, hbX⟩ := MK w (Below.refl _ _)
  obtain ⟨⟨r1, r2, r3⟩, _⟩ := quiet_chain _ _ s2.1 s2.2.1 (fun o ho d' hd' => by rw [put_size, q2]; exact s2.2.2 o ho d' hd') (UM X0 wX hbX hX0)
  rw [put_size, put_size] at r2
  rw [put_defers, put_defers] at r1
  obtain ⟨⟨t1, t2, t3⟩, _⟩ := quiet_chain _ _ s3.1 s3.2.1 (fun o ho d' hd' => by rw [put_size, r2, q2]; exact s3.2.2 o ho d' hd') (W2 X0 w (Below.refl _ _))
  rw [put_size, put_size] at t2
  rw [put_defers, put_defers] at t1
  have inSeg : ∀ {p q : Nat} {o : Oper}, o ∈ (l.drop p).take q → ∃ i, l[i]? = some o ∧ p ≤ i ∧ i < p + q := fun {p q o} ho => by
    obtain ⟨i, hi⟩ := List.getElem?_of_mem ho
    rw [List.getElem?_take] at hi
    split at hi
    · rename_i h; rw [List.getElem?_drop] at hi; exact ⟨p + i, hi, by omega, by omega⟩
    · cases hi
  -- a slot that an early operation wrote
  have k1 : ∀ {j : Nat} {oj : Oper} {t : Nat}, l[j]? = some oj → oj.dst = some t → j < n1 → a2.tmps.getD t undef = a1.tmps.getD t undef ∧ am.tmps.getD t undef = a1.tmps.getD t undef ∧ t ≠ d := fun {j oj t} hj ht hlt => by
    have hne : t ≠ d := by rintro rfl; have := idx hj ho1 ht hd1; omega
    have e2 := r3 t (fun o ho e => by obtain ⟨i, hi, h1, h2⟩ := inSeg ho; have := idx hj hi ht e; omega)
    have e3 := t3 t (fun o ho e => by obtain ⟨i, hi, h1, h2⟩ := inSeg ho; have := idx hj hi ht e; omega)
    rw [put_get_ne (Ne.symm hne), put_get_ne (Ne.symm hne)] at e2 e3
    exact ⟨(getD_of_get e3).trans (getD_of_get e2), getD_of_get e2, hne⟩
  have kbase : ∀ {t : Nat}, (∀ (j : Nat) (oj : Oper), l[j]? = some oj → j < N → oj.dst ≠ some t) → a1.tmps[t]? = a.tmps[t]? ∧ am.tmps[t]? = a.tmps[t]? ∧ a2.tmps[t]? = a.tmps[t]? ∧ t ≠ d := fun {t} ht => by
    have hne : t ≠ d := by rintro rfl; exact ht n1 o1 ho1 (by omega) hd1
    have e1 := q3 t (fun o ho e => by
      have ho' : o ∈ (l.drop 0).take n1 := by rw [List.drop_zero]; exact ho
      obtain ⟨i, hi, _, h2⟩ := inSeg ho'; exact ht i o hi (by omega) e)
    have e2 := r3 t (fun o ho e => by obtain ⟨i, hi, h1, h2⟩ := inSeg ho; exact ht i o hi (by omega) e)
    have e3 := t3 t (fun o ho e => by obtain ⟨i, hi, h1, h2⟩ := inSeg ho; exact ht i o hi (by omega) e)
    rw [put_get_ne (Ne.symm hne), put_get_ne (Ne.symm hne)] at e2 e3
    exact ⟨e1, e2.trans e1, e3.trans (e2.trans e1), hne⟩
  have k2' : ∀ {j : Nat} {oj : Oper} {t : Nat}, l[j]? = some oj → oj.dst = some t → j < n1 + 1 + k2 → j ≠ n1 → a2.tmps.getD t undef = am.tmps.getD t undef ∧ t ≠ d := fun {j oj t} hj ht hlt hjn => by
    have hne : t ≠ d := by rintro rfl; exact hjn (idx hj ho1 ht hd1)
    have e3 := t3 t (fun o ho e => by obtain ⟨i, hi, h1, h2⟩ := inSeg ho; have := idx hj hi ht e; omega)
    rw [put_get_ne (Ne.symm hne), put_get_ne (Ne.symm hne)] at e3
    exact ⟨getD_of_get e3, hne⟩
  let spec : Nat → Value → World → Prop := fun i v w' => if i = n1 then Φ v w' else ∀ o d', l[i]? = some o → o.dst = some d' → v = a2.tmps.getD d' undef
  have sp1 : ∀ v w', spec n1 v w' = Φ v w' := fun v w' => if_pos rfl
  have sp2 : ∀ {i : Nat} {v : Value} {w' : World}, i ≠ n1 → (spec i v w' ↔ ∀ o d', l[i]? = some o → o.dst = some d' → v = a2.tmps.getD d' undef) := fun {i v w'} h => by show (if i = n1 then _ else _) ↔ _; rw [if_neg h]
  have hmono : ∀ i v w' w'', spec i v w' → Below w'.heap.size w' w'' → spec i v w'' := fun i v w' w'' h hb => by
    by_cases e : i = n1
    · subst e; rw [sp1] at h ⊢; exact hΦ v w' w'' h hb
    · rw [sp2 e] at h ⊢; exact h
  have hselN : ∀ (i : Nat) (o : Oper), l[i]? = some o → ∀ cs b, o.op ≠ .select cs b := fun i o ho cs b => Region.noSelect_spec hsel i o cs b (get i o ho)
  have opnd : ∀ {i : Nat} {o : Oper} {t : Nat}, l[i]? = some o → Operand.tmp t ∈ o.op.operands → (∃ (j : Nat) (oj : Oper), l[j]? = some oj ∧ oj.dst = some t ∧ j < i) ∨ ∀ (j : Nat) (oj : Oper), l[j]? = some oj → oj.dst ≠ some t := fun {i o t} ho ht => by
    by_cases h : ∃ (j : Nat) (oj : Oper), l[j]? = some oj ∧ oj.dst = some t
    · obtain ⟨j, oj, hj, hdj⟩ := h
      obtain ⟨e, he, hbd, hon⟩ := F.dep i o (get i o ho) t ht j oj (get j oj hj) hdj
      have := F.back i o (get i o ho) e he hbd
      exact .inl ⟨j, oj, hj, hdj, by omega⟩
    · exact .inr fun j oj hj hdj => h ⟨j, oj, hj, hdj⟩
  have hstep : ∀ (i : Nat) (o : Oper) (a' : Act) (w' : World), i < N → l.toArray[i]? = some o → Below w.heap.size w w' → Agree l.toArray spec a a' o w' → o.wp P a' w' (fun a'' w'' => ∃ v, a'' = a'.put o.dst v ∧ spec i v w'' ∧ Below w'.heap.size w' w'') Q := by
    intro i o a' w' hi ho hb hag
    replace ho := getL i o ho
    have ev : ∀ (b : Act) (t : Nat), b.eval (.tmp t) = b.tmps.getD t undef := fun _ _ => rfl
    have agd : ∀ {j : Nat} {oj : Oper} {t : Nat}, Operand.tmp t ∈ o.op.operands → l[j]? = some oj → oj.dst = some t → j ≠ n1 → a'.tmps.getD t undef = a2.tmps.getD t undef := fun {j oj t} ht hj hdj hjn => by
      have := (hag t ht).1 j oj (get j oj hj) hdj
      rw [sp2 hjn] at this
      exact this oj t hj hdj
    have agb : ∀ {t : Nat}, Operand.tmp t ∈ o.op.operands → (∀ (j : Nat) (oj : Oper), l[j]? = some oj → oj.dst ≠ some t) → a'.tmps.getD t undef = a.tmps.getD t undef := fun {t} ht hn => (hag t ht).2 (fun j oj hj => hn j oj (getL j oj hj))
    have here : ExtC w' w' := ⟨⟨w', Below.refl _ _⟩, rfl⟩
    by_cases c1 : i < n1
    · obtain ⟨_, hch⟩ := quiet_chain _ _ s1.1 s1.2.1 s1.2.2 (W1 w' hb)
      obtain ⟨ak, v, hq, hak, hv⟩ := hch i o (by rw [List.getElem?_take, if_pos c1]; exact ho)
      refine Oper.wp_mono ?_ (step_quiet (hselN i o ho) (hq w' here) (fun x hx => ?_))
      · rintro a'' w'' ⟨v', rfl, rfl, hb'⟩
        refine ⟨_, rfl, (sp2 (by omega)).2 (fun o' d' ho' hd' => ?_), hb'⟩
        rw [ho] at ho'; cases ho'
        rw [(k1 ho hd' c1).1, hv d' hd']
      · cases x with
        | tmp t =>
          rw [ev, ev]
          have nodst : ∀ {j : Nat} {oj : Oper}, l[j]? = some oj → oj.dst = some t → j < i → ∀ oj ∈ (l.take n1).drop i, oj.dst ≠ some t := fun {j oj} hj hdj hji y hy e => by
            obtain ⟨q, hq⟩ := List.getElem?_of_mem hy
            rw [List.getElem?_drop, List.getElem?_take] at hq
            split at hq
            · have := idx hj hq hdj e; omega
            · cases hq
          rcases opnd ho hx with ⟨j, oj, hj, hdj, hji⟩ | hn
          · rw [agd hx hj hdj (by omega), (k1 hj hdj (by omega)).1, getD_of_get (hak t (nodst hj hdj hji))]
          · rw [agb hx hn, ← getD_of_get (kbase (fun j oj hj _ => hn j oj hj)).1]
            refine (getD_of_get (hak t (fun y hy e => ?_))).symm
            obtain ⟨q, hq⟩ := List.getElem?_of_mem (List.mem_of_mem_take (List.mem_of_mem_drop hy))
            exact hn q y hq e
        | const v => rfl
        | global g => rfl
        | func f => rfl
    · by_cases c2 : i = n1
      · subst c2
        rw [ho1] at ho
        cases ho
        obtain ⟨X, w'', hrun, hX, hbX⟩ := MK w' hb
        have hc : ∀ x ∈ o1.op.operands, a'.eval x = a1.eval x := fun x hx => by
          cases x with
          | tmp t =>
            rw [ev, ev]
            rcases opnd ho1 hx with ⟨j, oj, hj, hdj, hji⟩ | hn
            · rw [agd hx hj hdj (by omega), (k1 hj hdj hji).1]
            · rw [agb hx hn, ← getD_of_get (kbase (fun j oj hj _ => hn j oj hj)).1]
          | const v => rfl
          | global g => rfl
          | func f => rfl
        unfold Oper.wp
        rw [execOp_congr o1 (hselN i o1 ho1) hc, hrun]
        exact ⟨X, rfl, by rw [sp1]; exact hX, hbX⟩
      · by_cases c3 : i < n1 + 1 + k2
        · have hkk : ((l.drop (n1 + 1)).take k2)[i - (n1 + 1)]? = some o := by
            rw [List.getElem?_take, if_pos (by omega), List.getElem?_drop, show n1 + 1 + (i - (n1 + 1)) = i by omega]; exact ho
          have hrd : Operand.tmp d ∈ o.op.operands := readsT_iff.1 (hr2 o (List.mem_of_getElem? hkk))
          have hX : Φ (a'.tmps.getD d undef) w' := by
            have := (hag d hrd).1 n1 o1 (get _ _ ho1) hd1
            rw [sp1] at this; exact this
          obtain ⟨_, hch⟩ := quiet_chain _ _ s2.1 s2.2.1 (fun o ho d' hd' => by rw [put_size, q2]; exact s2.2.2 o ho d' hd') (UM (a'.tmps.getD d undef) w' hb hX)
          obtain ⟨ak, v, hq, hak, hv⟩ := hch (i - (n1 + 1)) o hkk
          refine Oper.wp_mono ?_ (step_quiet (hselN i o ho) (hq w' here) (fun x hx => ?_))
          · rintro a'' w'' ⟨v', rfl, rfl, hb'⟩
            refine ⟨_, rfl, (sp2 c2).2 (fun o' d' ho' hd' => ?_), hb'⟩
            rw [ho] at ho'; cases ho'
            obtain ⟨e1, e2⟩ := k2' ho hd' c3 c2
            rw [e1, ← hv d' hd', getD_of_get (put_get_ne (Ne.symm e2))]
          · cases x with
            | tmp t =>
              rw [ev, ev]
              have nodst : ∀ {j : Nat} {oj : Oper}, l[j]? = some oj → oj.dst = some t → j < i → ∀ oj ∈ ((l.drop (n1 + 1)).take k2).drop (i - (n1 + 1)), oj.dst ≠ some t := fun {j oj} hj hdj hji y hy e => by
                obtain ⟨q, hq⟩ := List.getElem?_of_mem hy
                rw [List.getElem?_drop, List.getElem?_take] at hq
                split at hq
                · rw [List.getElem?_drop] at hq; have := idx hj hq hdj e; omega
                · cases hq
              rcases opnd ho hx with ⟨j, oj, hj, hdj, hji⟩ | hn
              · rw [getD_of_get (hak t (nodst hj hdj hji))]
                by_cases hjn : j = n1
                · subst hjn
                  rw [ho1] at hj; cases hj
                  have : t = d := by rw [hd1] at hdj; exact (Option.some.inj hdj).symm
                  subst this
                  rw [put_get_eq (by rw [r2, q2]; exact hdn)]
                · obtain ⟨e1, e2⟩ := k2' hj hdj (by omega) hjn
                  rw [agd hx hj hdj hjn, e1, getD_of_get (put_get_ne (Ne.symm e2))]
              · have kb := kbase (t := t) (fun j oj hj _ => hn j oj hj)
                rw [agb hx hn, ← getD_of_get kb.2.1, ← getD_of_get (put_get_ne (a := am) (v := a'.tmps.getD d undef) (Ne.symm kb.2.2.2))]
                refine (getD_of_get (hak t (fun y hy e => ?_))).symm
                obtain ⟨q, hq⟩ := List.getElem?_of_mem (List.mem_of_mem_drop (List.mem_of_mem_take (List.mem_of_mem_drop hy)))
                exact hn q y hq e
            | const v => rfl
            | global g => rfl
            | func f => rfl
        · have hkk : ((l.drop (n1 + 1 + k2)).take k3)[i - (n1 + 1 + k2)]? = some o := by
            rw [List.getElem?_take, if_pos (by omega), List.getElem?_drop, show n1 + 1 + k2 + (i - (n1 + 1 + k2)) = i by omega]; exact ho
          have hrd : readsT d o = false := hr3 o (List.mem_of_getElem? hkk)
          obtain ⟨_, hch⟩ := quiet_chain _ _ s3.1 s3.2.1 (fun o ho d' hd' => by rw [put_size, r2, q2]; exact s3.2.2 o ho d' hd') (W2 undef w' hb)
          obtain ⟨ak, v, hq, hak, hv⟩ := hch (i - (n1 + 1 + k2)) o hkk
          refine Oper.wp_mono ?_ (step_quiet (hselN i o ho) (hq w' here) (fun x hx => ?_))
          · rintro a'' w'' ⟨v', rfl, rfl, hb'⟩
            refine ⟨_, rfl, (sp2 c2).2 (fun o' d' ho' hd' => ?_), hb'⟩
            rw [ho] at ho'; cases ho'
            have hne : d' ≠ d := by rintro rfl; exact c2 (idx ho ho1 hd' hd1)
            rw [← hv d' hd', getD_of_get (put_get_ne (Ne.symm hne))]
          · cases x with
            | tmp t =>
              rw [ev, ev]
              have htd : t ≠ d := by rintro rfl; rw [readsT_iff.2 hx] at hrd; cases hrd
              rcases opnd ho hx with ⟨j, oj, hj, hdj, hji⟩ | hn
              · have hjn : j ≠ n1 := by rintro rfl; rw [ho1] at hj; cases hj; rw [hd1] at hdj; exact htd (Option.some.inj hdj).symm
                rw [agd hx hj hdj hjn, ← getD_of_get (put_get_ne (a := a2) (v := undef) (Ne.symm htd))]
                refine (getD_of_get (hak t (fun y hy e => ?_))).symm
                obtain ⟨q, hq⟩ := List.getElem?_of_mem hy
                rw [List.getElem?_drop, List.getElem?_take] at hq
                split at hq
                · rw [List.getElem?_drop] at hq; have := idx hj hq hdj e; omega
                · cases hq
              · have kb := kbase (t := t) (fun j oj hj _ => hn j oj hj)
                rw [agb hx hn, ← getD_of_get kb.2.2.1, ← getD_of_get (put_get_ne (a := a2) (v := undef) (Ne.symm htd))]
                refine (getD_of_get (hak t (fun y hy e => ?_))).symm
                obtain ⟨q, hq⟩ := List.getElem?_of_mem (List.mem_of_mem_drop (List.mem_of_mem_take (List.mem_of_mem_drop hy)))
                exact hn q y hq e
            | const v => rfl
            | global g => rfl
            | func f => rfl
  have hsz : l.toArray.size = l.length := by simp
  have hT : ∀ listed, HeadInv .any l.toArray N listed → (∃ i, i < N ∧ listed.getD i true = false) → ∀ t ∈ Region.ready .any l.toArray listed, t < N := by
    rintro listed inv ⟨i, hi, hl⟩ t ht
    by_cases e : N = l.length
    · obtain ⟨_, o, ho, _⟩ := mem_ready.1 ht
      have := (Array.getElem?_eq_some_iff.1 ho).1
      omega
    · rw [decide_eq_false e] at hsk
      simp only [Bool.false_or, Bool.and_eq_true] at hsk
      rcases Nat.lt_or_ge t N with h | h
      · exact h
      · exact absurd ht (tail_waits hsk.1 hsk.2 (by omega) inv _ i rfl hi hl t h)
  have hend' : ∀ (listed : Array Bool) (a' : Act) (w' : World), HeadInv .any l.toArray N listed → (∀ i, i < N → listed.getD i true = true) → Below w.heap.size w w' → a'.defers = a.defers → a'.tmps.size = a.tmps.size → (∀ (i : Nat) (o : Oper) (d : Nat), i < N → l.toArray[i]? = some o → o.dst = some d → spec i (a'.tmps.getD d undef) w') → (∀ t, (∀ (j : Nat) (oj : Oper), j < N → l.toArray[j]? = some oj → oj.dst ≠ some t) → a'.tmps[t]? = a.tmps[t]?) → wpAny P .any l.toArray Q (l.drop N).length listed a' w' := by
    intro listed a' w' hv all hb hdf hts hdone hrest
    have hX : Φ (a'.tmps.getD d undef) w' := by
      have := hdone n1 o1 d (by omega) (get _ _ ho1) hd1
      rw [sp1] at this; exact this
    have ea : a' = a2.put (some d) (a'.tmps.getD d undef) := by
      have e1 : a'.tmps = (a2.put (some d) (a'.tmps.getD d undef)).tmps := by
        apply Array.ext_getElem?
        intro t
        by_cases htd : t = d
        · subst htd
          have h1 : t < a'.tmps.size := by rw [hts]; exact hdn
          have h2 : t < a2.tmps.size := by rw [t2, r2, q2]; exact hdn
          show a'.tmps[t]? = (a2.tmps.setIfInBounds t _)[t]?
          rw [Array.getElem?_setIfInBounds_self_of_lt h2, Array.getElem?_eq_getElem h1]
          simp [Array.getD_eq_getD_getElem?, h1]
        · rw [put_get_ne (Ne.symm htd)]
          by_cases hex : ∃ (j : Nat) (oj : Oper), j < N ∧ l[j]? = some oj ∧ oj.dst = some t
          · obtain ⟨j, oj, hjN, hj, hdj⟩ := hex
            have hjn : j ≠ n1 := by rintro rfl; rw [ho1] at hj; cases hj; rw [hd1] at hdj; exact htd (Option.some.inj hdj).symm
            have := hdone j oj t hjN (get _ _ hj) hdj
            rw [sp2 hjn] at this
            have e := this oj t hj hdj
            have h1 : t < a'.tmps.size := by rw [hts]; exact F.fits j oj t (get _ _ hj) hdj
            have h2 : t < a2.tmps.size := by rw [t2, r2, q2]; exact F.fits j oj t (get _ _ hj) hdj
            rw [Array.getElem?_eq_getElem h1, Array.getElem?_eq_getElem h2]
            rw [Array.getD_eq_getD_getElem?, Array.getD_eq_getD_getElem?, Array.getElem?_eq_getElem h1, Array.getElem?_eq_getElem h2] at e
            exact congrArg some e
          · have hn : ∀ (j : Nat) (oj : Oper), l[j]? = some oj → j < N → oj.dst ≠ some t := fun j oj hj hjN hdj => hex ⟨j, oj, hjN, hj, hdj⟩
            rw [hrest t (fun j oj hjN hj => hn j oj (getL _ _ hj) hjN), (kbase hn).2.2.1]
      have e2 : a'.defers = (a2.put (some d) (a'.tmps.getD d undef)).defers := by rw [put_defers, hdf, t1, r1, q1]
      cases a'
      cases hq : a2.put (some d) _
      rw [hq] at e1 e2
      simp only at e1 e2
      rw [e1, e2]
    have el : listed = (List.replicate N true ++ List.replicate (l.length - N) false).toArray := by
      apply Array.ext_getElem?
      intro i
      rw [show (List.replicate N true ++ List.replicate (l.length - N) false).toArray[i]? = (List.replicate N true ++ List.replicate (l.length - N) false)[i]? from by simp only [List.getElem?_toArray], List.getElem?_append, List.length_replicate]
      by_cases h1 : i < N
      · rw [if_pos h1, List.getElem?_replicate, if_pos h1]
        have := all i h1
        have hlt : i < listed.size := by rw [hv.size, hsz]; omega
        rw [Array.getD_eq_getD_getElem?, Array.getElem?_eq_getElem hlt] at this
        rw [Array.getElem?_eq_getElem hlt]
        exact congrArg some this
      · rw [if_neg h1, List.getElem?_replicate]
        by_cases h2 : i < l.length
        · rw [if_pos (by omega)]
          have := hv.tail i (by omega) (by omega)
          have hlt : i < listed.size := by rw [hv.size, hsz]; omega
          rw [Array.getD_eq_getD_getElem?, Array.getElem?_eq_getElem hlt] at this
          rw [Array.getElem?_eq_getElem hlt]
          exact congrArg some this
        · rw [if_neg (by omega), Array.getElem?_eq_none (by rw [hv.size, hsz]; omega)]
    rw [ea]
    refine wpAny_of_seq (l.drop N) N listed _ w' (fun j => by simp [List.getElem?_drop]) ?_ (hend _ w' hb hX)
    rw [el, List.length_drop]; exact hseq
  refine wp_region_any hm ?_
  have H := wpAny_inv (P := P) (Q := Q) (a0 := a) (w0 := w) (n := N) (g := (l.drop N).length) F (by omega) hT spec hmono hstep hend' N (Array.replicate l.toArray.size false) a { w with drawn := w.drawn + 1 } ?_ ?_ ?_
  · rw [List.length_drop, show N + (l.length - N) = l.toArray.size by omega] at H
    exact H
  · unfold unlisted
    rw [List.filter_eq_self.2 (fun i hi => ?_), List.length_range]
    rw [List.mem_range] at hi
    rw [Array.getD_eq_getD_getElem?, Array.getElem?_eq_getElem (by simp; omega)]
    simp
  · refine ⟨by simp, fun j oj hj hl => ?_, fun t _ ht => ?_⟩
    · rw [Array.getD_eq_getD_getElem?, Array.getElem?_replicate] at hl
      split at hl <;> cases hl
    · rw [Array.getD_eq_getD_getElem?, Array.getElem?_eq_getElem (by simpa using ht)]; simp
  · refine ⟨by simp, (Below.refl w.heap.size w).drew, rfl, rfl, fun i o d' ho hl => ?_, fun t _ => rfl⟩
    have hi := (Array.getElem?_eq_some_iff.1 ho).1
    rw [Array.getD_eq_getD_getElem?, Array.getElem?_eq_getElem (by simpa using hi)] at hl
    simp at hl
end
end Go.Proofs.YtcjakmnplkeldaaDoor
