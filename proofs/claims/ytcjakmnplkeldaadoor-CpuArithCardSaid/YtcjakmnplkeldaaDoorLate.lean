/-
  A region that draws its order, whose last operations stand in one forced order and write memory that the first ones do not read: the first ones may come up between the last ones. One walk of the text's order.
  The worlds go through stages: C 0 till the first of the last ones is done, C 1 behind it, and so on. What only reads is asked in every stage; a call in the first stage alone (each of the last ones waits for it).
-/
import Derived.Test.YtcjakmnplkeldaaDoorWaist
import Derived.Test.YtcjakmnplkeldaaDoorRowOps
namespace Go.Proofs.YtcjakmnplkeldaaDoor
open Go.RowKit
/-- operations that enter no function -/
def plainB (o : Oper) : Bool := match o.op with
  | .move _ | .assign _ | .load _ _ | .build _ _ | .fieldAddr _ _ _ | .field _ _ _ | .indexAddr _ _ _ | .index _ _ _ | .binOp _ _ _ _ _ | .unOp _ _ _ | .convert _ _ _ | .extract _ _ | .pick _ _ _ => true
  | _ => false
/-- no way out but the plain one -/
def noX : Exit → Act → World → Prop := fun _ _ _ => False
structure Stg (C : Nat → World → Prop) where
  k : Nat
  val : World
  prf : C k val
structure Stg0 (C : Nat → World → Prop) where
  val : World
  prf : C 0 val
theorem Stg0.call_same {C : Nat → World → Prop} {P : Program} {f : FuncId} {args : Array Value} {u : Stg0 C} {v : Value}
    (h : Calls P f args u.val fun e w' => e = .returned v ∧ u.val = w') : Calls P f args u.val fun e w'' => e = .returned v ∧ ∃ u' : Stg0 C, w'' = u'.val :=
  h.mono fun _ _ ⟨he, hb⟩ => ⟨he, u, hb.symm⟩
section
variable {P : Program} {ops : Array Oper} {md : Region.Mode} {C : Nat → World → Prop} {Q : Exit → Act → World → Prop}

theorem plain_value {ρ : Operand → Value} {o : Oper} (h : plainB o = true) {w w' : World} {nx : Next} (hr : (execOp ρ o).run P w = .ok nx w') : ∃ u, nx = .value u := by
  unfold plainB at h
  unfold execOp at hr
  split at h <;> rename_i ho <;> simp only [ho] at hr
  all_goals first
    | (simp [Sem.run_pure] at hr; exact ⟨_, hr.1.symm⟩)
    | (rw [Sem.run_bind] at hr
       generalize Sem.run P _ w = r at hr
       cases r with
       | ok x w1 => simp [Result.andThen_ok, Sem.run_pure] at hr; exact ⟨_, hr.1.symm⟩
       | halt x w1 => simp [Result.andThen] at hr)
    | cases h

theorem quiet_plain {o : Oper} {a : Act} {D D' : World → Prop} {w : World} {v : Value} (h : plainB o = true) (hq : o.quietAt P a D w v) : o.quietAt P a D' w v := by
  unfold Oper.quietAt at *
  generalize hr : (execOp a.eval o).run P w = r at *
  cases r with
  | ok nx w' =>
    obtain ⟨u, rfl⟩ := plain_value h hr
    exact hq
  | halt x w' => exact hq

/-- in state a operation o, the i-th, yields v: one of the first m in the first stage alone; any other in every stage -/
def YieldsG (P : Program) (ops : Array Oper) (C : Nat → World → Prop) (m i : Nat) (o : Oper) (v : Value) (a : Act) : Prop :=
  (m ≤ i ∧ plainB o = true ∧ YieldsIn P ops (fun w' => ∃ u : Stg C, w' = u.val) o v a) ∨ (i < m ∧ YieldsIn P ops (fun w' => ∃ u : Stg0 C, w' = u.val) o v a)
theorem YieldsG.of_same {m i : Nat} {o : Oper} {v : Value} {a a' : Act} (hy : YieldsG P ops C m i o v a) (he : execOp a'.eval o = execOp a.eval o)
    (hw : Region.wanted o (yielded ops a'.tmps) = Region.wanted o (yielded ops a.tmps)) : YieldsG P ops C m i o v a' := by
  rcases hy with ⟨h, hp, hy⟩ | ⟨h, hy⟩
  · exact .inl ⟨h, hp, hy.of_same he hw⟩
  · exact .inr ⟨h, hy.of_same he hw⟩
/-- what it does in one world of a stage -/
theorem YieldsG.wpOp {m i : Nat} {o : Oper} {v : Value} {a : Act} {k : Nat} {w : World} {K : Act → World → Prop} (hi : ops[i]? = some o) (hy : YieldsG P ops C m i o v a) (hk : m ≤ i ∨ k = 0) (hw : C k w) (h : ∀ w', C k w' → K (a.put o.dst v) w') : wpOp P ops Q i K a w := by
  rcases hy with ⟨hm, hp, hy⟩ | ⟨hm, hy⟩
  · unfold Go.wpOp
    simp only [hi]
    rcases hy with ⟨hw1, hv⟩ | ⟨hw1, rfl⟩
    · simp only [hw1, if_true]
      left
      have := quiet_plain (D' := fun w' => w' = w) hp (hv w ⟨⟨k, w, hw⟩, rfl⟩)
      exact Oper.wp_of_quiet (C := fun w' => w' = w) (K := fun a' => a' = a.put o.dst v) rfl (fun a' w' hw' ha => by subst hw'; subst ha; exact h _ hw) ⟨v, fun w1 hw1 => by subst hw1; exact this, rfl⟩
    · simp only [hw1, Bool.false_eq_true, if_false]; exact h _ hw
  · have hk0 : k = 0 := by omega
    subst hk0
    exact wpOp_of_qOp (C := fun w' => ∃ u : Stg0 C, w' = u.val) (K := fun a' => a' = a.put o.dst v) ⟨⟨w, hw⟩, rfl⟩ (fun a' w' hw' ha => by obtain ⟨u, rfl⟩ := hw'; subst ha; exact h _ u.prf) (hy.qOp hi rfl)

/-- an operation that is done for sure: its value, and the world's class behind it -/
def sureAt (P : Program) (o : Oper) (a : Act) (D : World → Prop) (w : World) (v : Value) : Prop := match (execOp a.eval o).run P w with
  | .ok (.value u) w' => (o.dst = none ∨ u = v) ∧ D w'
  | .ok .skip w' => (o.dst = none ∨ undef = v) ∧ D w'
  | .ok (.enter f args) w' => Calls P f args w' fun e w'' => ∃ u, e = .returned u ∧ (o.dst = none ∨ u = v) ∧ D w''
  | .ok (.row row args) w' => Rows P row args w' fun u w'' => (o.dst = none ∨ u = v) ∧ D w''
  | _ => False
theorem put_sure {a : Act} {o : Oper} {u v : Value} (h : o.dst = none ∨ u = v) : a.put o.dst u = a.put o.dst v := by
  rcases h with h | rfl
  · rw [h]; rfl
  · rfl
theorem wp_of_sure {o : Oper} {a : Act} {D : World → Prop} {w : World} {v : Value} {K : Act → World → Prop} (h : sureAt P o a D w v) (hK : ∀ w', D w' → K (a.put o.dst v) w') : o.wp P a w K Q := by
  unfold sureAt at h
  unfold Oper.wp
  generalize (execOp a.eval o).run P w = r at *
  cases r with
  | ok n w' =>
    cases n <;> simp only [Oper.upon] at h ⊢
    case value u => rw [put_sure h.1]; exact hK _ h.2
    case skip => rw [put_sure h.1]; exact hK _ h.2
    case enter f args => exact h.mono fun e w'' ⟨u, he, h1, h2⟩ => by subst he; show K (a.put o.dst u) w''; rw [put_sure h1]; exact hK _ h2
    case row row args => exact Rows.mono h fun u w'' ⟨h1, h2⟩ => by rw [put_sure h1]; exact hK _ h2
  | halt x w' => exact h.elim
/-- how it is shown: the walk of this one operation -/
theorem sure_of_list {o : Oper} {a : Act} {D : World → Prop} {w : World} {v : Value} (hg : o.guard = none) (hd : ∀ d, o.dst = some d → d < a.tmps.size)
    (h : wpList P ops (Exit.then (fun a2 w2 => a2 = a.put o.dst v ∧ D w2) noX) [o] a w) : sureAt P o a D w v := by
  have inj : ∀ u, a.put o.dst u = a.put o.dst v → o.dst = none ∨ u = v := fun u hu => by
    cases ho : o.dst with
    | none => exact .inl rfl
    | some d =>
      right
      rw [ho] at hu
      have := congrArg (fun b : Act => b.tmps[d]?) hu
      have hlt := hd d ho
      simpa [Act.put, hlt] using this
  unfold sureAt
  simp only [wpList] at h
  rw [show Region.wanted o (yielded ops a.tmps) = true by unfold Region.wanted; rw [hg]] at h
  simp only [if_true] at h
  rcases h with h | ⟨_, _, _, hF⟩
  · unfold Oper.wp at h
    generalize (execOp a.eval o).run P w = r at *
    cases r with
    | ok n w' =>
      cases n <;> simp only [Oper.upon] at h ⊢
      case value u => exact ⟨inj u h.1, h.2⟩
      case skip => exact ⟨inj _ h.1, h.2⟩
      case enter f args =>
        exact Calls.mono h (fun e w'' he => by
          cases e with
          | returned u => exact ⟨u, rfl, inj u he.1, he.2⟩
          | panicked c => exact he.elim
          | outgrown => obtain ⟨_, _, hF⟩ := he; exact hF.elim)
      case row row args => exact Rows.mono h fun u w'' he => ⟨inj u he.1, he.2⟩
      case defer d =>
        have h1 := congrArg Act.defers h.1
        cases hd' : o.dst with
        | none => rw [hd'] at h1; simp [Act.put] at h1
        | some t => rw [hd'] at h1; simp [Act.put] at h1
    | halt x w' => cases x <;> simp only [Oper.upon] at h <;> exact h.elim
  · exact hF.elim

theorem sureAt_put {o : Oper} {a : Act} {D : World → Prop} {w : World} {v u : Value} {dst : Option Tmp} (hs : ∀ cs b, o.op ≠ .select cs b) (h : ∀ d, dst = some d → d ∉ o.looksAt ops) (hh : sureAt P o (a.put dst u) D w v) : sureAt P o a D w v := by
  unfold sureAt at *
  rwa [execOp_put o hs a dst u h] at hh
/-- whatever order is picked; the stages -/
def wpAnyG (P : Program) (md : Region.Mode) (ops : Array Oper) (C : Nat → World → Prop) (Q : Exit → Act → World → Prop) (m n : Nat) : Nat → Nat → Array Bool → Act → Prop
  | 0, k, listed, a => Region.ready md ops listed = [] ∧ ∀ w, C k w → Q .normal a w
  | f + 1, k, listed, a => Region.ready md ops listed ≠ [] ∧ ∀ j ∈ Region.ready md ops listed, ∃ oj, ops[j]? = some oj ∧
      ((j < n ∧ (m ≤ j ∨ k = 0) ∧ ∃ v, YieldsG P ops C m j oj v a ∧ wpAnyG P md ops C Q m n f k (listed.setIfInBounds j true) (a.put oj.dst v))
      ∨ (n ≤ j ∧ oj.guard = none ∧ ∃ v, (∀ w, C k w → sureAt P oj a (C (k + 1)) w v) ∧ wpAnyG P md ops C Q m n f (k + 1) (listed.setIfInBounds j true) (a.put oj.dst v)))
theorem wpAny_ofG {m n : Nat} : ∀ (f k : Nat) (listed : Array Bool) (a : Act) (w : World), C k w → wpAnyG P md ops C Q m n f k listed a → wpAny P md ops Q f listed a w
  | 0, _, _, _, _, hw, h => ⟨h.1, h.2 _ hw⟩
  | f + 1, k, listed, a, w, hw, h => ⟨fun h0 => absurd h0 h.1, fun j hj => by
    obtain ⟨oj, hoj, ⟨hjn, hp, v, hy, hk⟩ | ⟨hjn, hg, v, hs, hk⟩⟩ := h.2 j hj
    · exact hy.wpOp hoj hp hw (fun w' hw' => wpAny_ofG f k _ _ w' hw' hk)
    · unfold wpOp
      simp only [hoj]
      rw [show Region.wanted oj (yielded ops a.tmps) = true by unfold Region.wanted; rw [hg]]
      exact .inl (wp_of_sure (hs w hw) (fun w' hw' => wpAny_ofG f (k + 1) _ _ w' hw' hk))⟩

theorem wpAnyG_first {m n i : Nat} {oi : Oper} {v : Value} (hi : ops[i]? = some oi) (hsel : ∀ (j : Nat) (o : Oper) cs b, ops[j]? = some o → o.op ≠ .select cs b) (hin : i < n)
    (hcall : i < m → ∀ t, n ≤ t → t < ops.size → Region.waitsFor md ops t i = true) :
    ∀ (f k : Nat) (listed : Array Bool) (a : Act), (m ≤ i ∨ k = 0) →
      (∀ j oj, ops[j]? = some oj → j ≠ i → listed.getD j true = false → (∀ e ∈ oj.after, Region.binds md e = true → e.on ≠ i) → oi.apart ops oj = true) →
      i ∈ Region.ready md ops listed → YieldsG P ops C m i oi v a →
      wpAnyG P md ops C Q m n f k (listed.setIfInBounds i true) (a.put oi.dst v) → wpAnyG P md ops C Q m n (f + 1) k listed a := by
  intro f
  induction f with
  | zero =>
    intro k listed a hk _ hr hy H
    refine ⟨List.ne_nil_of_mem hr, fun j hj => ?_⟩
    by_cases hji : j = i
    · subst hji; exact ⟨oi, hi, .inl ⟨hin, hk, v, hy, H⟩⟩
    · have := ready_mono hj hji
      rw [H.1] at this
      cases this
  | succ f ih =>
    intro k listed a hk hfree hr hy H
    refine ⟨List.ne_nil_of_mem hr, fun j hj => ?_⟩
    by_cases hji : j = i
    · subst hji; exact ⟨oi, hi, .inl ⟨hin, hk, v, hy, H⟩⟩
    · obtain ⟨hjun, oj, hoj, hall⟩ := mem_ready.1 hj
      have hun := (mem_ready.1 hr).1
      have hnot : ∀ e ∈ oj.after, Region.binds md e = true → e.on ≠ i := fun e he hb heq => by
        have h1 := hall e he hb
        rw [heq, getD_both hun] at h1
        cases h1
      have hap := hfree j oj hoj hji hjun hnot
      obtain ⟨h1, h2, h3⟩ := Oper.apart_spec hap
      have hsi := fun cs b => hsel i oi cs b hi
      have hsj := fun cs b => hsel j oj cs b hoj
      have hfree' : ∀ k ok, ops[k]? = some ok → k ≠ i → (listed.setIfInBounds j true).getD k true = false →
          (∀ e ∈ ok.after, Region.binds md e = true → e.on ≠ i) → oi.apart ops ok = true := fun k ok hk hki hun hno => by
        refine hfree k ok hk hki ?_ hno
        by_cases hjk : j = k
        · subst hjk; exact hjun
        · rw [getD_set_ne true hjk] at hun; exact hun
      have keep : ∀ u, YieldsG P ops C m i oi v (a.put oj.dst u) := fun u => hy.of_same (execOp_put oi hsi a oj.dst u h3) (wanted_put oi a oj.dst u h3)
      obtain ⟨oj', hoj', hc⟩ := H.2 j (ready_mono hj hji)
      obtain rfl : oj' = oj := Option.some.inj (hoj'.symm.trans hoj)
      refine ⟨oj', hoj, ?_⟩
      rcases hc with ⟨hjn, hp, u, hyj, hkk⟩ | ⟨hjn, hg, u, hs, hkk⟩
      · left
        refine ⟨hjn, hp, u, hyj.of_same (execOp_put oj' hsj a oi.dst v h1).symm (wanted_put oj' a oi.dst v h1).symm, ?_⟩
        refine ih k _ _ hk hfree' (ready_mono hr (Ne.symm hji)) (keep u) ?_
        rw [Array.setIfInBounds_comm _ _ hji, ← Act.put_comm a v u h2]
        exact hkk
      · right
        have hpl : m ≤ i := by
          rcases Nat.lt_or_ge i m with hpl | hpl
          · obtain ⟨o2, ho2, e, he, hb, hon⟩ := Region.waitsFor_spec (hcall hpl j hjn (Array.getElem?_eq_some_iff.1 hoj).1)
            obtain rfl : o2 = oj' := Option.some.inj (ho2.symm.trans hoj)
            exact absurd hon (hnot e he hb)
          · exact hpl
        refine ⟨hjn, hg, u, fun w hw => sureAt_put hsj h1 (hs w hw), ?_⟩
        refine ih (k + 1) _ _ (.inl hpl) hfree' (ready_mono hr (Ne.symm hji)) (keep u) ?_
        rw [Array.setIfInBounds_comm _ _ hji, ← Act.put_comm a v u h2]
        exact hkk

/-- the walk of the first ones -/
def wpG (P : Program) (ops : Array Oper) (C : Nat → World → Prop) (E : Act → Prop) (m : Nat) : Nat → List Oper → Act → Prop
  | _, [], a => E a
  | i, o :: rest, a => (m ≤ i ∧ plainB o = true ∧ wpQuiet P ops (fun w' => ∃ u : Stg C, w' = u.val) (wpG P ops C E m (i + 1) rest) [o] a) ∨ (i < m ∧ wpQuiet P ops (fun w' => ∃ u : Stg0 C, w' = u.val) (wpG P ops C E m (i + 1) rest) [o] a)
theorem quiet_mono {D : World → Prop} {E E' : Act → Prop} (h : ∀ a, E a → E' a) : ∀ (l : List Oper) (a : Act), wpQuiet P ops D E l a → wpQuiet P ops D E' l a
  | [], a, hq => h a hq
  | o :: l, a, hq => by
    simp only [wpQuiet] at hq ⊢
    split
    · rename_i hw
      simp only [hw, if_true] at hq
      exact Oper.quiet_mono (quiet_mono h l) hq
    · rename_i hw
      simp only [hw] at hq
      exact quiet_mono h l _ hq
theorem quiet_one {D : World → Prop} {E : Act → Prop} {o : Oper} {l : List Oper} {a : Act} (h : wpQuiet P ops D E (o :: l) a) : wpQuiet P ops D (fun a' => wpQuiet P ops D E l a') [o] a := h
theorem wpG_plains {E : Act → Prop} {m : Nat} : ∀ (l : List Oper) (i : Nat) (a : Act), m ≤ i → (∀ o ∈ l, plainB o = true) → wpQuiet P ops (fun w' => ∃ u : Stg C, w' = u.val) E l a → wpG P ops C E m i l a
  | [], _, _, _, _, h => h
  | o :: l, i, a, hi, hp, h => .inl ⟨hi, hp o (by simp), quiet_mono (fun a' h' => wpG_plains l (i + 1) a' (by omega) (fun o ho => hp o (by simp [ho])) h') [o] a (quiet_one h)⟩
theorem wpG_early {E : Act → Prop} {m : Nat} {l2 : List Oper} : ∀ (l : List Oper) (i : Nat) (a : Act), i + l.length = m → wpQuiet P ops (fun w' => ∃ u : Stg0 C, w' = u.val) (fun a' => wpG P ops C E m m l2 a') l a → wpG P ops C E m i (l ++ l2) a
  | [], i, a, hi, h => by obtain rfl : i = m := by simpa using hi
                          exact h
  | o :: l, i, a, hi, h => .inr ⟨by simp at hi; omega, quiet_mono (fun a' h' => wpG_early l (i + 1) a' (by simp at hi; omega) h') [o] a (quiet_one h)⟩
/-- the walk of the last ones -/
def wpT (P : Program) (C : Nat → World → Prop) (Q : Exit → Act → World → Prop) : Nat → List Oper → Act → Prop
  | k, [], a => ∀ w, C k w → Q .normal a w
  | k, o :: rest, a => ∃ v, (∀ w, C k w → sureAt P o a (C (k + 1)) w v) ∧ wpT P C Q (k + 1) rest (a.put o.dst v)

theorem wpAnyG_seq {m n : Nat} : ∀ (l : List Oper) (q k : Nat) (listed : Array Bool) (a : Act), n ≤ q → (∀ j, l[j]? = ops[q + j]?) → (∀ o ∈ l, o.guard = none) →
    Region.seqB md ops l.length q listed = true → wpT P C Q k l a → wpAnyG P md ops C Q m n l.length k listed a
  | [], _, _, _, _, _, _, _, hB, h => ⟨by simpa [Region.seqB] using hB, h⟩
  | o :: l, q, k, listed, a, hm, hl, hg, hB, h => by
    have h0 : ops[q]? = some o := by simpa using (hl 0).symm
    simp only [List.length_cons, Region.seqB, Bool.and_eq_true, decide_eq_true_eq] at hB
    refine ⟨by rw [hB.1]; simp, fun i hi => ?_⟩
    rw [hB.1] at hi
    obtain rfl : i = q := by simpa using hi
    obtain ⟨v, hs, hk⟩ := h
    exact ⟨o, h0, .inr ⟨hm, hg o (by simp), v, hs, wpAnyG_seq l (i + 1) (k + 1) _ _ (by omega) (fun j => by have := hl (j + 1); simpa [Nat.add_assoc, Nat.add_comm 1 j] using this) (fun o ho => hg o (by simp [ho])) hB.2 hk⟩⟩

theorem yieldsG_of {m i : Nat} {o : Oper} {a : Act} {E : Act → Prop} {rest : List Oper} (h : wpG P ops C E m i (o :: rest) a) (hi : ops[i]? = some o) : ∃ v, YieldsG P ops C m i o v a ∧ wpG P ops C E m (i + 1) rest (a.put o.dst v) := by
  have key : ∀ {D : World → Prop}, wpQuiet P ops D (wpG P ops C E m (i + 1) rest) [o] a → ∃ v, YieldsIn P ops D o v a ∧ wpG P ops C E m (i + 1) rest (a.put o.dst v) := fun {D} hq => by
    obtain ⟨v, hy, hk⟩ := yieldsIn_of_qOp hi (show qOp P ops D i (wpQuiet P ops D (wpG P ops C E m (i + 1) rest) []) a by unfold qOp; simp only [hi]; exact hq)
    exact ⟨v, hy, hk⟩
  rcases h with ⟨hm, hp, h⟩ | ⟨hp, h⟩
  · obtain ⟨v, hy, hk⟩ := key h
    exact ⟨v, .inl ⟨hm, hp, hy⟩, hk⟩
  · obtain ⟨v, hy, hk⟩ := key h
    exact ⟨v, .inr ⟨hp, hy⟩, hk⟩

theorem wpAnyG_lex {m n : Nat} (hsel : Region.noSelect ops = true) (hcall : ∀ (i : Nat), i < m → ∀ t, n ≤ t → t < ops.size → Region.waitsFor md ops t i = true)
    (tl : List Oper) (htl : ∀ j, tl[j]? = ops[n + j]?) (hg : ∀ o ∈ tl, o.guard = none) :
    ∀ (l : List Oper) (q : Nat) (listed : Array Bool) (a : Act), (∀ j, j < l.length → l[j]? = ops[q + j]?) → q + l.length = n →
    Region.lexHead md ops tl.length l.length q listed = true → wpG P ops C (wpT P C Q 0 tl) m q l a → wpAnyG P md ops C Q m n (l.length + tl.length) 0 listed a := by
  intro l
  induction l with
  | nil =>
    intro q listed a _ hm hB h
    obtain rfl : q = n := by simpa using hm
    rw [List.length_nil, Nat.zero_add]
    exact wpAnyG_seq tl q 0 listed a (Nat.le_refl _) htl hg (by simpa [Region.lexHead] using hB) h
  | cons o l ih =>
    intro q listed a hl hm hB h
    have h0 : ops[q]? = some o := by simpa using (hl 0 (by simp)).symm
    simp only [List.length_cons, Region.lexHead, Bool.and_eq_true] at hB
    simp only [List.length_cons] at hm
    have hr : q ∈ Region.ready md ops listed := by simpa using hB.1.1
    obtain ⟨v, hy, hK⟩ := yieldsG_of h h0
    rw [List.length_cons, Nat.add_right_comm]
    refine wpAnyG_first h0 (Region.noSelect_spec hsel) (by omega) (hcall q) _ 0 listed a (.inr rfl) (Region.free_spec h0 hB.1.2) hr hy ?_
    exact ih (q + 1) _ _ (fun j hj => by have := hl (j + 1) (by simp; omega); simpa [Nat.add_assoc, Nat.add_comm 1 j] using this) (by omega) hB.2 hK

def lateB (l : List Oper) (m n : Nat) : Bool :=
  Region.noSelect l.toArray && decide (m ≤ n) && decide (n ≤ l.length) && (List.range m).all (fun i => (List.range l.toArray.size).all fun t => decide (t < n) || Region.waitsFor .any l.toArray t i) && ((l.drop m).take (n - m)).all plainB && (l.drop n).all (fun o => o.guard.isNone) && Region.lexHead .any l.toArray (l.length - n) n 0 (Array.replicate l.toArray.size false)

/-- THE RULE: the first m operations are done ahead of all the last ones (from n on), and are quiet in the first stage; those from m to n are quiet in every stage. -/
theorem wp_region_late {id : Nat} {a : Act} {w : World} {l : List Oper} (m n : Nat) (C : Nat → World → Prop) (hm : P.follows .mixedOrders = true) (hB : lateB l m n = true) (hC : C 0 w.drew)
    (h : wpQuiet P l.toArray (fun w' => ∃ u : Stg0 C, w' = u.val) (fun a' => wpQuiet P l.toArray (fun w' => ∃ u : Stg C, w' = u.val) (wpT P C Q 0 (l.drop n)) ((l.drop m).take (n - m)) a') (l.take m) a) : (Code.region id l.toArray true).wp P Q a w := by
  simp only [lateB, Bool.and_eq_true, decide_eq_true_eq] at hB
  obtain ⟨⟨⟨⟨⟨⟨hsel, hmn⟩, hn⟩, hc⟩, hp⟩, hg⟩, hlex⟩ := hB
  have htl : (l.take n).length = n := by simp; omega
  have hdl : (l.drop n).length = l.length - n := by simp
  have hsplit : l.take n = l.take m ++ (l.drop m).take (n - m) := by
    rw [← List.take_append_drop m (l.take n), List.take_take, Nat.min_eq_left hmn, List.drop_take]
  have hG : wpG P l.toArray C (wpT P C Q 0 (l.drop n)) m 0 (l.take n) a := by
    rw [hsplit]
    exact wpG_early _ 0 a (by simp; omega) (quiet_mono (fun a' h' => wpG_plains _ m a' (Nat.le_refl _) (fun o ho => List.all_eq_true.1 hp o ho) h') _ a h)
  refine wp_region_any hm ?_
  have := wpAny_ofG (md := .any) (C := C) (Q := Q) _ 0 _ a ({ w with drawn := w.drawn + 1 }) hC (wpAnyG_lex (md := .any) (m := m) (n := n) hsel (fun i hin t ht1 ht2 => by
    have h1 := List.all_eq_true.1 hc i (List.mem_range.2 hin)
    have h2 := List.all_eq_true.1 h1 t (List.mem_range.2 ht2)
    simp only [Bool.or_eq_true, decide_eq_true_eq] at h2
    rcases h2 with h2 | h2
    · omega
    · exact h2) (l.drop n) (fun j => by simp [List.getElem?_drop]) (fun o ho => by have := List.all_eq_true.1 hg o ho; simpa using this) (l.take n) 0 (Array.replicate l.toArray.size false) a (fun j hj => by
    have hj' : j < n := by omega
    simp [hj']) (by omega) (by rw [htl, hdl]; exact hlex) hG)
  rw [htl, hdl, show n + (l.length - n) = l.toArray.size by simp; omega] at this
  exact this
theorem wpT_nil {k : Nat} {a : Act} (h : ∀ w, C k w → Q .normal a w) : wpT P C Q k [] a := h
theorem wpT_cons {k : Nat} {o : Oper} {rest : List Oper} {a : Act} (ops : Array Oper) (v : Value) (hg : o.guard = none) (hd : ∀ d, o.dst = some d → d < a.tmps.size) (h : ∀ w, C k w → wpList P ops (Exit.then (fun a2 w2 => a2 = a.put o.dst v ∧ C (k + 1) w2) noX) [o] a w) (hk : wpT P C Q (k + 1) rest (a.put o.dst v)) : wpT P C Q k (o :: rest) a :=
  ⟨v, fun w hw => sure_of_list hg hd (h w hw), hk⟩
/-- a whole value into a block of its own -/
theorem wpT_store {k : Nat} {o : Oper} {rest : List Oper} {a : Act} (ty : TypeId) (x y : Operand) (g : Nat) (t : TypeId) (new : Array Value) (hg : o.guard = none) (hd : o.dst = none) (ho : o.op = .store ty x y) (hx : a.eval x = .pointer (some ⟨g, 0, none⟩)) (hy : a.eval y = .agg new)
    (hi : (P.info? ty).map (·.size) = some new.size) (h1 : ∀ v ∈ new, v.oneCell' = true) (hC : ∀ w, C k w → ∃ cs, Blk w g t cs ∧ new.size = cs.size) (hN : ∀ w w', C k w → Blk w' g t new → w.grownBy w' (some g) → C (k + 1) w') (hk : wpT P C Q (k + 1) rest a) : wpT P C Q k (o :: rest) a := by
  refine wpT_cons #[] undef hg (fun d h => by rw [hd] at h; cases h) (fun w hw => ?_) (by rw [hd]; exact hk)
  obtain ⟨cs, hb, hs⟩ := hC w hw
  exact store_blk ty x y g t cs new hg ho hx hy hb hs hi h1 (fun w' hb' hgr => ⟨rfl, hN w w' hw hb' hgr⟩)
/-- a slot that is set: no world is turned -/
theorem wpT_assign {k : Nat} {o : Oper} {rest : List Oper} {a : Act} (x : Operand) (ho : o.op = .assign x) (hC : ∀ w, C k w → C (k + 1) w) (hk : wpT P C Q (k + 1) rest (a.put o.dst (a.eval x))) : wpT P C Q k (o :: rest) a :=
  ⟨a.eval x, fun w hw => by
    unfold sureAt
    unfold execOp
    simp only [ho, Sem.run_pure]
    exact ⟨.inr trivial, hC w hw⟩, hk⟩
end
end Go.Proofs.YtcjakmnplkeldaaDoor
