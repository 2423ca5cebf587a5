/-
  A region that draws its order, with a waist: first operations that only read (callees may make memory), then one operation of whatever kind for which all the first ones and behind which all the others stand, then again operations that only read. One walk of the text's order.
-/
import Derived.Test.YtcjakmnplkeldaaDoorTail
namespace Go.Proofs.YtcjakmnplkeldaaDoor
open Go.RowKit
section
variable {P : Program} {ops : Array Oper} {md : Region.Mode} {C : World → Prop} {Q : Exit → Act → World → Prop}

/-- each operation behind n waits for one from n on that stands ahead of it -/
def behindB (md : Region.Mode) (ops : Array Oper) (n : Nat) : Bool :=
  (List.range ops.size).all fun t => decide (t ≤ n) || (List.range t).any fun j => decide (n ≤ j) && Region.waitsFor md ops t j

theorem waist_waits {n : Nat} {listed : Array Bool} (hs : Region.sinkB md ops n = true) (hc : behindB md ops n = true) (hn : n < ops.size) (inv : HeadInv md ops n listed) :
    ∀ (d i : Nat), n - i = d → i < n → listed.getD i true = false → ∀ t, n ≤ t → t ∉ Region.ready md ops listed := by
  intro d
  induction d using Nat.strongRecOn with
  | _ d ih =>
    intro i hd hi hun t ht hr
    obtain ⟨_, ot, hot, hall⟩ := mem_ready.1 hr
    have htlt : t < ops.size := (Array.getElem?_eq_some_iff.1 hot).1
    by_cases htn : t = n
    · subst htn
      have h1 := List.all_eq_true.1 hs i (List.mem_range.2 hi)
      obtain ⟨j, hj, hj2⟩ := List.any_eq_true.1 h1
      simp only [Bool.and_eq_true, decide_eq_true_eq] at hj2
      obtain ⟨oj, hoj, e, he, hb, hon⟩ := Region.waitsFor_spec hj2.2
      have hjle : j ≤ t := by have := List.mem_range.1 hj; omega
      by_cases hjt : j = t
      · subst hjt
        have : oj = ot := Option.some.inj (hoj.symm.trans hot)
        subst this
        have h2 := hall e he hb
        rw [hon, getD_both hun] at h2
        cases h2
      · cases hl : listed.getD j false with
        | true =>
          have h2 := inv.closed j oj hoj hl e he hb
          rw [hon, getD_both hun] at h2
          cases h2
        | false =>
          have hjs : j < listed.size := by rw [inv.size]; omega
          exact ih (t - j) (by omega) j rfl (by omega) (getD_in hjs hl) t (Nat.le_refl _) hr
    · have h1 := List.all_eq_true.1 hc t (List.mem_range.2 htlt)
      simp only [Bool.or_eq_true, decide_eq_true_eq] at h1
      rcases h1 with h1 | h1
      · omega
      · obtain ⟨j, hj, hj2⟩ := List.any_eq_true.1 h1
        simp only [Bool.and_eq_true, decide_eq_true_eq] at hj2
        obtain ⟨o', ho', e, he, hb, hon⟩ := Region.waitsFor_spec hj2.2
        have : o' = ot := Option.some.inj (ho'.symm.trans hot)
        subst this
        have hjt := List.mem_range.1 hj
        have h2 := hall e he hb
        rw [hon, getD_both (inv.tail j hj2.1 (by omega))] at h2
        cases h2

theorem headAny_firstW {n i : Nat} {oi : Oper} {v : Value} {L : Array Bool → Act → Prop} (hi : ops[i]? = some oi) (hsel : ∀ (j : Nat) (o : Oper) cs b, ops[j]? = some o → o.op ≠ .select cs b)
    (hs : Region.sinkB md ops n = true) (hc : behindB md ops n = true) (hn : n < ops.size) (hin : i < n) (hdone : ∀ listed a, L listed a → ∀ j ∈ Region.ready md ops listed, n ≤ j) :
    ∀ (f : Nat) (listed : Array Bool) (a : Act), HeadInv md ops n listed →
      (∀ j oj, ops[j]? = some oj → j ≠ i → listed.getD j true = false → (∀ e ∈ oj.after, Region.binds md e = true → e.on ≠ i) → oi.apart ops oj = true) →
      i ∈ Region.ready md ops listed → YieldsIn P ops C oi v a → headAny P md ops C n L f (listed.setIfInBounds i true) (a.put oi.dst v) → headAny P md ops C n L (f + 1) listed a := by
  have low : ∀ listed, HeadInv md ops n listed → i ∈ Region.ready md ops listed → ∀ j ∈ Region.ready md ops listed, j < n := fun listed inv hr j hj => by
    rcases Nat.lt_or_ge j n with h | h
    · exact h
    · exact absurd hj (waist_waits hs hc hn inv _ i rfl hin (mem_ready.1 hr).1 j h)
  intro f
  induction f with
  | zero =>
    intro listed a inv _ hr hy H
    refine ⟨List.ne_nil_of_mem hr, fun j hj => ⟨low listed inv hr j hj, ?_⟩⟩
    by_cases hji : j = i
    · subst hji; exact hy.qOp hi H
    · have h1 := hdone _ _ H j (ready_mono hj hji)
      have h2 := low listed inv hr j hj
      omega
  | succ f ih =>
    intro listed a inv hfree hr hy H
    refine ⟨List.ne_nil_of_mem hr, fun j hj => ⟨low listed inv hr j hj, ?_⟩⟩
    by_cases hji : j = i
    · subst hji; exact hy.qOp hi H
    · obtain ⟨hjun, oj, hoj, hall⟩ := mem_ready.1 hj
      have hnot : ∀ e ∈ oj.after, Region.binds md e = true → e.on ≠ i := fun e he hb heq => by
        have h1 := hall e he hb
        rw [heq, getD_both (mem_ready.1 hr).1] at h1
        cases h1
      have h2 := qOp_put hoj (hfree j oj hoj hji hjun hnot) (fun cs b => hsel i oi cs b hi) (fun cs b => hsel j oj cs b hoj) hy (H.2 j (ready_mono hj hji)).2
      refine qOp_mono (fun a' h3 => ih _ a' (inv.set hj (low listed inv hr j hj)) (fun k ok hk hki hun hno => hfree k ok hk hki ?_ hno) (ready_mono hr (Ne.symm hji)) h3.1 ?_) h2
      · by_cases hjk : j = k
        · subst hjk; exact hjun
        · rwa [getD_set_ne true hjk] at hun
      · rw [Array.setIfInBounds_comm _ _ hji]; exact h3.2

/-- the operations from k on, so many, are marked -/
def markW : Nat → Nat → Array Bool → Array Bool
  | 0, _, listed => listed
  | f + 1, k, listed => markW f (k + 1) (listed.setIfInBounds k true)
def lexWaist (md : Region.Mode) (ops : Array Oper) : Nat → Nat → Array Bool → Bool
  | 0, k, listed => decide (Region.ready md ops listed = [k])
  | f + 1, k, listed => (Region.ready md ops listed).contains k && Region.free md ops listed k && lexWaist md ops f (k + 1) (listed.setIfInBounds k true)

theorem headAny_lexW {n : Nat} {Lq : Act → Prop} (hsel : Region.noSelect ops = true) (hs : Region.sinkB md ops n = true) (hc : behindB md ops n = true) (hn : n < ops.size) :
    ∀ (l : List Oper) (k : Nat) (listed : Array Bool) (a : Act), (∀ j, j < l.length → l[j]? = ops[k + j]?) → k + l.length = n → HeadInv md ops n listed →
    lexWaist md ops l.length k listed = true → wpQuiet P ops C Lq l a → headAny P md ops C n (fun listed' a' => (Region.ready md ops listed' = [n] ∧ listed' = markW l.length k listed) ∧ Lq a') l.length listed a := by
  intro l
  induction l with
  | nil =>
    intro k listed a _ hk _ hB h
    obtain rfl : k = n := by simpa using hk
    exact ⟨⟨by simpa [lexWaist] using hB, rfl⟩, h⟩
  | cons o l ih =>
    intro k listed a hl hk inv hB h
    have h0 : ops[k]? = some o := by simpa using (hl 0 (by simp)).symm
    simp only [List.length_cons, lexWaist, Bool.and_eq_true] at hB
    simp only [List.length_cons] at hk
    have hr : k ∈ Region.ready md ops listed := by simpa using hB.1.1
    obtain ⟨v, hy, hK⟩ := yieldsIn_of_qOp h0 (show qOp P ops C k (wpQuiet P ops C Lq l) a by unfold qOp; simp only [h0]; exact h)
    refine headAny_firstW h0 (Region.noSelect_spec hsel) hs hc hn (by omega) (fun _ _ hL j hj => by rw [hL.1.1] at hj; have : j = n := (by simpa using hj); omega) l.length listed a inv (Region.free_spec h0 hB.1.2) hr hy ?_
    exact ih (k + 1) _ _ (fun j hj => by have := hl (j + 1) (by simp; omega); simpa [Nat.add_assoc, Nat.add_comm 1 j] using this) (by omega) (inv.set hr (by omega)) hB.2 hK

theorem wp_of_then {o : Oper} {a : Act} {w : World} {K : Act → World → Prop} (h : o.wp P a w K (Exit.then K Q)) : o.wp P a w K Q := by
  unfold Oper.wp at *
  generalize (execOp a.eval o).run P w = r at *
  cases r with
  | ok n w' =>
    cases n <;> simp only [Oper.upon] at h ⊢ <;>
      first
        | exact h
        | exact Calls.mono h (fun e w'' he => by cases e <;> exact he)
  | halt x w' => cases x <;> simp only [Oper.upon] at h ⊢ <;> exact h

theorem wpOp_of_one {n : Nat} {o : Oper} {a : Act} {w : World} {K : Act → World → Prop} (ho : ops[n]? = some o) (h : wpList P ops (Exit.then K Q) [o] a w) : wpOp P ops Q n K a w := by
  unfold wpOp
  simp only [ho]
  simp only [wpList] at h
  split
  · rename_i hw
    simp only [hw, if_true] at h
    exact h.imp wp_of_then id
  · rename_i hw
    simp only [hw] at h
    exact h

def waistB (l : List Oper) (n : Nat) : Bool :=
  Region.noSelect l.toArray && decide (n < l.length) && Region.sinkB .any l.toArray n && behindB .any l.toArray n && lexWaist .any l.toArray n 0 (Array.replicate l.toArray.size false) && Region.lexFrom .any l.toArray (l.length - (n + 1)) (n + 1) ((markW n 0 (Array.replicate l.toArray.size false)).setIfInBounds n true)

/-- THE RULE: the first n operations are quiet in every later world; the next one is walked in such a world; the others are quiet in every world later than that one's end. -/
theorem wp_region_waist {id : Nat} {a : Act} {w : World} {l : List Oper} (n : Nat) (hm : P.follows .mixedOrders = true) (hB : waistB l n = true)
    (h : wpQuiet P l.toArray (fun w' => ∃ u : Ext w, w' = u.val) (fun a' => ∀ w', (∃ u : Ext w, w' = u.val) →
      wpList P l.toArray (Exit.then (fun a2 w2 => wpQuiet P l.toArray (fun w' => ∃ u : Ext w2, w' = u.val) (fun a3 => ∀ w3, (∃ u : Ext w2, w3 = u.val) → Q .normal a3 w3) (l.drop (n + 1)) a2) Q) ((l.drop n).take 1) a' w') (l.take n) a) : (Code.region id l.toArray true).wp P Q a w := by
  simp only [waistB, Bool.and_eq_true, decide_eq_true_eq] at hB
  obtain ⟨⟨⟨⟨⟨hsel, hn'⟩, hs⟩, hc⟩, hlex⟩, htl2⟩ := hB
  have hn : n < l.toArray.size := by simpa using hn'
  have htl : (l.take n).length = n := by simp; omega
  have hdl : (l.drop (n + 1)).length = l.length - (n + 1) := by simp
  have inv0 : HeadInv .any l.toArray n (Array.replicate l.toArray.size false) :=
    ⟨by simp, fun j oj _ hl => (by rw [getD_replicate_false] at hl; cases hl), fun t _ ht => getD_in (by simpa using ht) (getD_replicate_false _ _)⟩
  have H := headAny_lexW (md := .any) hsel hs hc hn (l.take n) 0 _ a (fun j hj => by
    have hj' : j < n := by omega
    simp [hj']) (by omega) inv0 (by rw [htl]; exact hlex) h
  refine wp_region_any hm ?_
  have hone : (l.drop n).take 1 = [l[n]] := by
    rw [List.drop_eq_getElem_cons hn']; rfl
  have ho : l.toArray[n]? = some l[n] := by simp [hn']
  have := wpAny_of_headAny (C := fun w' => ∃ u : Ext w, w' = u.val) (Q := Q) (g := (l.length - (n + 1)) + 1) (fun listed a' w' hw' hL => by
    obtain ⟨⟨hrd, hmk⟩, hq⟩ := hL
    refine ⟨fun h0 => (by rw [hrd] at h0; cases h0), fun i hi => ?_⟩
    rw [hrd] at hi
    obtain rfl : i = n := by simpa using hi
    have hq' := hq w' hw'
    rw [hone] at hq'
    refine wpOp_mono (fun a2 w2 h2 => ?_) (wpOp_of_one ho hq')
    have := wpAny_of_quiet (md := .any) (C := fun w' => ∃ u : Ext w2, w' = u.val) (Q := fun a3 => ∀ w3, (∃ u : Ext w2, w3 = u.val) → Q .normal a3 w3) (Q' := Q) (fun _ w' hw' h => h w' hw') _ (listed.setIfInBounds i true) a2 w2 ⟨default, rfl⟩
      (wpAnyQ_lex (md := .any) hsel (l.drop (i + 1)) (i + 1) _ a2 (fun j => by simp [List.getElem?_drop]) (by rw [hdl, hmk, htl]; exact htl2) h2)
    rwa [hdl] at this) _ _ _ ({ w with drawn := w.drawn + 1 }) ⟨⟨w.drew, (Below.refl _ _).drew⟩, rfl⟩ H
  rw [htl, show n + (l.length - (n + 1) + 1) = l.toArray.size by simp; omega] at this
  exact this
end
end Go.Proofs.YtcjakmnplkeldaaDoor
