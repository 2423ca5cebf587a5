/-
  ExtentReads and ExtentNeeds and ExtentRoom, in plain words.
-/
import Derived.Test.YtjmafegckfijbaaLawExtPl
namespace Go.Proofs.Ytjmafegckfijbaa
set_option linter.unusedVariables false
set_option linter.unusedSimpArgs false
section
variable {V W : List ByteArray} {m n off size at' : Nat} {F : List Nat} {d : List UInt8} {l' : List Nat} {ys : List ByteArray}
theorem reads_plain (h : LaidS V) (at' : Nat) (d : List UInt8) :
    (writeO V 2 at' d).2 = 0 ∧ at' + d.length ≤ 8960 ∧ LaidS (writeO V 2 at' d).1 ∧ wholeX (writeO V 2 at' d).1 2 = wrL at' d (wholeX V 2) ∧ wholeX (writeO V 2 at' d).1 1 = wholeX V 1 ∧ wholeX (writeO V 2 at' d).1 3 = wholeX V 3 ∨
    (writeO V 2 at' d).1 = [] ∧ ((writeO V 2 at' d).2 = 10 ∨ (writeO V 2 at' d).2 = 6 ∧ 8960 < at' + d.length) := by
  rcases h.snd.write filesF_nodup mem2 (at' : Int) d with ⟨a, _, c⟩ | ⟨a, c | c | c⟩
  · rw [Int.toNat_natCast] at c
    obtain ⟨r, _, st, _⟩ := c.st
    exact .inl ⟨a, c.small, st.laid h, c.whole h.snd mem2, st.other_whole h.snd mem1 (by decide), st.other_whole h.snd mem3 (by decide)⟩
  · omega
  · exact .inr ⟨a, .inr ⟨c.1, by omega⟩⟩
  · exact .inr ⟨a, .inl c.1⟩
/-- the row behind the loop -/
theorem cutL_grow {l : List UInt8} (h : l.length ≤ size) : cutL size l = l ++ List.replicate (size - l.length) 0 := by
  unfold cutL
  rw [List.take_of_length_le h]
theorem wrL_some {l : List UInt8} (hd : d ≠ []) : wrL off d l = (cutL (max l.length (off + d.length)) l).take off ++ d ++ (cutL (max l.length (off + d.length)) l).drop (off + d.length) := by
  unfold wrL
  rw [if_neg hd]
theorem wrL_none (off : Nat) (l : List UInt8) : wrL off [] l = l := by
  unfold wrL
  rw [if_pos rfl]
/-! what a write takes -/
/-- does the write fall into block k? -/
def isB (at' n k : Nat) : Bool := decide (0 < n) && decide (at' / 128 ≤ k) && decide (k ≤ (at' + n - 1) / 128)
def wasB (V : List ByteArray) (k : Nat) : Bool := atX V 4 (getR V 2) k != 0
def freshB (V : List ByteArray) (at' n k : Nat) : Bool := isB at' n k && !wasB V k
/-- of the first j blocks so many are fresh -/
def freshN (V : List ByteArray) (at' n j : Nat) : Nat := ((List.range j).filter (freshB V at' n)).length
def beyondB (V : List ByteArray) (at' n j : Nat) : Bool := (List.range j).any fun k => freshB V at' n k && decide (6 ≤ k)
def haveN (V : List ByteArray) (j : Nat) : Nat := ((List.range j).filter (wasB V)).length
theorem freshN_succ (V : List ByteArray) (at' n j : Nat) : freshN V at' n (j + 1) = freshN V at' n j + if freshB V at' n j then 1 else 0 := by
  unfold freshN
  rw [List.range_succ, List.filter_append, List.length_append]
  congr 1
  by_cases h : freshB V at' n j = true
  · simp [h]
  · simp [h]
theorem beyondB_succ (V : List ByteArray) (at' n j : Nat) : beyondB V at' n (j + 1) = (beyondB V at' n j || (freshB V at' n j && decide (6 ≤ j))) := by
  unfold beyondB
  rw [List.range_succ, List.any_append]
  simp
theorem haveN_succ (V : List ByteArray) (j : Nat) : haveN V (j + 1) = haveN V j + if wasB V j then 1 else 0 := by
  unfold haveN
  rw [List.range_succ, List.filter_append, List.length_append]
  congr 1
  by_cases h : wasB V j = true
  · simp [h]
  · simp [h]
theorem filt_more (p : Nat → Bool) (a b : Nat) (hab : a ≤ b) (h : ∀ k, a ≤ k → k < b → p k = false) : ((List.range b).filter p).length = ((List.range a).filter p).length := by
  induction b with
  | zero => rw [show a = 0 by omega]
  | succ b ih =>
    by_cases e : a = b + 1
    · rw [e]
    · rw [List.range_succ, List.filter_append, List.length_append, ih (by omega) (fun k h1 h2 => h k h1 (by omega))]
      simp [h b (by omega) (by omega)]
theorem filt_add (p q r : Nat → Bool) (n : Nat) (h : ∀ k, k < n → ((p k = true ↔ (q k = true ∨ r k = true)) ∧ ¬ (q k = true ∧ r k = true))) : ((List.range n).filter p).length = ((List.range n).filter q).length + ((List.range n).filter r).length := by
  induction n with
  | zero => rfl
  | succ n ih =>
    rw [List.range_succ, List.filter_append, List.filter_append, List.filter_append, List.length_append, List.length_append, List.length_append, ih (fun k hk => h k (by omega))]
    obtain ⟨h1, h2⟩ := h n (by omega)
    have : ((List.filter p [n]).length) = (List.filter q [n]).length + (List.filter r [n]).length := by
      simp only [List.filter_cons, List.filter_nil]
      cases hp : p n <;> cases hq : q n <;> cases hr : r n <;> simp_all
    omega
/-- what is said of a write that could be done -/
structure NeedS (V W : List ByteArray) (at' n nv nw : Nat) : Prop where
  laid : LaidS W
  small : at' + n ≤ 8960
  hv : blocksO V 2 = (List.range nv).map fun k => atI (atX V 4 (getR V 2) k)
  hw : blocksO W 2 = (List.range nw).map fun k => atI (atX W 4 (getR W 2) k)
  nv70 : nv ≤ 70
  nw70 : nw ≤ 70
  count : countO V 2 = ((haveN V nv + (if slotX V 4 (getR V 2) 70 ≠ 0 then 1 else 0) : Nat) : Int)
  was : ∀ k, nv ≤ k → k < 70 → wasB V k = false
  now : ∀ k, k < nw → (decide (atX W 4 (getR W 2) k ≠ 0)) = (isB at' n k || wasB V k)
  room : (roomR V : Int) - (roomR W : Int) = ((freshN V at' n nw + (if slotX V 4 (getR V 2) 70 = 0 ∧ beyondB V at' n nw = true then 1 else 0) : Nat) : Int)
theorem needs_plain (h : LaidS V) {at' : Nat} {d : List UInt8} (h0 : (writeO V 2 at' d).2 = 0) :
    ∃ nv nw, NeedS V (writeO V 2 at' d).1 at' d.length nv nw := by
  replace h0 : (writeO V ((2 : Nat) : Int) at' d).2 = 0 := h0
  show ∃ nv nw, NeedS V (writeO V ((2 : Nat) : Int) at' d).1 at' d.length nv nw
  rcases h.snd.write filesF_nodup mem2 (at' : Int) d with ⟨a, _, c⟩ | ⟨a, c | c | c⟩
  · rw [Int.toNat_natCast] at c
    obtain ⟨r, ws, st, hW, _⟩ := c.st
    have hsm := c.small
    have g := h.snd.good 2 mem2
    have g2 := st.snd.good 2 mem2
    obtain ⟨n1, n2⟩ := h.snd.num 2 mem2
    have hg2 : getR (writeO V ((2 : Nat) : Int) at' d).1 ((2 : Nat) : Int) = r.2 := st.get
    have hz := sizeX_le (getR V ((2 : Nat) : Int))
    have hz2 := sizeX_le (getR (writeO V ((2 : Nat) : Int) at' d).1 ((2 : Nat) : Int))
    have hnv : needN (sizeX (getR V ((2 : Nat) : Int))) ≤ 70 := by unfold needN; omega
    have hnw : needN (sizeX (getR (writeO V ((2 : Nat) : Int) at' d).1 ((2 : Nat) : Int))) ≤ 70 := by unfold needN; omega
    have hat : ∀ s, s < 70 → atX (writeO V ((2 : Nat) : Int) at' d).1 4 (getR (writeO V ((2 : Nat) : Int) at' d).1 ((2 : Nat) : Int)) s = atX r.1 4 r.2 s := fun s hs => by
      have := st.slot s
      rw [slotX_lt hs, slotX_lt hs] at this
      rw [hg2]; exact this
    have hdl : d ≠ [] ↔ 0 < d.length := by
      constructor
      · intro h; exact List.length_pos_iff.2 h
      · intro h; exact List.length_pos_iff.1 h
    have hnow : ∀ k, k < 70 → (decide (atX (writeO V ((2 : Nat) : Int) at' d).1 4 (getR (writeO V ((2 : Nat) : Int) at' d).1 ((2 : Nat) : Int)) k ≠ 0)) = (isB at' d.length k || wasB V k) := fun k hk => by
      rw [hat k hk, Bool.eq_iff_iff, decide_eq_true_iff, ws.at_ k hk, Bool.or_eq_true]
      unfold isB wasB
      rw [Bool.and_eq_true, Bool.and_eq_true, decide_eq_true_iff, decide_eq_true_iff, decide_eq_true_iff, bne_iff_ne, hdl]
      constructor
      · rintro (h | ⟨h1, h2, h3⟩)
        · exact .inr h
        · exact .inl ⟨⟨h1, h2⟩, h3⟩
      · rintro (⟨⟨h1, h2⟩, h3⟩ | h)
        · exact .inr ⟨h1, h2, h3⟩
        · exact .inl h
    have hwas : ∀ k, needN (sizeX (getR V ((2 : Nat) : Int))) ≤ k → k < 70 → wasB V k = false := fun k h1 h2 => by
      unfold wasB
      have := g.past k h1 h2
      rw [show getR V 2 = getR V ((2 : Nat) : Int) from rfl, this]; rfl
    have hcs : ∀ (X : List ByteArray) (l : List Nat), cntS X 4 l = ((List.range 70).filter fun s => atX X 4 l s != 0).length + (if slotX X 4 l 70 ≠ 0 then 1 else 0) := fun X l => by
      unfold cntS
      rw [show List.range 71 = List.range 70 ++ [70] from List.range_succ, List.filter_append, List.length_append]
      have e1 : (List.range 70).filter (fun s => slotX X 4 l s != 0) = (List.range 70).filter (fun s => atX X 4 l s != 0) := List.filter_congr (fun s hs => by
        show (slotX X 4 l s != 0) = (atX X 4 l s != 0)
        rw [slotX_lt (List.mem_range.1 hs)])
      rw [e1]
      by_cases h : slotX X 4 l 70 ≠ 0
      · rw [if_pos h]
        have e2 : (slotX X 4 l 70 != 0) = true := bne_iff_ne.2 h
        simp only [List.filter_cons, List.filter_nil, e2]; rfl
      · rw [if_neg h]
        have e2 : (slotX X 4 l 70 != 0) = false := by rw [Classical.not_not.1 h]; rfl
        simp only [List.filter_cons, List.filter_nil, e2]; rfl
    have hhave : ((List.range 70).filter fun s => atX V 4 (getR V ((2 : Nat) : Int)) s != 0).length = haveN V (needN (sizeX (getR V ((2 : Nat) : Int)))) :=
      filt_more (wasB V) _ _ hnv hwas
    refine ⟨needN (sizeX (getR V ((2 : Nat) : Int))), needN (sizeX (getR (writeO V ((2 : Nat) : Int) at' d).1 ((2 : Nat) : Int))), st.laid h, hsm, blocksO_vol h.snd mem2, blocksO_vol st.snd mem2, hnv, hnw, ?_, hwas, fun k hk => hnow k (by omega), ?_⟩
    · rw [show (2 : Int) = ((2 : Nat) : Int) from rfl, countO_vol h.snd mem2, hcs, hhave]
    · -- the room
      have e1 : roomR (writeO V ((2 : Nat) : Int) at' d).1 = roomR r.1 := by
        have : (writeO V ((2 : Nat) : Int) at' d).1 = putV r.1 2 r.2 := hW
        rw [show (writeO V ((2 : Nat) : Int) at' d).1 = putV r.1 2 r.2 from this, roomR_put ws.mv.vol n1 n2]
      have e2 := ws.mv.room
      have e3 : cntS r.1 4 r.2 = ((List.range 70).filter fun s => atX r.1 4 r.2 s != 0).length + (if slotX r.1 4 r.2 70 ≠ 0 then 1 else 0) := hcs _ _
      have e4 : cntS V 4 (getR V ((2 : Nat) : Int)) = ((List.range 70).filter fun s => atX V 4 (getR V ((2 : Nat) : Int)) s != 0).length + (if slotX V 4 (getR V ((2 : Nat) : Int)) 70 ≠ 0 then 1 else 0) := hcs _ _
      have e5 : ((List.range 70).filter fun s => atX r.1 4 r.2 s != 0).length = ((List.range 70).filter fun s => atX V 4 (getR V ((2 : Nat) : Int)) s != 0).length + ((List.range 70).filter (freshB V at' d.length)).length := by
        refine filt_add _ _ _ 70 (fun k hk => ?_)
        have := hnow k hk
        rw [hat k hk] at this
        unfold freshB
        have w : (atX V 4 (getR V ((2 : Nat) : Int)) k != 0) = wasB V k := rfl
        rw [w]
        have q : (atX r.1 4 r.2 k != 0) = (isB at' d.length k || wasB V k) := by
          rw [← this]
          by_cases hx : atX r.1 4 r.2 k = 0
          · simp [hx]
          · simp [hx]
        rw [q]
        cases isB at' d.length k <;> cases wasB V k <;> simp
      have hfr : ∀ k, needN (sizeX (getR (writeO V ((2 : Nat) : Int) at' d).1 ((2 : Nat) : Int))) ≤ k → k < 70 → freshB V at' d.length k = false := fun k h1 h2 => by
        have h3 := g2.past k h1 h2
        have h4 := hnow k h2
        rw [h3] at h4
        unfold freshB
        have h5 : (isB at' d.length k || wasB V k) = false := h4.symm
        rw [Bool.or_eq_false_iff] at h5
        rw [h5.1]; rfl
      have e6 : ((List.range 70).filter (freshB V at' d.length)).length = freshN V at' d.length (needN (sizeX (getR (writeO V ((2 : Nat) : Int) at' d).1 ((2 : Nat) : Int)))) := filt_more _ _ _ hnw hfr
      have e7 : (if slotX r.1 4 r.2 70 ≠ 0 then 1 else 0) = (if slotX V 4 (getR V ((2 : Nat) : Int)) 70 ≠ 0 then 1 else 0) + (if slotX V 4 (getR V 2) 70 = 0 ∧ beyondB V at' d.length (needN (sizeX (getR (writeO V ((2 : Nat) : Int) at' d).1 ((2 : Nat) : Int)))) = true then 1 else 0) := by
        have hv2 : slotX V 4 (getR V 2) 70 = slotX V 4 (getR V ((2 : Nat) : Int)) 70 := rfl
        rw [hv2]
        by_cases hi : slotX V 4 (getR V ((2 : Nat) : Int)) 70 = 0
        · have hb : (slotX r.1 4 r.2 70 ≠ 0) ↔ beyondB V at' d.length (needN (sizeX (getR (writeO V ((2 : Nat) : Int) at' d).1 ((2 : Nat) : Int)))) = true := by
            rw [ws.ind]
            constructor
            · rintro (h | ⟨h1, h2⟩)
              · exact absurd hi h
              · have hlast : (at' + d.length - 1) / 128 < 70 := by omega
                have hpos := hdl.1 h1
                unfold beyondB
                rw [List.any_eq_true]
                have hfb : freshB V at' d.length ((at' + d.length - 1) / 128) = true := by
                  unfold freshB isB wasB
                  have h3 : atX V 4 (getR V 2) ((at' + d.length - 1) / 128) = 0 := at_hi0 h2 hi
                  have h4 : at' / 128 ≤ (at' + d.length - 1) / 128 := Nat.div_le_div_right (by omega)
                  rw [h3]
                  simp [hpos, h4]
                refine ⟨(at' + d.length - 1) / 128, ?_, ?_⟩
                · rw [List.mem_range]
                  apply Classical.byContradiction
                  intro hc
                  have := hfr _ (Nat.le_of_not_lt hc) hlast
                  rw [this] at hfb; cases hfb
                · rw [hfb, decide_eq_true h2]; rfl
            · intro h
              unfold beyondB at h
              rw [List.any_eq_true] at h
              obtain ⟨k, hk, hp⟩ := h
              rw [Bool.and_eq_true, decide_eq_true_iff] at hp
              have hf := hp.1
              unfold freshB isB at hf
              rw [Bool.and_eq_true, Bool.and_eq_true, Bool.and_eq_true, decide_eq_true_iff, decide_eq_true_iff, decide_eq_true_iff] at hf
              obtain ⟨⟨⟨f1, f2⟩, f3⟩, _⟩ := hf
              exact .inr ⟨hdl.2 f1, by omega⟩
          rw [if_neg (show ¬ (slotX V 4 (getR V ((2 : Nat) : Int)) 70 ≠ 0) from fun h => h hi), Nat.zero_add]
          by_cases hb2 : slotX r.1 4 r.2 70 ≠ 0
          · rw [if_pos hb2, if_pos ⟨hi, hb.1 hb2⟩]
          · rw [if_neg hb2, if_neg (fun h => hb2 (hb.2 h.2))]
        · rw [if_pos (ws.ind.2 (.inl hi)), if_pos hi, if_neg (fun h => hi h.1)]
      have e8 : roomR V = roomR (writeO V ((2 : Nat) : Int) at' d).1 + (freshN V at' d.length (needN (sizeX (getR (writeO V ((2 : Nat) : Int) at' d).1 ((2 : Nat) : Int)))) + (if slotX V 4 (getR V 2) 70 = 0 ∧ beyondB V at' d.length (needN (sizeX (getR (writeO V ((2 : Nat) : Int) at' d).1 ((2 : Nat) : Int)))) = true then 1 else 0)) := by
        rw [e1]
        rw [e3, e4, e5, e6, e7] at e2
        omega
      omega
  · rw [c.1] at h0; cases h0
  · rw [c.1] at h0; cases h0
  · rw [c.1] at h0; cases h0
end
end Go.Proofs.Ytjmafegckfijbaa
