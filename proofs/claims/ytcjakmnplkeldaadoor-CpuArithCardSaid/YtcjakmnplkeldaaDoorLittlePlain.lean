/-
  Plain laws of CpuLittle: a step changes little.
-/
import Derived.Test.YtcjakmnplkeldaaDoorLaw14
namespace Go.Proofs.YtcjakmnplkeldaaDoor
set_option linter.unusedVariables false
set_option linter.unusedSimpArgs false
/-- how many of the first so many are such -/
def cntN (P : Nat → Bool) : Nat → Nat
  | 0 => 0
  | n + 1 => cntN P n + if P n = true then 1 else 0
theorem cntN_window {P : Nat → Bool} {p m : Nat} (h : ∀ j, P j = true → p ≤ j ∧ j < p + m) : ∀ n, cntN P n ≤ m ∧ cntN P n ≤ n - p
  | 0 => ⟨Nat.zero_le _, Nat.zero_le _⟩
  | n + 1 => by
    have ih := cntN_window h n
    unfold cntN
    by_cases hp : P n = true
    · have := h n hp
      rw [if_pos hp]
      omega
    · rw [if_neg hp]
      omega
theorem cntN_none {P : Nat → Bool} : ∀ n, (∀ j, j < n → P j = false) → cntN P n = 0
  | 0, _ => rfl
  | n + 1, h => by
    unfold cntN
    rw [cntN_none n (fun j hj => h j (by omega)), h n (by omega)]
    rfl
theorem cntN_le (P : Nat → Bool) : ∀ n, cntN P n ≤ n
  | 0 => Nat.le_refl _
  | n + 1 => by have := cntN_le P n; unfold cntN; split <;> omega
def sumN (g : Nat → Nat) : Nat → Nat
  | 0 => 0
  | n + 1 => sumN g n + g n
theorem sumN_zero {g : Nat → Nat} : ∀ n, (∀ j, j < n → g j = 0) → sumN g n = 0
  | 0, _ => rfl
  | n + 1, h => by unfold sumN; rw [sumN_zero n (fun j hj => h j (by omega)), h n (by omega)]
theorem sumN_one {g : Nat → Nat} {f : Nat} (h : ∀ j, j ≠ f → g j = 0) : ∀ n, sumN g n ≤ g f
  | 0 => Nat.zero_le _
  | n + 1 => by
    unfold sumN
    by_cases hf : n = f
    · subst hf
      rw [sumN_zero n (fun j hj => h j (by omega))]
      omega
    · have := sumN_one h n
      rw [h n hf]
      omega
/-- is a byte another one? -/
def bd (a b : ByteArray) (k : Nat) : Bool := a.data.toList.getD k 0 != b.data.toList.getD k 0
def rd (R S : List Nat) (k : Nat) : Bool := decide (1 ≤ k) && (S.getD k 0 != R.getD k 0)
def bdN (xs ys : List ByteArray) (i : Nat) : Nat := cntN (bd (ys.getD i ByteArray.empty) (xs.getD i ByteArray.empty)) 128
/-- may a frame be written, by one of the first so many pages? -/
def mayN (l : List Pte) (i : Nat) : Nat → Bool
  | 0 => false
  | k + 1 => mayN l i k || (match l[k]? with | some p => p.is && (p.wr && p.fr == (i : Int)) | none => false)
theorem mayN_of {l : List Pte} {i : Nat} {q : Nat} {p : Pte} (hq : l[q]? = some p) (h1 : p.is = true) (h2 : p.wr = true) (h3 : p.fr = i) : ∀ k, q < k → mayN l i k = true
  | 0, h => by omega
  | k + 1, h => by
    unfold mayN
    by_cases e : q = k
    · subst e
      rw [hq]
      simp [h1, h2, h3]
    · rw [mayN_of hq h1 h2 h3 k (by omega)]
      rfl
theorem putB_size {s d : ByteArray} {p : Nat} (h : p + d.size ≤ s.size) : (putB s p d).size = s.size := by
  unfold putB
  simp [ByteArray.size_append, ByteArray.size_extract]
  omega
theorem putB_list {s d : ByteArray} {p : Nat} (h : p + d.size ≤ s.size) : (putB s p d).data.toList = s.data.toList.take p ++ d.data.toList ++ s.data.toList.drop (p + d.size) := by
  unfold putB
  simp only [ByteArray.data_append, Array.toList_append]
  rw [Lib.extract_data, Lib.extract_data, List.drop_zero, Nat.sub_zero]
  congr 1
  rw [List.take_of_length_le]
  simp
theorem putB_far {s d : ByteArray} {p j : Nat} (h : p + d.size ≤ s.size) (hj : j < p ∨ p + d.size ≤ j) : bd (putB s p d) s j = false := by
  unfold bd
  have hl : (s.data.toList.take p).length = p := by rw [List.length_take, Array.length_toList]; show min p s.size = p; omega
  have hd : d.data.toList.length = d.size := by simp
  rw [putB_list h]
  simp only [bne_eq_false_iff_eq, List.getD_eq_getElem?_getD]
  congr 1
  rcases hj with hj | hj
  · rw [List.append_assoc, List.getElem?_append_left (by omega), List.getElem?_take, if_pos hj]
  · rw [List.getElem?_append_right (by rw [List.length_append]; omega), List.length_append, hl, hd, List.getElem?_drop]
    congr 1
    omega
/-- how a step comes out -/
structure StepIs (R : List Nat) (pc : Nat) (l : List Pte) (xs : List ByteArray) (o : StepO) : Prop where
  out : ((o.kind = 2 ∨ o.kind = 3) ∧ o.R = R ∧ o.pc = pc ∧ o.xs = xs) ∨ ((o.kind = 0 ∨ o.kind = 1) ∧ ∃ a v, o.R = ((R.set 0 0).set a v).set 0 0 ∧ (o.xs = xs ∨ (a = 0 ∧ ∃ t sz u, storeR xs l t sz u = some o.xs ∧ (sz = 1 ∨ sz = 4))))
theorem step_is (R : List Nat) (pc : Nat) (l : List Pte) (xs : List ByteArray) : StepIs R pc l xs (stepR R pc l xs) := by
  have h0 : ∀ R : List Nat, (R.set 0 0).set 0 0 = ((R.set 0 0).set 0 0).set 0 0 := fun R => by simp [List.set_set]
  have keep : ∀ (o : StepO) (a v : Nat), (o.kind = 0 ∨ o.kind = 1) → o.R = ((R.set 0 0).set a v).set 0 0 → o.xs = xs → StepIs R pc l xs o := fun o a v h1 h2 h3 => ⟨.inr ⟨h1, a, v, h2, .inl h3⟩⟩
  have bad : ∀ (o : StepO), (o.kind = 2 ∨ o.kind = 3) → o.R = R → o.pc = pc → o.xs = xs → StepIs R pc l xs o := fun o h1 h2 h3 h4 => ⟨.inl ⟨h1, h2, h3, h4⟩⟩
  unfold stepR
  split
  · exact bad _ (.inl rfl) rfl rfl rfl
  · split
    · exact bad _ (.inr rfl) rfl rfl rfl
    · unfold stDo
      split
      · exact keep _ _ _ (.inl rfl) rfl rfl
      · split
        · exact keep _ _ _ (.inl rfl) rfl rfl
        · split
          · exact keep _ _ _ (.inl rfl) rfl rfl
          · split
            · split
              · exact bad _ (.inl rfl) rfl rfl rfl
              · exact keep _ _ _ (.inl rfl) rfl rfl
            · split
              · split
                · exact bad _ (.inl rfl) rfl rfl rfl
                · rename_i ys hys
                  refine ⟨.inr ⟨.inl rfl, 0, 0, h0 R, .inr ⟨rfl, _, _, _, hys, ?_⟩⟩⟩
                  split
                  · exact .inl rfl
                  · exact .inr rfl
              · split
                · exact keep _ _ _ (.inl rfl) (h0 R) rfl
                · split
                  · exact keep _ _ _ (.inl rfl) rfl rfl
                  · split
                    · exact keep _ _ _ (.inl rfl) rfl rfl
                    · exact keep _ _ _ (.inr rfl) (h0 R) rfl
theorem frame_is {xs : List ByteArray} {n : Int} {s : ByteArray} (h : frame xs n = some s) : ∃ k : Nat, n = k ∧ xs[k]? = some s ∧ s.size = 128 := by
  unfold frame at h
  split at h
  · rename_i h0
    obtain ⟨k, rfl⟩ := Int.eq_ofNat_of_zero_le h0
    refine ⟨k, rfl, ?_⟩
    rw [Int.toNat_natCast] at h
    split at h
    · rename_i s' hs
      split at h
      · rename_i h128
        injection h with h
        subst h
        exact ⟨hs, h128⟩
      · cases h
    · cases h
  · cases h
theorem store_is {xs ys : List ByteArray} {l : List Pte} {t sz u : Nat} (hl : l.length = 16) (hsz : sz = 1 ∨ sz = 4) (h : storeR xs l t sz u = some ys) :
    ∃ (f p : Nat) (s d : ByteArray), xs[f]? = some s ∧ s.size = 128 ∧ d.size = sz ∧ p + sz ≤ 128 ∧ ys = xs.set f (putB s p d) ∧ mayN l f 16 = true := by
  unfold storeR at h
  split at h
  · rename_i f p hf
    split at h
    · rename_i s hs
      obtain ⟨k, rfl, hk, h128⟩ := frame_is hs
      injection h with h
      refine ⟨k, p, s, ⟨(putL u sz).toArray⟩, hk, h128, ?_, findR_place hsz hf, by rw [← h, Int.toNat_natCast], ?_⟩
      · show (putL u sz).toArray.size = sz
        rw [List.size_toArray, putL_length]
      · unfold findR at hf
        split at hf
        · rename_i q hq
          split at hf
          · rename_i hh
            injection hf with hf
            injection hf with h1 h2
            refine mayN_of hq hh.2.2.1 (hh.2.2.2 rfl) h1 16 ?_
            have := (List.getElem?_eq_some_iff.1 hq).1
            omega
          · cases hf
        · cases hf
    · cases h
  · cases h
/-- what CpuLittle asks -/
structure Little (R S : List Nat) (l : List Pte) (xs ys : List ByteArray) : Prop where
  r0 : S.getD 0 0 = 0
  turned : cntN (rd R S) 16 ≤ 1
  size : ∀ i (h : i < ys.length), ys[i].size = 128
  may : ∀ i k, i < ys.length → bd (ys.getD i ByteArray.empty) (xs.getD i ByteArray.empty) k = true → mayN l i 16 = true
  bytes : sumN (bdN xs ys) ys.length ≤ 4
  either : cntN (rd R S) 16 = 0 ∨ sumN (bdN xs ys) ys.length = 0
theorem bd_self (a : ByteArray) (k : Nat) : bd a a k = false := by simp [bd]
theorem bdN_same (xs : List ByteArray) (i : Nat) : bdN xs xs i = 0 := cntN_none _ fun j _ => bd_self _ _
theorem step_little {R : List Nat} {pc : Nat} {l : List Pte} {xs : List ByteArray} (hR : R.length = 16) (hl : l.length = 16) (hs : Small xs) :
    (stepR R pc l xs).xs.length = xs.length ∧ ((((stepR R pc l xs).kind = 2 ∨ (stepR R pc l xs).kind = 3) ∧ (stepR R pc l xs).R = R ∧ (stepR R pc l xs).pc = pc ∧ (stepR R pc l xs).xs = xs) ∨
      (((stepR R pc l xs).kind = 0 ∨ (stepR R pc l xs).kind = 1) ∧ Little R (stepR R pc l xs).R l xs (stepR R pc l xs).xs)) := by
  generalize ho : stepR R pc l xs = o
  have hi := (step_is R pc l xs).out
  rw [ho] at hi
  rcases hi with ⟨h1, h2, h3, h4⟩ | ⟨h1, a, v, h2, h3⟩
  · exact ⟨by rw [h4], .inl ⟨h1, h2, h3, h4⟩⟩
  · have hr0 : o.R.getD 0 0 = 0 := by rw [h2]; simp [List.getD_eq_getElem?_getD, List.getElem?_set, hR]
    have hrd : ∀ j, rd R o.R j = true → a ≤ j ∧ j < a + 1 := fun j hj => by
      unfold rd at hj
      simp only [Bool.and_eq_true, decide_eq_true_eq, bne_iff_ne, ne_eq] at hj
      obtain ⟨g1, g2⟩ := hj
      have : a = j := by
        apply Classical.byContradiction
        intro hne
        apply g2
        rw [h2]
        simp [List.getD_eq_getElem?_getD, List.getElem?_set, hne, show ¬ 0 = j by omega]
      omega
    rcases h3 with h3 | ⟨rfl, t, sz, u, hst, hsz⟩
    · refine ⟨by rw [h3], .inr ⟨h1, hr0, (cntN_window hrd 16).1, ?_, ?_, ?_, .inr ?_⟩⟩
      · rw [h3]; exact fun i h => hs.2 _ (List.getElem_mem h)
      · rw [h3]; intro i k _ hb; rw [bd_self] at hb; cases hb
      · rw [h3, sumN_zero _ (fun j _ => bdN_same xs j)]; omega
      · rw [h3, sumN_zero _ (fun j _ => bdN_same xs j)]
    · obtain ⟨f, p, s, d, hf, h128, hd, hp, hys, hm⟩ := store_is hl hsz hst
      have hfl := (List.getElem?_eq_some_iff.1 hf).1
      have hlen : o.xs.length = xs.length := by rw [hys]; simp
      have hne : ∀ i, i ≠ f → o.xs.getD i ByteArray.empty = xs.getD i ByteArray.empty := fun i hi => by
        rw [hys]; simp [List.getD_eq_getElem?_getD, List.getElem?_set, Ne.symm hi]
      have heq : o.xs.getD f ByteArray.empty = putB s p d := by rw [hys]; simp [List.getD_eq_getElem?_getD, List.getElem?_set, hfl]
      have hxf : xs.getD f ByteArray.empty = s := by simp [List.getD_eq_getElem?_getD, hf]
      have hbd : bdN xs o.xs f ≤ 4 := by
        unfold bdN
        rw [heq, hxf]
        refine Nat.le_trans (cntN_window (p := p) (m := sz) (fun j hj => ?_) 128).1 (by rcases hsz with rfl | rfl <;> omega)
        apply Classical.byContradiction
        intro hc
        rw [putB_far (by omega) (by omega)] at hj
        cases hj
      have hz : ∀ j, j ≠ f → bdN xs o.xs j = 0 := fun j hj => by
        unfold bdN
        rw [hne j hj]
        exact cntN_none _ fun k _ => bd_self _ _
      have hall : ∀ s' ∈ o.xs, s'.size = 128 := by
        rw [hys]
        intro s' hs'
        rcases List.mem_or_eq_of_mem_set hs' with hm2 | rfl
        · exact hs.2 _ hm2
        · rw [putB_size (by omega)]; exact h128
      have ht0 : cntN (rd R o.R) 16 = 0 := cntN_none _ fun j _ => by
        cases hc : rd R o.R j with
        | false => rfl
        | true =>
          have h1 := hrd j hc
          unfold rd at hc
          simp only [Bool.and_eq_true, decide_eq_true_eq] at hc
          omega
      refine ⟨hlen, .inr ⟨h1, hr0, by omega, fun i h => ?_, fun i k _ hb => ?_, Nat.le_trans (sumN_one hz _) hbd, .inl ht0⟩⟩
      · exact hall _ (List.getElem_mem h)
      · by_cases e : i = f
        · subst e; exact hm
        · rw [hne i e, bd_self] at hb; cases hb
end Go.Proofs.YtcjakmnplkeldaaDoor
