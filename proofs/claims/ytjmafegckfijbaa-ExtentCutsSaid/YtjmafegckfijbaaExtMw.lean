/-
  A block is placed, written, dropped: one file's blocks are moved (plain: no program in sight).
-/
import Derived.Test.YtjmafegckfijbaaExtMv
namespace Go.Proofs.Ytjmafegckfijbaa
set_option linter.unusedVariables false
set_option linter.unusedSimpArgs false
section
variable {xs ys zs : List ByteArray} {m len : Nat} {l l' l'' : List Nat} {s s0 b k : Nat}
theorem blkL_set_ne (xs : List ByteArray) (i j : Nat) (t : ByteArray) (h : i ≠ j) : blkL (xs.set i t) j = blkL xs j := by
  unfold blkL
  rw [List.getD_eq_getElem?_getD, List.getElem?_set_ne h, ← List.getD_eq_getElem?_getD]
theorem turnV_blk (xs : List ByteArray) (b j : Nat) (h : j ≠ 2) : blkL (turnV xs b) j = blkL xs j := blkL_set_ne _ _ _ _ (Ne.symm h)
theorem takeV_blk (hb : b < xs.length) (j : Nat) (h : j ≠ 2) : blkL (takeV xs b) j = if j = b then List.replicate 128 0 else blkL xs j := by
  unfold takeV
  rw [blkL_set _ _ _ _ (by rw [turnV_length]; exact hb), turnV_blk _ _ _ h, zerosB_list]
  by_cases e : b = j
  · rw [if_pos e, if_pos e.symm]
  · rw [if_neg e, if_neg (fun h => e h.symm)]
/-- some bytes laid into others -/
def splL (bs : List UInt8) (p : Nat) (d : List UInt8) : List UInt8 := bs.take p ++ d ++ bs.drop (p + d.length)
theorem splL_get {bs : List UInt8} {p : Nat} {d : List UInt8} (h : p + d.length ≤ bs.length) (i : Nat) : (splL bs p d)[i]? = if p ≤ i ∧ i < p + d.length then d[i - p]? else bs[i]? := by
  unfold splL
  have e1 : (bs.take p).length = p := by rw [List.length_take]; omega
  by_cases h1 : i < p
  · rw [if_neg (by omega), List.append_assoc, List.getElem?_append_left (by omega), List.getElem?_take, if_pos h1]
  · by_cases h2 : i < p + d.length
    · rw [if_pos ⟨by omega, h2⟩, List.append_assoc, List.getElem?_append_right (by omega), List.getElem?_append_left (by omega), e1]
    · rw [if_neg (by omega), List.getElem?_append_right (by rw [List.length_append]; omega), List.length_append, e1, List.getElem?_drop]
      congr 1; omega
theorem splL_len {bs : List UInt8} {p : Nat} {d : List UInt8} (h : p + d.length ≤ bs.length) : (splL bs p d).length = bs.length := by
  unfold splL
  simp only [List.length_append, List.length_take, List.length_drop]; omega
theorem splL_getD {bs : List UInt8} {p : Nat} {d : List UInt8} (h : p + d.length ≤ bs.length) (i : Nat) : (splL bs p d).getD i 0 = if p ≤ i ∧ i < p + d.length then d.getD (i - p) 0 else bs.getD i 0 := by
  simp only [List.getD_eq_getElem?_getD, splL_get h]
  split <;> rfl
theorem numAt_spl_same {bs : List UInt8} {p n : Nat} (h : p + 2 ≤ bs.length) (hn : n < 65536) : numAt (splL bs p (putL n 2)) p 2 = n := by
  have e : ((splL bs p (putL n 2)).drop p).take 2 = putL n 2 := by
    unfold splL
    have e1 : (bs.take p).length = p := by rw [List.length_take]; omega
    rw [List.append_assoc, List.drop_append_of_le_length (by omega), List.drop_eq_nil_of_le (by omega), List.nil_append, List.take_append_of_le_length (by rw [putL_length]; omega), List.take_of_length_le (by rw [putL_length]; omega)]
  unfold numAt
  rw [e, leN_putL]
  exact Nat.mod_eq_of_lt hn
theorem numAt_spl_other {bs : List UInt8} {p q : Nat} {d : List UInt8} (h : p + d.length ≤ bs.length) (hq : q + 2 ≤ p ∨ p + d.length ≤ q) : numAt (splL bs p d) q 2 = numAt bs q 2 := by
  have e : ((splL bs p d).drop q).take 2 = (bs.drop q).take 2 := by
    apply List.ext_getElem?
    intro i
    simp only [List.getElem?_take, List.getElem?_drop]
    by_cases hi : i < 2
    · rw [if_pos hi, if_pos hi, splL_get h, if_neg (by omega)]
    · rw [if_neg hi, if_neg hi]
  unfold numAt
  rw [e]
theorem layX_spl (b p : Nat) (d : List UInt8) (hb : b < xs.length) (i : Nat) : blkL (layX xs b p d) i = if b = i then splL (blkL xs b) p d else blkL xs i := layX_blk b p d hb i
theorem numAt_zeros (n p : Nat) : numAt (List.replicate n 0) p 2 = 0 := by
  unfold numAt
  have : ∀ a : Nat, leN (List.replicate a 0) = 0 := by
    intro a
    induction a with
    | zero => rfl
    | succ a ih => rw [List.replicate_succ, leN, ih]; rfl
  rw [List.drop_replicate, List.take_replicate]
  exact this _
/-- the bytes are the same where the blocks are -/
theorem byte_of (h : ∀ s, s < 70 → (atX ys m l' s = atX xs m l s ∧ (atX xs m l s ≠ 0 → blkL ys (atX xs m l s) = blkL xs (atX xs m l s))) ∨ (atX xs m l s = 0 ∧ blkL ys (atX ys m l' s) = List.replicate 128 0)) {i : Nat} (hi : i < 8960) : byteX ys m l' i = byteX xs m l i := by
  have h70 : i / 128 < 70 := by omega
  unfold byteX
  rcases h _ h70 with ⟨e, g⟩ | ⟨e, g⟩
  · rw [e]
    by_cases h0 : atX xs m l (i / 128) = 0
    · rw [if_pos h0, if_pos h0]
    · rw [if_neg h0, if_neg h0, g h0]
  · rw [if_pos e]
    split
    · rfl
    · rw [g, List.getD_eq_getElem?_getD, List.getElem?_replicate]
      split <;> rfl
theorem free_facts (hv : IsVol xs m) (hf : freeR xs m = some b) : dataN m ≤ b ∧ b < xs.length ∧ bitV xs b = false ∧ datB xs m b = true ∧ 5 ≤ b := by
  have hl := hv.len
  obtain ⟨f1, f2, f3, f4⟩ := (freeR_some (by omega)).1 hf
  exact ⟨f1, f2, f3, datB_iff.2 ⟨f1, f2⟩, by omega⟩
theorem free_ne (o : OwnS xs m l) (hv : IsVol xs m) (hf : freeR xs m = some b) (hs : s < 71) : slotX xs m l s ≠ b := fun e => by
  obtain ⟨f1, f2, f3, f4, f5⟩ := free_facts hv hf
  have := o.used s hs (by rw [e]; omega)
  rw [e, f3] at this; cases this
theorem slot_ne2 (hv : IsVol xs m) (h : slotX xs m l s ≠ 0) : slotX xs m l s ≠ 2 := by
  have := datB_pos (slotX_dat h); omega
theorem take_own (o : OwnS xs m l) (hv : IsVol xs m) (hf : freeR xs m = some b) (hs : s < 71) (h0 : slotX xs m l s ≠ 0) : blkL (takeV xs b) (slotX xs m l s) = blkL xs (slotX xs m l s) := by
  obtain ⟨f1, f2, f3, f4, f5⟩ := free_facts hv hf
  rw [takeV_blk f2 _ (slot_ne2 hv h0), if_neg (free_ne o hv hf hs)]
/-- where the block of numbers lies still and is the same, the blocks are those of the numbers -/
theorem slots_by (hl : ys.length = xs.length) (h10 : l'.getD 10 0 = l.getD 10 0) (hb : slotX xs m l 70 ≠ 0 → blkL ys (slotX xs m l 70) = blkL xs (slotX xs m l 70)) (hs : 6 ≤ s) (h71 : s < 71) : slotX ys m l' s = slotX xs m l s := by
  have hd : ∀ j, datB ys m j = datB xs m j := fun j => datB_len m j hl
  have h70 : slotX ys m l' 70 = slotX xs m l 70 := by rw [slotX_ind, slotX_ind, hd, h10]
  by_cases e : s = 70
  · rw [e]; exact h70
  · rw [slotX_lt (by omega), slotX_lt (by omega)]
    by_cases h0 : slotX xs m l 70 = 0
    · rw [at_hi0 hs h0, at_hi0 hs (by rw [h70]; exact h0)]
    · rw [at_hi hs h0, at_hi hs (by rw [h70]; exact h0), h70, hb h0, hd]
theorem getD_set_ne (l : List Nat) (i j v : Nat) (h : i ≠ j) : (l.set i v).getD j 0 = l.getD j 0 := by
  rw [List.getD_eq_getElem?_getD, List.getElem?_set_ne h, ← List.getD_eq_getElem?_getD]
/-- what comes of placing a block -/
structure PlaS (m : Nat) (xs : List ByteArray) (l : List Nat) (k : Nat) (r : (List ByteArray × List Nat) × Nat) : Prop where
  mv : MvS m xs l r.1.1 r.1.2
  at_ : ∀ s, s < 70 → atX r.1.1 m r.1.2 s = if s = k then r.2 else atX xs m l s
  ne : r.2 ≠ 0
  ind : slotX r.1.1 m r.1.2 70 ≠ 0 ↔ (slotX xs m l 70 ≠ 0 ∨ 6 ≤ k)
  byte : ∀ i, i < 8960 → byteX r.1.1 m r.1.2 i = byteX xs m l i
  size : r.1.2.getD 3 0 = l.getD 3 0
theorem pla_low (hv : IsVol xs m) (hl : l.length = 12) (o : OwnS xs m l) (hk : k < 6) (h0 : atX xs m l k = 0) (hf : freeR xs m = some b) : PlaS m xs l k ((takeV xs b, l.set (4 + k) b), b) := by
  obtain ⟨f1, f2, f3, f4, f5⟩ := free_facts hv hf
  have hd : ∀ j, datB (takeV xs b) m j = datB xs m j := fun j => datB_len m j (takeV_length _ _)
  have h10 : (l.set (4 + k) b).getD 10 0 = l.getD 10 0 := getD_set_ne _ _ _ _ (by omega)
  have hs : ∀ s, s < 71 → slotX (takeV xs b) m (l.set (4 + k) b) s = if s = k then b else slotX xs m l s := by
    intro s hs
    by_cases h6 : s < 6
    · rw [slotX_lt (by omega), slotX_lt (by omega), at_low h6, at_low h6, hd, getD_set _ _ _ _ _ (by omega)]
      by_cases e : s = k
      · rw [if_pos (show 4 + k = 4 + s by omega), if_pos e, if_pos f4]
      · rw [if_neg (show ¬ 4 + k = 4 + s by omega), if_neg e]
    · rw [if_neg (by omega)]
      exact slots_by (takeV_length _ _) h10 (fun h => take_own o hv hf (by omega) h) (by omega) hs
  refine ⟨.take hv o hf (s0 := k) (by omega) (by rw [slotX_lt (by omega)]; exact h0) (takeV_length _ _) (hv.take f1 f2) rfl hs (fun j h1 h2 _ => by rw [takeV_blk f2 _ h1, if_neg h2]) (fun i hi => getD_set_ne _ _ _ _ (by omega)), fun s h1 => ?_, by show b ≠ 0; omega, ?_, fun i hi => byte_of (fun s h1 => ?_) hi, getD_set_ne _ _ _ _ (by omega)⟩
  · have := hs s (by omega); rw [slotX_lt h1, slotX_lt h1] at this; exact this
  · show slotX (takeV xs b) m (l.set (4 + k) b) 70 ≠ 0 ↔ _
    rw [hs 70 (by omega), if_neg (by omega)]
    constructor
    · exact fun h => .inl h
    · rintro (h | h)
      · exact h
      · omega
  · have := hs s (by omega); rw [slotX_lt h1, slotX_lt h1] at this
    rw [this]
    by_cases e : s = k
    · rw [if_pos e]
      exact .inr ⟨by rw [e]; exact h0, by rw [takeV_blk f2 _ (by omega), if_pos rfl]⟩
    · rw [if_neg e]
      refine .inl ⟨rfl, fun hz => ?_⟩
      have := take_own o hv hf (s := s) (by omega) (by rw [slotX_lt h1]; exact hz)
      rw [slotX_lt h1] at this; exact this
/-- a block for the numbers -/
theorem ind_new (hv : IsVol xs m) (hl : l.length = 12) (o : OwnS xs m l) (h0 : slotX xs m l 70 = 0) (hf : freeR xs m = some b) :
    MvS m xs l (takeV xs b) (l.set 10 b) ∧ slotX (takeV xs b) m (l.set 10 b) 70 = b ∧ (∀ s, s < 70 → atX (takeV xs b) m (l.set 10 b) s = atX xs m l s) ∧ (∀ i, i < 8960 → byteX (takeV xs b) m (l.set 10 b) i = byteX xs m l i) := by
  obtain ⟨f1, f2, f3, f4, f5⟩ := free_facts hv hf
  have hd : ∀ j, datB (takeV xs b) m j = datB xs m j := fun j => datB_len m j (takeV_length _ _)
  have e10 : (l.set 10 b).getD 10 0 = b := by rw [getD_set _ _ _ _ _ (by omega), if_pos rfl]
  have h70 : slotX (takeV xs b) m (l.set 10 b) 70 = b := by rw [slotX_ind, e10, hd, if_pos f4]
  have hs : ∀ s, s < 70 → atX (takeV xs b) m (l.set 10 b) s = atX xs m l s := by
    intro s hs
    by_cases h6 : s < 6
    · rw [at_low h6, at_low h6, hd, getD_set_ne _ _ _ _ (by omega)]
    · rw [at_hi0 (by omega) h0, at_hi (by omega) (by rw [h70]; omega), h70, takeV_blk f2 _ (by omega), if_pos rfl, numAt_zeros]
      split <;> rfl
  have hs' : ∀ s, s < 71 → slotX (takeV xs b) m (l.set 10 b) s = if s = 70 then b else slotX xs m l s := by
    intro s h1
    by_cases e : s = 70
    · rw [if_pos e, e, h70]
    · rw [if_neg e, slotX_lt (by omega), slotX_lt (by omega), hs s (by omega)]
  refine ⟨.take hv o hf (s0 := 70) (by omega) h0 (takeV_length _ _) (hv.take f1 f2) rfl hs' (fun j h1 h2 _ => by rw [takeV_blk f2 _ h1, if_neg h2]) (fun i hi => getD_set_ne _ _ _ _ (by omega)), h70, hs, fun i hi => byte_of (fun s h1 => .inl ⟨hs s h1, fun hz => ?_⟩) hi⟩
  have := take_own o hv hf (s := s) (by omega) (by rw [slotX_lt h1]; exact hz)
  rw [slotX_lt h1] at this; exact this
theorem pla_high (hv : IsVol xs m) (hl : l.length = 12) (o : OwnS xs m l) (hk : 6 ≤ k) (hk70 : k < 70) (h0 : atX xs m l k = 0) (hi : slotX xs m l 70 ≠ 0) (hf : freeR xs m = some b) : PlaS m xs l k ((layX (takeV xs b) (l.getD 10 0) (2 * (k - 6)) (putL b 2), l), b) := by
  obtain ⟨f1, f2, f3, f4, f5⟩ := free_facts hv hf
  have hlen := hv.len
  obtain ⟨i1, i2⟩ := slot_ind_ne hi
  rw [← i2]
  obtain ⟨i, hi0⟩ : ∃ i, slotX xs m l 70 = i := ⟨_, rfl⟩
  rw [hi0]
  have hin : i ≠ 0 := by rw [← hi0]; exact hi
  have hid : datB xs m i = true := by rw [← hi0]; exact slotX_dat hi
  obtain ⟨id1, id2⟩ := datB_iff.1 hid
  have hib : i ≠ b := by rw [← hi0]; exact free_ne o hv hf (by omega)
  have hi2 : i ≠ 2 := by have := datB_pos hid; omega
  have hll : (layX (takeV xs b) i (2 * (k - 6)) (putL b 2)).length = xs.length := by rw [layX_length, takeV_length]
  have hd : ∀ j, datB (layX (takeV xs b) i (2 * (k - 6)) (putL b 2)) m j = datB xs m j := fun j => datB_len m j hll
  have hb : ∀ j, blkL (layX (takeV xs b) i (2 * (k - 6)) (putL b 2)) j = if i = j then splL (blkL (takeV xs b) i) (2 * (k - 6)) (putL b 2) else blkL (takeV xs b) j := fun j => layX_spl i _ _ (by rw [takeV_length]; exact id2) j
  have hti : blkL (takeV xs b) i = blkL xs i := by rw [takeV_blk f2 _ hi2, if_neg hib]
  have h128 : (blkL xs i).length = 128 := hv.blk i id2
  have h70 : slotX (layX (takeV xs b) i (2 * (k - 6)) (putL b 2)) m l 70 = i := by rw [slotX_ind, hd, ← slotX_ind, hi0]
  have hs : ∀ s, s < 71 → slotX (layX (takeV xs b) i (2 * (k - 6)) (putL b 2)) m l s = if s = k then b else slotX xs m l s := by
    intro s hs
    by_cases h6 : s < 6
    · rw [if_neg (by omega), slotX_lt (by omega), slotX_lt (by omega), at_low h6, at_low h6, hd]
    · by_cases e : s = 70
      · rw [if_neg (by omega), e, h70, hi0]
      · rw [slotX_lt (by omega), slotX_lt (by omega), at_hi (by omega) (by rw [h70]; exact hin), h70, hb, if_pos rfl, hti, hd]
        by_cases e2 : s = k
        · rw [if_pos e2, e2, numAt_spl_same (by omega) (by omega), if_pos f4]
        · rw [if_neg e2, numAt_spl_other (by rw [putL_length]; omega) (by rw [putL_length]; omega), at_hi (by omega) hi, hi0]
  refine ⟨.take hv o hf (s0 := k) (by omega) (by rw [slotX_lt (by omega)]; exact h0) hll (layX_ok (hv.take f1 f2) (by rw [datB_len m i (takeV_length _ _)]; exact hid) (by rw [putL_length]; omega)) ?_ hs (fun j h1 h2 h3 => ?_) (fun _ _ => rfl), fun s h1 => ?_, by show b ≠ 0; omega, ?_, fun i hi' => byte_of (fun s h1 => ?_) hi', rfl⟩
  · rw [hb, if_neg hi2]
  · rw [hb]
    by_cases e : i = j
    · exfalso
      rw [← e] at h3
      exact h3 hid 70 (by omega) hi0
    · rw [if_neg e, takeV_blk f2 _ h1, if_neg h2]
  · have := hs s (by omega); rw [slotX_lt h1, slotX_lt h1] at this; exact this
  · show slotX (layX (takeV xs b) i (2 * (k - 6)) (putL b 2)) m l 70 ≠ 0 ↔ _
    rw [h70, hi0]
    exact ⟨fun h => .inl h, fun _ => hin⟩
  · have := hs s (by omega); rw [slotX_lt h1, slotX_lt h1] at this
    rw [this]
    by_cases e : s = k
    · rw [if_pos e]
      refine .inr ⟨by rw [e]; exact h0, ?_⟩
      rw [hb, if_neg hib, takeV_blk f2 _ (by omega), if_pos rfl]
    · rw [if_neg e]
      refine .inl ⟨rfl, fun hz => ?_⟩
      have := take_own o hv hf (s := s) (by omega) (by rw [slotX_lt h1]; exact hz)
      rw [slotX_lt h1] at this
      rw [hb, if_neg, this]
      intro e2
      have := o.inj 70 s (by omega) (by omega) (by rw [hi0, slotX_lt h1, e2]) hi
      omega
theorem pla_mv (h : OkS len m (xs, l)) (o : OwnS xs m l) (hk : k < 70) {r : (List ByteArray × List Nat) × Nat} (e : plaG noK xs m l k = some r) : PlaS m xs l k r := by
  have hv : IsVol xs m := h.vol
  have hl12 : l.length = 12 := h.fit.1
  unfold plaG at e
  by_cases h0 : atX xs m l k ≠ 0
  · rw [if_pos h0] at e
    obtain rfl := Option.some.inj e
    refine ⟨.refl hv o, fun s hs => ?_, h0, ?_, fun _ _ => rfl, rfl⟩
    · show atX xs m l s = _
      by_cases e : s = k
      · rw [if_pos e, e]
      · rw [if_neg e]
    · show slotX xs m l 70 ≠ 0 ↔ _
      refine ⟨fun h => .inl h, ?_⟩
      rintro (h | h)
      · exact h
      · exact fun hz => h0 (at_hi0 h hz)
  · have h0 : atX xs m l k = 0 := Classical.not_not.1 h0
    rw [if_neg (by rw [h0]; simp)] at e
    unfold indG at e
    by_cases h6 : k < 6
    · rw [if_pos (.inl h6)] at e
      simp only [Option.bind_some] at e
      unfold takX at e
      cases hf : freeR xs m with
      | none => rw [hf] at e; cases e
      | some b =>
        rw [hf] at e
        simp only [Option.map_some] at e
        unfold nameG at e
        rw [if_pos h6] at e
        obtain rfl := Option.some.inj e
        exact pla_low hv hl12 o h6 h0 hf
    · by_cases hi : slotX xs m l 70 = 0
      · have hni : ¬ datB xs m (l.getD 10 0) = true := fun e => datB_ind_iff.1 e hi
        rw [if_neg (by rintro (a | a); exact h6 a; exact hni a)] at e
        unfold takX at e
        cases hf : freeR xs m with
        | none => rw [hf] at e; cases e
        | some b =>
          obtain ⟨f1, f2, f3, f4, f5⟩ := free_facts hv hf
          rw [hf] at e
          simp only [Option.map_some, Option.bind_some] at e
          unfold noK at e
          obtain ⟨a1, a2, a3, a4⟩ := ind_new hv hl12 o hi hf
          cases hf2 : freeR (takeV xs b) m with
          | none => rw [hf2] at e; cases e
          | some b2 =>
            rw [hf2] at e
            simp only [Option.map_some] at e
            obtain ⟨g1, g2, g3, g4, g5⟩ := free_facts a1.vol hf2
            have hd : datB (takeV (takeV xs b) b2) m ((l.set 10 b).getD 10 0) = true := by
              rw [datB_len (ys := takeV xs b) m _ (takeV_length _ _)]
              exact datB_ind_iff.2 (by rw [a2]; omega)
            unfold nameG at e
            rw [if_neg h6, if_pos hd] at e
            obtain rfl := Option.some.inj e
            have p := pla_high (k := k) a1.vol (by rw [List.length_set]; exact hl12) a1.own (by omega) hk (by rw [a3 k hk]; exact h0) (by rw [a2]; omega) hf2
            refine ⟨a1.trans p.mv, fun s hs => by rw [p.at_ s hs, a3 s hs], p.ne, ?_, fun i hi => (p.byte i hi).trans (a4 i hi), p.size.trans (getD_set_ne _ _ _ _ (by omega))⟩
            rw [p.ind, a2]
            exact ⟨fun _ => .inr (by omega), fun _ => .inr (by omega)⟩
      · have hni : datB xs m (l.getD 10 0) = true := datB_ind_iff.2 hi
        rw [if_pos (.inr hni)] at e
        simp only [Option.bind_some] at e
        unfold takX at e
        cases hf : freeR xs m with
        | none => rw [hf] at e; cases e
        | some b =>
          rw [hf] at e
          simp only [Option.map_some] at e
          unfold nameG at e
          rw [if_neg h6, if_pos (by rw [datB_len (ys := xs) m _ (takeV_length _ _)]; exact hni)] at e
          obtain rfl := Option.some.inj e
          exact pla_high hv hl12 o (by omega) hk h0 hi hf
end
end Go.Proofs.Ytjmafegckfijbaa
