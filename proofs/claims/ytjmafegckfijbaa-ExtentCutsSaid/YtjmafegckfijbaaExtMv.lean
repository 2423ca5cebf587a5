/-
  What becomes of a volume on which one file's blocks are moved (plain: no program in sight).
-/
import Derived.Test.YtjmafegckfijbaaExtPl
namespace Go.Proofs.Ytjmafegckfijbaa
set_option linter.unusedVariables false
set_option linter.unusedSimpArgs false
/-- is the block taken? -/
def bitV (xs : List ByteArray) (b : Nat) : Bool := bitL (blkL xs 2) b
/-- what a file has: the block of each k below 70, then the block of numbers; 0: none -/
def slotX (xs : List ByteArray) (m : Nat) (l : List Nat) (s : Nat) : Nat := if s < 70 then atX xs m l s else if datB xs m (l.getD 10 0) = true then l.getD 10 0 else 0
def cntS (xs : List ByteArray) (m : Nat) (l : List Nat) : Nat := ((List.range 71).filter fun s => slotX xs m l s != 0).length
/-- each block that a file has is taken, and it has it once -/
structure OwnS (xs : List ByteArray) (m : Nat) (l : List Nat) : Prop where
  used : ∀ s, s < 71 → slotX xs m l s ≠ 0 → bitV xs (slotX xs m l s) = true
  inj : ∀ s t, s < 71 → t < 71 → slotX xs m l s = slotX xs m l t → slotX xs m l s ≠ 0 → s = t
/-- no block is in both files -/
def ApartS (xs : List ByteArray) (m : Nat) (l k : List Nat) : Prop := ∀ s t, s < 71 → t < 71 → slotX xs m l s = slotX xs m k t → slotX xs m l s = 0
/-- one file's blocks are moved: nothing that is another's is touched -/
structure MvS (m : Nat) (xs : List ByteArray) (l : List Nat) (ys : List ByteArray) (l' : List Nat) : Prop where
  len : ys.length = xs.length
  vol : IsVol ys m
  low : ∀ j, j < dataN m → j ≠ 2 → blkL ys j = blkL xs j
  far : ∀ j, datB xs m j = true → bitV xs j = true → (∀ s, s < 71 → slotX xs m l s ≠ j) → blkL ys j = blkL xs j ∧ bitV ys j = true
  own : OwnS ys m l'
  src : ∀ s, s < 71 → slotX ys m l' s ≠ 0 → (∃ t, t < 71 ∧ slotX xs m l t = slotX ys m l' s) ∨ bitV xs (slotX ys m l' s) = false
  room : roomR xs + cntS xs m l = roomR ys + cntS ys m l'
  keep : ∀ i, i < 3 ∨ i = 11 → l'.getD i 0 = l.getD i 0
section
variable {xs ys zs : List ByteArray} {m : Nat} {l l' l'' k : List Nat} {s s0 b : Nat}
theorem slotX_lt (h : s < 70) : slotX xs m l s = atX xs m l s := by unfold slotX; rw [if_pos h]
theorem slotX_ind : slotX xs m l 70 = if datB xs m (l.getD 10 0) = true then l.getD 10 0 else 0 := by unfold slotX; rw [if_neg (by omega)]
theorem slotX_dat (h : slotX xs m l s ≠ 0) : datB xs m (slotX xs m l s) = true := by
  unfold slotX at h ⊢
  split at h
  · rename_i h1
    rw [if_pos h1]; exact atX_dat h
  · rename_i h1
    rw [if_neg h1]
    split at h
    · rename_i h2; rw [if_pos h2]; exact h2
    · exact absurd rfl h
theorem slot_ind_ne (h : slotX xs m l 70 ≠ 0) : datB xs m (l.getD 10 0) = true ∧ slotX xs m l 70 = l.getD 10 0 := by
  rw [slotX_ind] at h ⊢
  split at h
  · rename_i h2; exact ⟨h2, by rw [if_pos h2]⟩
  · exact absurd rfl h
theorem datB_ind_iff : datB xs m (l.getD 10 0) = true ↔ slotX xs m l 70 ≠ 0 := by
  constructor
  · intro h; rw [slotX_ind, if_pos h]; have := datB_pos h; omega
  · exact fun h => (slot_ind_ne h).1
theorem at_low (h : s < 6) : atX xs m l s = if datB xs m (l.getD (4 + s) 0) = true then l.getD (4 + s) 0 else 0 := by
  unfold atX rawX
  rw [if_pos h]
theorem at_hi0 (h : 6 ≤ s) (h0 : slotX xs m l 70 = 0) : atX xs m l s = 0 := by
  have : ¬ datB xs m (l.getD 10 0) = true := fun e => datB_ind_iff.1 e h0
  have e : rawX xs m l s = 0 := by
    unfold rawX
    rw [if_neg (by omega), if_neg this]
  unfold atX
  rw [e, datB_zero]
  rfl
theorem at_hi (h : 6 ≤ s) (h0 : slotX xs m l 70 ≠ 0) : atX xs m l s = if datB xs m (numAt (blkL xs (slotX xs m l 70)) (2 * (s - 6)) 2) = true then numAt (blkL xs (slotX xs m l 70)) (2 * (s - 6)) 2 else 0 := by
  obtain ⟨h1, h2⟩ := slot_ind_ne h0
  rw [h2]
  have e : rawX xs m l s = numAt (blkL xs (l.getD 10 0)) (2 * (s - 6)) 2 := by
    unfold rawX
    rw [if_neg (by omega), if_pos h1]
  unfold atX
  rw [e]
theorem bitV_dat (hv : IsVol xs m) (h : bitV xs b = true) : b < xs.length := by
  have hl := hv.len
  by_cases hb : b < xs.length
  · exact hb
  · exfalso
    by_cases h2 : b < 1024
    · have := ((bitsOk_iff.1 hv.2.2.2) b h2).2 (by omega)
      unfold bitV at h; rw [this] at h; cases h
    · unfold bitV bitL at h
      have hz := hv.blk 2 (by omega)
      rw [List.getD_eq_getElem?_getD, List.getElem?_eq_none (by omega)] at h
      simp at h
/-- two files one of which is moved -/
theorem MvS.other (h : MvS m xs l ys l') (o : OwnS xs m k) (ap : ApartS xs m l k) :
    (∀ s, s < 71 → slotX ys m k s = slotX xs m k s) ∧ OwnS ys m k ∧ ApartS ys m l' k ∧ (∀ s, s < 71 → slotX xs m k s ≠ 0 → blkL ys (slotX xs m k s) = blkL xs (slotX xs m k s)) := by
  have hb : ∀ s, s < 71 → slotX xs m k s ≠ 0 → blkL ys (slotX xs m k s) = blkL xs (slotX xs m k s) ∧ bitV ys (slotX xs m k s) = true := fun s hs h0 =>
    h.far _ (slotX_dat h0) (o.used s hs h0) (fun t ht e => h0 (by rw [← e]; exact ap t s ht hs e))
  have hd : ∀ j, datB ys m j = datB xs m j := fun j => datB_len m j h.len
  have h70 : slotX ys m k 70 = slotX xs m k 70 := by rw [slotX_ind, slotX_ind, hd]
  have hs : ∀ s, s < 71 → slotX ys m k s = slotX xs m k s := by
    intro s hs
    by_cases e : s = 70
    · rw [e]; exact h70
    · rw [slotX_lt (by omega), slotX_lt (by omega)]
      by_cases h6 : s < 6
      · rw [at_low h6, at_low h6, hd]
      · by_cases h0 : slotX xs m k 70 = 0
        · rw [at_hi0 (by omega) h0, at_hi0 (by omega) (by rw [h70]; exact h0)]
        · rw [at_hi (by omega) h0, at_hi (by omega) (by rw [h70]; exact h0), h70, (hb 70 (by omega) h0).1, hd]
  refine ⟨hs, ⟨fun s h1 h0 => ?_, fun s t h1 h2 e h0 => ?_⟩, fun s t h1 h2 e => ?_, fun s h1 h0 => (hb s h1 h0).1⟩
  · rw [hs s h1] at h0 ⊢; exact (hb s h1 h0).2
  · rw [hs s h1] at h0 e; rw [hs t h2] at e; exact o.inj s t h1 h2 e h0
  · rw [hs t h2] at e
    by_cases h0 : slotX ys m l' s = 0
    · exact h0
    · exfalso
      rcases h.src s h1 h0 with ⟨u, hu, eu⟩ | hf
      · have := ap u t hu h2 (eu.trans e)
        rw [eu] at this; exact h0 this
      · rw [e] at hf h0
        rw [o.used t h2 h0] at hf; cases hf
theorem MvS.trans (h : MvS m xs l ys l') (g : MvS m ys l' zs l'') : MvS m xs l zs l'' := by
  have hd : ∀ j, datB ys m j = datB xs m j := fun j => datB_len m j h.len
  have hd2 : ∀ j, datB zs m j = datB xs m j := fun j => datB_len m j (g.len.trans h.len)
  have key : ∀ j, datB xs m j = true → bitV xs j = true → (∀ s, s < 71 → slotX xs m l s ≠ j) → (∀ s, s < 71 → slotX ys m l' s ≠ j) := by
    intro j h1 h2 h3 s hs e
    have h0 : slotX ys m l' s ≠ 0 := by rw [e]; have := datB_pos h1; omega
    rcases h.src s hs h0 with ⟨t, ht, et⟩ | hf
    · exact h3 t ht (et.trans e)
    · rw [e, h2] at hf; cases hf
  refine ⟨g.len.trans h.len, g.vol, fun j h1 h2 => (g.low j h1 h2).trans (h.low j h1 h2), fun j h1 h2 h3 => ?_, g.own, fun s hs h0 => ?_, h.room.trans g.room, fun i hi => (g.keep i hi).trans (h.keep i hi)⟩
  · obtain ⟨a, b⟩ := h.far j h1 h2 h3
    obtain ⟨c, d⟩ := g.far j ((hd j).trans h1) b (key j h1 h2 h3)
    exact ⟨c.trans a, d⟩
  · have h0d : datB xs m (slotX zs m l'' s) = true := by rw [← hd2]; exact slotX_dat h0
    rcases g.src s hs h0 with ⟨t, ht, et⟩ | hf
    · rw [← et] at h0 ⊢
      exact h.src t ht h0
    · by_cases hs2 : ∃ t, t < 71 ∧ slotX xs m l t = slotX zs m l'' s
      · exact .inl hs2
      · refine .inr ?_
        cases hb : bitV xs (slotX zs m l'' s) with
        | false => rfl
        | true =>
          have := (h.far _ h0d hb (fun t ht e => hs2 ⟨t, ht, e⟩)).2
          rw [this] at hf; cases hf
theorem filt_upd (p q : Nat → Bool) (s0 : Nat) (hp : p s0 = false) (hq : q s0 = true) : ∀ n, s0 < n → (∀ s, s < n → s ≠ s0 → q s = p s) → ((List.range n).filter q).length = ((List.range n).filter p).length + 1
  | 0, h, _ => absurd h (by omega)
  | n + 1, h, hs => by
    rw [List.range_succ, List.filter_append, List.filter_append, List.length_append, List.length_append]
    by_cases e : s0 = n
    · subst e
      have : (List.range s0).filter q = (List.range s0).filter p := List.filter_congr (fun s hm => by
        have := List.mem_range.1 hm
        exact hs s (by omega) (by omega))
      rw [this]
      simp [hp, hq]
    · have e2 : ¬ n = s0 := fun h => e h.symm
      rw [filt_upd p q s0 hp hq n (by omega) (fun s h1 h2 => hs s (by omega) h2)]
      have := hs n (by omega) e2
      simp only [List.filter_cons, List.filter_nil, this]
      omega
theorem cntS_congr (h : ∀ s, s < 71 → slotX ys m l' s = slotX xs m l s) : cntS ys m l' = cntS xs m l := by
  unfold cntS
  congr 1
  exact List.filter_congr (fun s hm => by rw [h s (List.mem_range.1 hm)])
theorem cntS_up (hs0 : s0 < 71) (h0 : slotX xs m l s0 = 0) (h1 : slotX ys m l' s0 ≠ 0) (h : ∀ s, s < 71 → s ≠ s0 → slotX ys m l' s = slotX xs m l s) : cntS ys m l' = cntS xs m l + 1 := by
  unfold cntS
  refine filt_upd _ _ s0 (by simp [h0]) (by simpa using h1) 71 hs0 (fun s a b => by rw [h s a b])
theorem room_bits (hv : IsVol xs m) (hv' : IsVol ys m) (hl : ys.length = xs.length) (h2 : blkL ys 2 = blkL xs 2) : roomR ys = roomR xs := by rw [room_vol hv, room_vol hv', hl, h2]
/-- a block is taken, and the slot s0 has it -/
theorem MvS.take (hv : IsVol xs m) (o : OwnS xs m l) (hf : freeR xs m = some b) (hs0 : s0 < 71) (h0 : slotX xs m l s0 = 0) (hl : ys.length = xs.length) (hv' : IsVol ys m)
    (h2 : blkL ys 2 = blkL (takeV xs b) 2) (hs : ∀ s, s < 71 → slotX ys m l' s = if s = s0 then b else slotX xs m l s)
    (hblk : ∀ j, j ≠ 2 → j ≠ b → (datB xs m j = true → ∀ s, s < 71 → slotX xs m l s ≠ j) → blkL ys j = blkL xs j) (hk : ∀ i, i < 3 ∨ i = 11 → l'.getD i 0 = l.getD i 0) : MvS m xs l ys l' := by
  have hlen := hv.len
  obtain ⟨f1, f2, f3, f4⟩ := (freeR_some (by omega)).1 hf
  have hbit : ∀ j, bitV ys j = (bitV xs j || decide (j = b)) := fun j => by unfold bitV; rw [h2]; exact bit_take hv hf
  have hb0 : b ≠ 0 := by omega
  have hnb : ∀ s, s < 71 → slotX xs m l s ≠ b := fun s h1 e => by
    have := o.used s h1 (by rw [e]; exact hb0)
    rw [e] at this; unfold bitV at this; rw [f3] at this; cases this
  refine ⟨hl, hv', fun j h1 h2 => ?_, fun j h1 h2 h3 => ?_, ⟨fun s h1 hz => ?_, fun s t h1 h2 e hz => ?_⟩, fun s h1 hz => ?_, ?_, hk⟩
  · refine hblk j h2 (by omega) (fun hd => ?_)
    have := (datB_iff.1 hd).1; omega
  · have hjb : j ≠ b := fun e => by rw [e] at h2; unfold bitV at h2; rw [f3] at h2; cases h2
    have := datB_pos h1
    exact ⟨hblk j (by omega) hjb (fun _ => h3), by rw [hbit, h2]; rfl⟩
  · rw [hs s h1] at hz ⊢
    rw [hbit]
    by_cases e : s = s0
    · rw [if_pos e]; simp
    · rw [if_neg e] at hz ⊢; rw [o.used s h1 hz]; rfl
  · rw [hs s h1] at e hz; rw [hs t h2] at e
    by_cases e1 : s = s0
    · rw [if_pos e1] at e
      by_cases e2 : t = s0
      · rw [e1, e2]
      · rw [if_neg e2] at e; exact absurd e.symm (hnb t h2)
    · rw [if_neg e1] at e hz
      by_cases e2 : t = s0
      · rw [if_pos e2] at e; exact absurd e (hnb s h1)
      · rw [if_neg e2] at e; exact o.inj s t h1 h2 e hz
  · rw [hs s h1] at hz ⊢
    by_cases e : s = s0
    · rw [if_pos e]; exact .inr (by unfold bitV; exact f3)
    · rw [if_neg e]; exact .inl ⟨s, h1, rfl⟩
  · have e1 : cntS ys m l' = cntS xs m l + 1 := cntS_up hs0 h0 (by rw [hs s0 hs0, if_pos rfl]; exact hb0) (fun s a c => by rw [hs s a, if_neg c])
    have e2 : roomR ys = roomR (takeV xs b) := room_bits (hv.take f1 f2) hv' (by rw [hl, takeV_length]) h2
    have := room_take hv hf
    omega
/-- a block is given back, and the slot s0 has none -/
theorem MvS.give (hv : IsVol xs m) (o : OwnS xs m l) (hs0 : s0 < 71) (hz0 : slotX xs m l s0 = b) (hb0 : b ≠ 0) (hl : ys.length = xs.length) (hv' : IsVol ys m)
    (h2 : blkL ys 2 = blkL (turnV xs b) 2) (hs : ∀ s, s < 71 → slotX ys m l' s = if s = s0 then 0 else slotX xs m l s)
    (hblk : ∀ j, j ≠ 2 → (datB xs m j = true → ∀ s, s < 71 → slotX xs m l s ≠ j) → blkL ys j = blkL xs j) (hk : ∀ i, i < 3 ∨ i = 11 → l'.getD i 0 = l.getD i 0) : MvS m xs l ys l' := by
  have hlen := hv.len
  have hbd : datB xs m b = true := by rw [← hz0]; exact slotX_dat (by rw [hz0]; exact hb0)
  have hbt : bitV xs b = true := by rw [← hz0]; exact o.used s0 hs0 (by rw [hz0]; exact hb0)
  obtain ⟨d1, d2⟩ := datB_iff.1 hbd
  have hbit : ∀ j, bitV ys j = (bitV xs j != decide (b = j)) := fun j => by
    unfold bitV
    rw [h2, turnV_map (by omega), bitL_turn _ _ _ (by rw [hv.blk 2 (by omega)]; omega)]
  have hne : ∀ s, s < 71 → s ≠ s0 → slotX xs m l s ≠ 0 → slotX xs m l s ≠ b := fun s h1 hn hz e => hn (o.inj s s0 h1 hs0 (e.trans hz0.symm) hz)
  refine ⟨hl, hv', fun j h1 h2 => ?_, fun j h1 h2 h3 => ?_, ⟨fun s h1 hz => ?_, fun s t h1 h2 e hz => ?_⟩, fun s h1 hz => ?_, ?_, hk⟩
  · refine hblk j h2 (fun hd => ?_)
    have := (datB_iff.1 hd).1; omega
  · have hjb : b ≠ j := fun e => h3 s0 hs0 (hz0.trans e)
    have := datB_pos h1
    exact ⟨hblk j (by omega) (fun _ => h3), by rw [hbit, h2]; simp [hjb]⟩
  · rw [hs s h1] at hz ⊢
    by_cases e : s = s0
    · rw [if_pos e] at hz; exact absurd rfl hz
    · rw [if_neg e] at hz ⊢
      rw [hbit, o.used s h1 hz]
      have := hne s h1 e hz
      simp [Ne.symm this]
  · rw [hs s h1] at e hz; rw [hs t h2] at e
    by_cases e1 : s = s0
    · rw [if_pos e1] at hz; exact absurd rfl hz
    · rw [if_neg e1] at e hz
      by_cases e2 : t = s0
      · rw [if_pos e2] at e; exact absurd e hz
      · rw [if_neg e2] at e; exact o.inj s t h1 h2 e hz
  · rw [hs s h1] at hz ⊢
    by_cases e : s = s0
    · rw [if_pos e] at hz; exact absurd rfl hz
    · rw [if_neg e]; exact .inl ⟨s, h1, rfl⟩
  · have e1 : cntS xs m l = cntS ys m l' + 1 := cntS_up hs0 (by rw [hs s0 hs0, if_pos rfl]) (by rw [hz0]; exact hb0) (fun s a c => by rw [hs s a, if_neg c])
    have e2 : roomR ys = roomR (turnV xs b) := room_bits (hv.turn d1 d2) hv' (by rw [hl, turnV_length]) h2
    have := room_give hv d1 d2 hbt
    omega
/-- bytes alone are other ones -/
theorem MvS.stay (hv : IsVol xs m) (o : OwnS xs m l) (hl : ys.length = xs.length) (hv' : IsVol ys m) (h2 : blkL ys 2 = blkL xs 2) (hs : ∀ s, s < 71 → slotX ys m l' s = slotX xs m l s)
    (hblk : ∀ j, j ≠ 2 → (datB xs m j = true → ∀ s, s < 71 → slotX xs m l s ≠ j) → blkL ys j = blkL xs j) (hk : ∀ i, i < 3 ∨ i = 11 → l'.getD i 0 = l.getD i 0) : MvS m xs l ys l' := by
  have hbit : ∀ j, bitV ys j = bitV xs j := fun j => by unfold bitV; rw [h2]
  refine ⟨hl, hv', fun j h1 h2 => ?_, fun j h1 h2 h3 => ?_, ⟨fun s h1 hz => ?_, fun s t h1 h2 e hz => ?_⟩, fun s h1 hz => ?_, ?_, hk⟩
  · refine hblk j h2 (fun hd => ?_)
    have := (datB_iff.1 hd).1; omega
  · have := datB_pos h1
    exact ⟨hblk j (by omega) (fun _ => h3), by rw [hbit, h2]⟩
  · rw [hs s h1] at hz ⊢; rw [hbit]; exact o.used s h1 hz
  · rw [hs s h1] at e hz; rw [hs t h2] at e; exact o.inj s t h1 h2 e hz
  · rw [hs s h1]; exact .inl ⟨s, h1, rfl⟩
  · rw [cntS_congr hs, room_bits hv hv' hl h2]
theorem MvS.refl (hv : IsVol xs m) (o : OwnS xs m l) : MvS m xs l xs l := .stay hv o rfl hv rfl (fun _ _ => rfl) (fun _ _ _ => rfl) (fun _ _ => rfl)
end
end Go.Proofs.Ytjmafegckfijbaa
