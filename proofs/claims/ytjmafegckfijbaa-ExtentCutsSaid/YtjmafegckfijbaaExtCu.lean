/-
  What a cut makes of a file's blocks and bytes; what holds behind each write and each cut (plain: no program in sight).
-/
import Derived.Test.YtjmafegckfijbaaExtWr
namespace Go.Proofs.Ytjmafegckfijbaa
set_option linter.unusedVariables false
set_option linter.unusedSimpArgs false
section
variable {xs ys zs : List ByteArray} {m len : Nat} {l l' l'' : List Nat} {s s0 b k off size : Nat} {d : List UInt8}
theorem giveV_nil (xs : List ByteArray) (m : Nat) : giveV xs m 0 = xs := by
  unfold giveV
  rw [if_neg (by rw [datB_zero]; simp)]
theorem giveV_own (o : OwnS xs m l) (hs : s < 71) (h0 : slotX xs m l s ≠ 0) : giveV xs m (slotX xs m l s) = turnV xs (slotX xs m l s) := by
  unfold giveV
  rw [if_pos ⟨slotX_dat h0, o.used s hs h0⟩]
theorem giveV_blk (xs : List ByteArray) (m b j : Nat) (h : j ≠ 2) : blkL (giveV xs m b) j = blkL xs j := by
  unfold giveV
  split
  · exact turnV_blk _ _ _ h
  · rfl
theorem giveV_ind (xs : List ByteArray) (m : Nat) (l : List Nat) : giveV xs m (l.getD 10 0) = giveV xs m (slotX xs m l 70) := by
  rw [slotX_ind]
  by_cases h : datB xs m (l.getD 10 0) = true
  · rw [if_pos h]
  · rw [if_neg h, giveV_nil]
    unfold giveV
    rw [if_neg (fun g => h g.1)]
/-- the slot s0 goes -/
theorem drop_fin (hv : IsVol xs m) (o : OwnS xs m l) (hs0 : s0 < 71) (hl : zs.length = xs.length) (hv' : IsVol zs m) (h2 : blkL zs 2 = blkL (giveV xs m (slotX xs m l s0)) 2)
    (hs : ∀ s, s < 71 → slotX zs m l' s = if s = s0 then 0 else slotX xs m l s) (hblk : ∀ j, j ≠ 2 → (slotX xs m l 70 ≠ 0 → j ≠ slotX xs m l 70) → blkL zs j = blkL xs j) (hk : ∀ i, i < 3 ∨ i = 11 → l'.getD i 0 = l.getD i 0) :
    MvS m xs l zs l' ∧ (∀ i, i < 8960 → byteX zs m l' i = if i / 128 = s0 then 0 else byteX xs m l i) := by
  have hb : ∀ j, j ≠ 2 → (datB xs m j = true → ∀ s, s < 71 → slotX xs m l s ≠ j) → blkL zs j = blkL xs j := fun j h1 h3 => hblk j h1 (fun h4 e => h3 (by rw [e]; exact slotX_dat h4) 70 (by omega) e.symm)
  refine ⟨?_, fun i hi => ?_⟩
  · by_cases h0 : slotX xs m l s0 = 0
    · rw [h0, giveV_nil] at h2
      refine .stay hv o hl hv' h2 (fun s h1 => ?_) hb hk
      rw [hs s h1]
      by_cases e : s = s0
      · rw [if_pos e, e, h0]
      · rw [if_neg e]
    · rw [giveV_own o hs0 h0] at h2
      exact .give hv o hs0 rfl h0 hl hv' h2 hs hb hk
  · have h70 : i / 128 < 70 := by omega
    have e := hs (i / 128) (by omega)
    rw [slotX_lt h70, slotX_lt h70] at e
    unfold byteX
    rw [e]
    by_cases ek : i / 128 = s0
    · rw [if_pos ek, if_pos rfl, if_pos ek]
    · rw [if_neg ek, if_neg ek]
      by_cases hz : atX xs m l (i / 128) = 0
      · rw [if_pos hz, if_pos hz]
      · rw [if_neg hz, if_neg hz, hblk]
        · have := datB_pos (atX_dat hz); omega
        · intro h3 e2
          have := o.inj (i / 128) 70 (by omega) (by omega) (by rw [slotX_lt h70]; exact e2) (by rw [slotX_lt h70]; exact hz)
          omega
/-- what comes of dropped blocks -/
structure DroS (m : Nat) (xs : List ByteArray) (l : List Nat) (p : Nat → Prop) [DecidablePred p] (r : List ByteArray × List Nat) : Prop where
  ok : OkS xs.length m r
  mv : MvS m xs l r.1 r.2
  slot : ∀ s, s < 71 → slotX r.1 m r.2 s = if p s then 0 else slotX xs m l s
  byte : ∀ i, i < 8960 → byteX r.1 m r.2 i = if p (i / 128) then 0 else byteX xs m l i
  size : r.2.getD 3 0 = l.getD 3 0
theorem drop_mv (h : OkS xs.length m (xs, l)) (o : OwnS xs m l) (hk : k < 70) : DroS m xs l (fun s => s = k) (dropK noK m k (xs, l)) := by
  have hv : IsVol xs m := h.vol
  have hl12 : l.length = 12 := h.fit.1
  have hok := dropK_ok (noK_ok m) h hk
  have hsk : slotX xs m l k = atX xs m l k := slotX_lt hk
  obtain ⟨gv, gl⟩ := giveV_ok hv (atX xs m l k)
  unfold dropK nameG noK at hok ⊢
  by_cases h6 : k < 6
  · rw [if_pos h6] at hok ⊢
    have hd : ∀ j, datB (giveV xs m (atX xs m l k)) m j = datB xs m j := fun j => datB_len m j gl
    have h10 : (l.set (4 + k) 0).getD 10 0 = l.getD 10 0 := getD_set_ne _ _ _ _ (by omega)
    have hs : ∀ s, s < 71 → slotX (giveV xs m (atX xs m l k)) m (l.set (4 + k) 0) s = if s = k then 0 else slotX xs m l s := by
      intro s hs
      by_cases h6s : s < 6
      · rw [slotX_lt (by omega), slotX_lt (by omega), at_low h6s, at_low h6s, hd, getD_set _ _ _ _ _ (by omega)]
        by_cases e : s = k
        · rw [if_pos (show 4 + k = 4 + s by omega), if_pos e]
          split <;> rfl
        · rw [if_neg (show ¬ 4 + k = 4 + s by omega), if_neg e]
      · rw [if_neg (by omega)]
        exact slots_by gl h10 (fun h => giveV_blk _ _ _ _ (slot_ne2 hv h)) (by omega) hs
    obtain ⟨a, c⟩ := drop_fin (s0 := k) hv o (by omega) gl gv (by rw [hsk]) hs (fun j h1 _ => giveV_blk _ _ _ _ h1) (fun i hi => getD_set_ne l _ _ _ (by omega))
    exact ⟨hok, a, hs, c, getD_set_ne _ _ _ _ (by omega)⟩
  · rw [if_neg h6] at hok ⊢
    by_cases hi : datB (giveV xs m (atX xs m l k)) m (l.getD 10 0) = true
    · rw [if_pos hi] at hok ⊢
      have hid : datB xs m (l.getD 10 0) = true := by rw [← datB_len m _ gl]; exact hi
      have hi70 : slotX xs m l 70 ≠ 0 := datB_ind_iff.1 hid
      obtain ⟨_, i2⟩ := slot_ind_ne hi70
      have hin2 := slot_ne2 hv hi70
      rw [i2] at hin2
      have hll : (layX (giveV xs m (atX xs m l k)) (l.getD 10 0) (2 * (k - 6)) (putL 0 2)).length = xs.length := by rw [layX_length, gl]
      have hd : ∀ j, datB (layX (giveV xs m (atX xs m l k)) (l.getD 10 0) (2 * (k - 6)) (putL 0 2)) m j = datB xs m j := fun j => datB_len m j hll
      have hbl : ∀ j, blkL (layX (giveV xs m (atX xs m l k)) (l.getD 10 0) (2 * (k - 6)) (putL 0 2)) j = if l.getD 10 0 = j then splL (blkL (giveV xs m (atX xs m l k)) (l.getD 10 0)) (2 * (k - 6)) (putL 0 2) else blkL (giveV xs m (atX xs m l k)) j := fun j => layX_spl _ _ _ (datB_iff.1 hi).2 j
      have h128 : (blkL xs (l.getD 10 0)).length = 128 := hv.blk _ (datB_iff.1 hid).2
      have h70 : slotX (layX (giveV xs m (atX xs m l k)) (l.getD 10 0) (2 * (k - 6)) (putL 0 2)) m l 70 = l.getD 10 0 := by rw [slotX_ind, hd, ← slotX_ind, i2]
      have h70n : l.getD 10 0 ≠ 0 := by rw [← i2]; exact hi70
      have hs : ∀ s, s < 71 → slotX (layX (giveV xs m (atX xs m l k)) (l.getD 10 0) (2 * (k - 6)) (putL 0 2)) m l s = if s = k then 0 else slotX xs m l s := by
        intro s hs
        by_cases h6s : s < 6
        · rw [if_neg (by omega), slotX_lt (by omega), slotX_lt (by omega), at_low h6s, at_low h6s, hd]
        · by_cases e : s = 70
          · rw [if_neg (by omega), e, h70, i2]
          · rw [slotX_lt (by omega), slotX_lt (by omega), at_hi (by omega) (by rw [h70]; exact h70n), h70, hbl, if_pos rfl, giveV_blk _ _ _ _ hin2, hd]
            by_cases e2 : s = k
            · rw [if_pos e2, e2, numAt_spl_same (by omega) (by omega)]
              split <;> rfl
            · rw [if_neg e2, numAt_spl_other (by rw [putL_length]; omega) (by rw [putL_length]; omega), at_hi (by omega) hi70, i2]
      obtain ⟨a, c⟩ := drop_fin (s0 := k) hv o (by omega) hll hok.vol (by rw [hbl, if_neg hin2, hsk]) hs (fun j h1 h3 => by
        rw [hbl, if_neg (fun e => h3 hi70 (by rw [i2]; exact e.symm)), giveV_blk _ _ _ _ h1]) (fun _ _ => rfl)
      exact ⟨hok, a, hs, c, rfl⟩
    · rw [if_neg hi] at hok ⊢
      have h70 : slotX xs m l 70 = 0 := by
        refine Classical.not_not.1 (fun h => hi ?_)
        rw [datB_len m _ gl]; exact datB_ind_iff.2 h
      have hz : atX xs m l k = 0 := at_hi0 (by omega) h70
      rw [hz, giveV_nil] at hok ⊢
      have hs : ∀ s, s < 71 → slotX xs m l s = if s = k then 0 else slotX xs m l s := fun s hs => by
        by_cases e : s = k
        · rw [if_pos e, e, hsk, hz]
        · rw [if_neg e]
      obtain ⟨a, c⟩ := drop_fin (s0 := k) (l' := l) hv o (by omega) rfl hv (by rw [hsk, hz, giveV_nil]) hs (fun _ _ _ => rfl) (fun _ _ => rfl)
      exact ⟨hok, a, hs, c, rfl⟩
theorem dropN_mv (h : OkS xs.length m (xs, l)) (o : OwnS xs m l) : ∀ j, k + j ≤ 70 → DroS m xs l (fun s => k ≤ s ∧ s < k + j) (dropN noK m k (xs, l) j)
  | 0, _ => ⟨h, .refl h.vol o, fun s _ => by rw [if_neg (by omega)]; rfl, fun i _ => by rw [if_neg (by omega)]; rfl, rfl⟩
  | j + 1, hj => by
    have p := dropN_mv h o j (by omega)
    rw [dropN]
    generalize dropN noK m k (xs, l) j = q at p ⊢
    obtain ⟨qx, ql⟩ := q
    have ok : OkS qx.length m (qx, ql) := ⟨p.ok.vol, rfl, p.ok.fit⟩
    have a := drop_mv ok p.mv.own (k := k + j) (by omega)
    refine ⟨⟨a.ok.vol, a.ok.len.trans p.mv.len, a.ok.fit⟩, p.mv.trans a.mv, fun s hs => ?_, fun i hi => ?_, a.size.trans p.size⟩
    · rw [a.slot s hs]
      by_cases e : s = k + j
      · rw [if_pos e, if_pos (by omega)]
      · rw [if_neg e, p.slot s hs]
        by_cases h2 : k ≤ s ∧ s < k + j
        · rw [if_pos h2, if_pos (by omega)]
        · rw [if_neg h2, if_neg (by omega)]
    · rw [a.byte i hi]
      by_cases e : i / 128 = k + j
      · rw [if_pos e, if_pos (by omega)]
      · rw [if_neg e, p.byte i hi]
        by_cases h2 : k ≤ i / 128 ∧ i / 128 < k + j
        · rw [if_pos h2, if_pos (by omega)]
        · rw [if_neg h2, if_neg (by omega)]
theorem dropI_mv (h : OkS xs.length m (xs, l)) (o : OwnS xs m l) (hs : size ≤ 768 → ∀ s, 6 ≤ s → s < 70 → atX xs m l s = 0) : DroS m xs l (fun s => size ≤ 768 ∧ s = 70) (dropI noK m size (xs, l)) := by
  have hv : IsVol xs m := h.vol
  have hl12 : l.length = 12 := h.fit.1
  have hok := dropI_ok (noK_ok m) h size
  unfold dropI noK at hok ⊢
  by_cases hc : size ≤ 768
  · rw [if_pos hc] at hok ⊢
    simp only at hok ⊢
    obtain ⟨gv, gl⟩ := giveV_ok hv (l.getD 10 0)
    have hd : ∀ j, datB (giveV xs m (l.getD 10 0)) m j = datB xs m j := fun j => datB_len m j gl
    have h70 : slotX (giveV xs m (l.getD 10 0)) m (l.set 10 0) 70 = 0 := by
      rw [slotX_ind, getD_set _ _ _ _ _ (by omega), if_pos rfl]
      split <;> rfl
    have hs' : ∀ s, s < 71 → slotX (giveV xs m (l.getD 10 0)) m (l.set 10 0) s = if s = 70 then 0 else slotX xs m l s := by
      intro s h1
      by_cases e : s = 70
      · rw [if_pos e, e, h70]
      · rw [if_neg e, slotX_lt (by omega), slotX_lt (by omega)]
        by_cases h6 : s < 6
        · rw [at_low h6, at_low h6, hd, getD_set_ne _ _ _ _ (by omega)]
        · rw [at_hi0 (by omega) h70, hs hc s (by omega) (by omega)]
    obtain ⟨a, c⟩ := drop_fin (s0 := 70) hv o (by omega) gl gv (by rw [giveV_ind]) hs' (fun j h1 _ => giveV_blk _ _ _ _ h1) (fun i hi => getD_set_ne l _ _ _ (by omega))
    refine ⟨hok, a, fun s h1 => ?_, fun i hi => ?_, getD_set_ne _ _ _ _ (by omega)⟩
    · show slotX (giveV xs m (l.getD 10 0)) m (l.set 10 0) s = _
      rw [hs' s h1]; simp only [hc, true_and]
    · show byteX (giveV xs m (l.getD 10 0)) m (l.set 10 0) i = _
      rw [c i hi]; simp only [hc, true_and]
  · rw [if_neg hc] at hok ⊢
    exact ⟨hok, .refl hv o, fun s _ => by simp only [hc, false_and, if_false], fun i _ => by simp only [hc, false_and, if_false], rfl⟩
/-- a file by itself: its blocks are its own, zeros stand behind its end, and no blocks -/
structure GoodF (xs : List ByteArray) (m : Nat) (l : List Nat) : Prop where
  ok : OkS xs.length m (xs, l)
  own : OwnS xs m l
  ext : l.getD 11 0 = 0
  zero : ∀ i, sizeX l ≤ i → i < 8960 → byteX xs m l i = 0
  past : ∀ s, needN (sizeX l) ≤ s → s < 70 → atX xs m l s = 0
  big : slotX xs m l 70 ≠ 0 → 768 < sizeX l
theorem WroS.good (g : GoodF xs m l) (hl : off + d.length ≤ 8960) {r : List ByteArray × List Nat} (h : WroS m off d xs l r) : GoodF r.1 m r.2 := by
  refine ⟨⟨h.ok.vol, rfl, h.ok.fit⟩, h.mv.own, (h.mv.keep 11 (.inr rfl)).trans g.ext, fun i h1 h2 => ?_, fun s h1 h2 => ?_, fun h1 => ?_⟩
  · rw [h.size] at h1
    rw [h.byte i h2]
    unfold wrF
    by_cases hd : d = []
    · rw [if_pos hd] at h1
      rw [if_neg (by rw [hd]; simp), g.zero i h1 h2]
    · rw [if_neg hd] at h1
      rw [if_neg (by omega), g.zero i (by omega) h2]
  · rw [h.size] at h1
    refine Classical.not_not.1 (fun h0 => ?_)
    rcases (h.at_ s h2).1 h0 with ho | ⟨hd, h3, h4⟩
    · refine ho (g.past s ?_ h2)
      split at h1
      · exact h1
      · unfold needN at h1 ⊢; omega
    · rw [if_neg hd] at h1
      unfold needN at h1
      have : d.length ≠ 0 := by simpa using hd
      omega
  · rw [h.size]
    rcases h.ind.1 h1 with ho | ⟨hd, h3⟩
    · have := g.big ho
      split <;> omega
    · rw [if_neg hd]; omega
/-- what comes of a cut -/
structure CutS (m size : Nat) (xs : List ByteArray) (l : List Nat) (r : List ByteArray × List Nat) : Prop where
  ok : OkS xs.length m r
  mv : MvS m xs l r.1 r.2
  at_ : ∀ s, s < 70 → atX r.1 m r.2 s = if s < needN size then atX xs m l s else 0
  ind : slotX r.1 m r.2 70 ≠ 0 → slotX xs m l 70 ≠ 0 ∧ 768 < size
  byte : ∀ i, i < 8960 → byteX r.1 m r.2 i = if i < size then byteX xs m l i else 0
  size : sizeX r.2 = size
theorem cutG_mv (g : GoodF xs m l) (hs : size ≤ 8960) : CutS m size xs l (cutG noK xs m l size) := by
  have hv : IsVol xs m := g.ok.vol
  have hl12 : l.length = 12 := g.ok.fit.1
  have hn := needN_le hs
  have hok := cutG_ok (noK_ok m) g.ok hs
  have h0 : OkS xs.length m (xs, l.set 3 size) := ⟨hv, rfl, g.ok.fit.size (by omega)⟩
  have m0 := size_mv hv g.own size
  have hz0 : sizeX (l.set 3 size) = size := by rw [sizeX_set hl12]; omega
  unfold cutG at hok ⊢
  unfold noK at hok ⊢
  by_cases hc : size < sizeX l
  · rw [if_pos hc] at hok ⊢
    unfold shortG at hok ⊢
    have a := dropN_mv h0 m0.own (k := needN size) (70 - needN size) (by omega)
    have hsz := a.size
    revert hok a hsz
    change OkS xs.length m (tailZ m size (dropI noK m size (dropN noK m (needN size) (xs, l.set 3 size) (70 - needN size)))) → DroS m xs (l.set 3 size) (fun s => needN size ≤ s ∧ s < needN size + (70 - needN size)) (dropN noK m (needN size) (xs, l.set 3 size) (70 - needN size)) → (dropN noK m (needN size) (xs, l.set 3 size) (70 - needN size)).2.getD 3 0 = (l.set 3 size).getD 3 0 → CutS m size xs l (tailZ m size (dropI noK m size (dropN noK m (needN size) (xs, l.set 3 size) (70 - needN size))))
    generalize dropN noK m (needN size) (xs, l.set 3 size) (70 - needN size) = q
    obtain ⟨qx, ql⟩ := q
    intro hok a hsz
    have okq : OkS qx.length m (qx, ql) := ⟨a.ok.vol, rfl, a.ok.fit⟩
    have atq : ∀ s, s < 70 → atX qx m ql s = if s < needN size then atX xs m l s else 0 := fun s h1 => by
      have := a.slot s (by omega)
      rw [slotX_lt h1, slotX_lt h1, atX_size] at this
      rw [this]
      by_cases e : s < needN size
      · rw [if_neg (by omega), if_pos e]
      · rw [if_pos (by omega), if_neg e]
    have c := dropI_mv (size := size) okq a.mv.own (fun h1 s h2 h3 => by
      rw [atq s h3, if_neg]
      unfold needN; omega)
    have hsz2 := c.size
    revert hok c hsz2
    generalize dropI noK m size (qx, ql) = t
    obtain ⟨tx, tl⟩ := t
    intro hok c hsz2
    have att : ∀ s, s < 70 → atX tx m tl s = if s < needN size then atX xs m l s else 0 := fun s h1 => by
      have := c.slot s (by omega)
      rw [slotX_lt h1, slotX_lt h1, if_neg (by omega)] at this
      rw [this, atq s h1]
    have indt : slotX tx m tl 70 ≠ 0 → slotX xs m l 70 ≠ 0 ∧ 768 < size := fun h1 => by
      rw [c.slot 70 (by omega)] at h1
      by_cases e : size ≤ 768
      · rw [if_pos ⟨e, rfl⟩] at h1; exact absurd rfl h1
      · rw [if_neg (fun h => e h.1), a.slot 70 (by omega), if_neg (by omega), slotX_size] at h1
        exact ⟨h1, by omega⟩
    have byt : ∀ i, i < 8960 → byteX tx m tl i = if i / 128 < needN size then byteX xs m l i else 0 := fun i hi => by
      rw [c.byte i hi, if_neg (by omega), a.byte i hi, byteX_size]
      by_cases e : i / 128 < needN size
      · rw [if_neg (by omega), if_pos e]
      · rw [if_pos (by omega), if_neg e]
    have szt : sizeX tl = size := by
      have e1 : tl.getD 3 0 = (l.set 3 size).getD 3 0 := hsz2.trans hsz
      unfold sizeX at hz0 ⊢
      rw [e1]; exact hz0
    have mvt : MvS m xs l tx tl := m0.trans (a.mv.trans c.mv)
    unfold tailZ at hok ⊢
    by_cases ht : size % 128 ≠ 0 ∧ atX (tx, tl).1 m (tx, tl).2 (size / 128) ≠ 0
    · rw [if_pos ht] at hok ⊢
      have h1 : size / 128 < 70 := by
        refine Classical.not_not.1 (fun h => ?_)
        have : size = 8960 := by omega
        rw [this] at ht
        exact ht.1 rfl
      obtain ⟨c1, c2, c3⟩ := lay_mv (d := List.replicate (128 - size % 128) 0) mvt.vol mvt.own h1 (rfl : atX tx m tl (size / 128) = _) ht.2 (p := size % 128) (by rw [List.length_replicate]; omega)
      refine ⟨hok, mvt.trans c1, fun s h1 => ?_, fun h1 => ?_, fun i hi => ?_, szt⟩
      · have := c2 s (by omega)
        rw [slotX_lt h1, slotX_lt h1] at this
        exact this.trans (att s h1)
      · rw [show slotX _ m _ 70 = slotX tx m tl 70 from c2 70 (by omega)] at h1
        exact indt h1
      · refine (c3 i hi).trans ?_
        rw [byt i hi, List.length_replicate]
        by_cases e : i < size
        · rw [if_neg (by omega), if_pos (by unfold needN; omega), if_pos e]
        · rw [if_neg e]
          by_cases e2 : i / 128 = size / 128 ∧ size % 128 ≤ i % 128 ∧ i % 128 < size % 128 + (128 - size % 128)
          · rw [if_pos e2, List.getD_eq_getElem?_getD, List.getElem?_replicate]
            split <;> rfl
          · rw [if_neg e2, if_neg (by unfold needN; omega)]
    · rw [if_neg ht] at hok ⊢
      refine ⟨hok, mvt, att, indt, fun i hi => ?_, szt⟩
      refine (byt i hi).trans ?_
      by_cases e : i < size
      · rw [if_pos (by unfold needN; omega), if_pos e]
      · rw [if_neg e]
        by_cases e2 : i / 128 < needN size
        · rw [if_pos e2]
          have hm : size % 128 ≠ 0 := by unfold needN at e2; omega
          have hk : i / 128 = size / 128 := by unfold needN at e2; omega
          have hz : atX tx m tl (size / 128) = 0 := Classical.not_not.1 (fun h => ht ⟨hm, h⟩)
          have := byt i hi
          rw [if_pos e2] at this
          rw [← this]
          unfold byteX
          rw [hk, if_pos hz]
        · rw [if_neg e2]
  · rw [if_neg hc] at hok ⊢
    refine ⟨hok, m0, fun s h1 => ?_, fun h1 => ?_, fun i hi => ?_, hz0⟩
    · show atX xs m (l.set 3 size) s = _
      rw [atX_size]
      by_cases e : s < needN size
      · rw [if_pos e]
      · rw [if_neg e]
        refine g.past s ?_ h1
        unfold needN at e ⊢; omega
    · rw [show slotX _ m _ 70 = slotX xs m l 70 from slotX_size xs m l size 70] at h1
      have := g.big h1
      exact ⟨h1, by omega⟩
    · show byteX xs m (l.set 3 size) i = _
      rw [byteX_size]
      by_cases e : i < size
      · rw [if_pos e]
      · rw [if_neg e]
        exact g.zero i (by omega) hi
theorem CutS.good (g : GoodF xs m l) (hs : size ≤ 8960) {r : List ByteArray × List Nat} (h : CutS m size xs l r) : GoodF r.1 m r.2 := by
  refine ⟨⟨h.ok.vol, rfl, h.ok.fit⟩, h.mv.own, (h.mv.keep 11 (.inr rfl)).trans g.ext, fun i h1 h2 => ?_, fun s h1 h2 => ?_, fun h1 => ?_⟩
  · rw [h.size] at h1
    rw [h.byte i h2, if_neg (by omega)]
  · rw [h.size] at h1
    rw [h.at_ s h2, if_neg (by omega)]
  · rw [h.size]; exact (h.ind h1).2
end
end Go.Proofs.Ytjmafegckfijbaa
