/-
  A volume with some files, each of whose blocks are its own: what a write, a cut and a read do (plain: no program in sight).
-/
import Derived.Test.YtjmafegckfijbaaExtCu
import Derived.Test.YtjmafegckfijbaaInoC
namespace Go.Proofs.Ytjmafegckfijbaa
set_option linter.unusedVariables false
set_option linter.unusedSimpArgs false
section
variable {xs ys zs V W : List ByteArray} {m len n : Nat} {l l' l'' p : List Nat} {s s0 b k off size : Nat} {d : List UInt8} {F : List Nat}
theorem slotX_put (hv : IsVol xs m) (h1 : 1 ≤ n) (h2 : n ≤ m) (p l : List Nat) (s : Nat) : slotX (putV xs n p) m l s = slotX xs m l s := by
  unfold slotX
  rw [atX_put hv h1 h2, datB_put]
theorem bitV_put (hv : IsVol xs m) (h1 : 1 ≤ n) (h2 : n ≤ m) (p : List Nat) (b : Nat) : bitV (putV xs n p) b = bitV xs b := by
  unfold bitV
  rw [blkL_two hv h1 h2]
theorem byteX_put (hv : IsVol xs m) (h1 : 1 ≤ n) (h2 : n ≤ m) (p l : List Nat) (i : Nat) : byteX (putV xs n p) m l i = byteX xs m l i := by
  unfold byteX
  rw [atX_put hv h1 h2]
  by_cases h0 : atX xs m l (i / 128) = 0
  · rw [if_pos h0, if_pos h0]
  · rw [if_neg h0, if_neg h0, putV_dat hv h1 h2 p (atX_dat h0)]
theorem roomR_put (hv : IsVol xs m) (h1 : 1 ≤ n) (h2 : n ≤ m) (p : List Nat) : roomR (putV xs n p) = roomR xs :=
  room_bits hv (hv.putI h1 h2 p) (putV_length _ _ _) (blkL_two hv h1 h2 p)
theorem cntS_put (hv : IsVol xs m) (h1 : 1 ≤ n) (h2 : n ≤ m) (p l : List Nat) : cntS (putV xs n p) m l = cntS xs m l := cntS_congr fun s _ => slotX_put hv h1 h2 p l s
theorem OwnS.put (hv : IsVol xs m) (h1 : 1 ≤ n) (h2 : n ≤ m) (p : List Nat) (o : OwnS xs m l) : OwnS (putV xs n p) m l := by
  refine ⟨fun s hs h0 => ?_, fun s t hs ht e h0 => ?_⟩
  · rw [slotX_put hv h1 h2] at h0 ⊢; rw [bitV_put hv h1 h2]; exact o.used s hs h0
  · rw [slotX_put hv h1 h2] at h0 e; rw [slotX_put hv h1 h2] at e; exact o.inj s t hs ht e h0
theorem GoodF.put (hv : IsVol xs m) (h1 : 1 ≤ n) (h2 : n ≤ m) (p : List Nat) (g : GoodF xs m l) : GoodF (putV xs n p) m l := by
  refine ⟨⟨hv.putI h1 h2 p, rfl, g.ok.fit⟩, g.own.put hv h1 h2 p, g.ext, fun i a b => ?_, fun s a b => ?_, fun h => ?_⟩
  · rw [byteX_put hv h1 h2]; exact g.zero i a b
  · rw [atX_put hv h1 h2]; exact g.past s a b
  · rw [slotX_put hv h1 h2] at h; exact g.big h
theorem ApartS.symm (h : ApartS xs m l l') : ApartS xs m l' l := fun s t hs ht e => by
  have := h t s ht hs e.symm
  rw [e, this]
/-- another file, when one is moved -/
theorem MvS.otherF (h : MvS m xs l ys l') (g : GoodF xs m p) (ap : ApartS xs m l p) :
    GoodF ys m p ∧ ApartS ys m l' p ∧ (∀ s, s < 71 → slotX ys m p s = slotX xs m p s) ∧ (∀ i, i < 8960 → byteX ys m p i = byteX xs m p i) := by
  obtain ⟨a, c, e, f⟩ := h.other g.own ap
  have hat : ∀ s, s < 70 → atX ys m p s = atX xs m p s := fun s hs => by
    have := a s (by omega)
    rw [slotX_lt hs, slotX_lt hs] at this; exact this
  have hby : ∀ i, i < 8960 → byteX ys m p i = byteX xs m p i := fun i hi => byte_of (fun s hs => .inl ⟨hat s hs, fun hz => by
    have := f s (by omega) (by rw [slotX_lt hs]; exact hz)
    rw [slotX_lt hs] at this; exact this⟩) hi
  refine ⟨⟨⟨h.vol, rfl, g.ok.fit⟩, c, g.ext, fun i h1 h2 => ?_, fun s h1 h2 => ?_, fun h1 => ?_⟩, e, a, hby⟩
  · rw [hby i h2]; exact g.zero i h1 h2
  · rw [hat s h2]; exact g.past s h1 h2
  · rw [a 70 (by omega)] at h1; exact g.big h1
/-- a volume with these files -/
structure SndV (V : List ByteArray) (m : Nat) (F : List Nat) : Prop where
  vol : IsVol V m
  num : ∀ n ∈ F, 1 ≤ n ∧ n ≤ m
  good : ∀ n ∈ F, GoodF V m (getR V (n : Int))
  apart : ∀ n ∈ F, ∀ k ∈ F, n ≠ k → ApartS V m (getR V (n : Int)) (getR V (k : Int))
/-- how many blocks all these files have -/
def sumC (V : List ByteArray) (m : Nat) (F : List Nat) : Nat := (F.map fun n : Nat => cntS V m (getR V (n : Int))).sum
theorem sum_upd (f g : Nat → Nat) : ∀ (F : List Nat), F.Nodup → n ∈ F → (∀ k ∈ F, k ≠ n → g k = f k) → (F.map f).sum + g n = (F.map g).sum + f n
  | [], _, h, _ => by cases h
  | a :: F, hn, h, hf => by
    rw [List.nodup_cons] at hn
    simp only [List.map_cons, List.sum_cons]
    rcases List.mem_cons.1 h with rfl | hm
    · have : F.map g = F.map f := List.map_congr_left (fun k hk => hf k (List.mem_cons_of_mem _ hk) (fun e => hn.1 (e ▸ hk)))
      rw [this]; omega
    · have := sum_upd f g F hn.2 hm (fun k hk => hf k (List.mem_cons_of_mem _ hk))
      have e := hf a (by simp) (fun e => hn.1 (e ▸ hm))
      omega
/-- what a step with one file leaves -/
structure StepV (V : List ByteArray) (m : Nat) (F : List Nat) (n : Nat) (ys : List ByteArray) (l' : List Nat) (W : List ByteArray) : Prop where
  snd : SndV W m F
  len : W.length = V.length
  get : getR W (n : Int) = l'
  slot : ∀ s, slotX W m l' s = slotX ys m l' s
  byte : ∀ i, byteX W m l' i = byteX ys m l' i
  room : roomR V + sumC V m F = roomR W + sumC W m F
  other : ∀ k ∈ F, k ≠ n → getR W (k : Int) = getR V (k : Int) ∧ (∀ s, s < 71 → slotX W m (getR V (k : Int)) s = slotX V m (getR V (k : Int)) s) ∧ (∀ i, i < 8960 → byteX W m (getR V (k : Int)) i = byteX V m (getR V (k : Int)) i)
theorem SndV.step (h : SndV V m F) (hF : F.Nodup) (hn : n ∈ F) (mv : MvS m V (getR V (n : Int)) ys l') (g : GoodF ys m l') : StepV V m F n ys l' (putV ys n l') := by
  obtain ⟨h1, h2⟩ := h.num n hn
  have hv := mv.vol
  have hg : getR (putV ys n l') (n : Int) = l' := get_put_same hv h1 h2 g.ok.fit
  have ho : ∀ k ∈ F, k ≠ n → getR (putV ys n l') (k : Int) = getR V (k : Int) := fun k hk hne => by
    obtain ⟨k1, k2⟩ := h.num k hk
    obtain ⟨b1, b2⟩ := blk_at k1 k2
    rw [get_put_other hv h1 h2 l' k (by omega), getR_vol hv k1 k2, getR_vol h.vol k1 k2, mv.low (blkN k) b2 (by omega)]
  have hot : ∀ k ∈ F, k ≠ n → GoodF ys m (getR V (k : Int)) ∧ ApartS ys m l' (getR V (k : Int)) ∧ (∀ s, s < 71 → slotX ys m (getR V (k : Int)) s = slotX V m (getR V (k : Int)) s) ∧ (∀ i, i < 8960 → byteX ys m (getR V (k : Int)) i = byteX V m (getR V (k : Int)) i) := fun k hk hne =>
    mv.otherF (h.good k hk) (h.apart n hn k hk (fun e => hne e.symm))
  have hsl : ∀ p s, slotX (putV ys n l') m p s = slotX ys m p s := fun p s => slotX_put hv h1 h2 l' p s
  have hap : ∀ p q, ApartS ys m p q → ApartS (putV ys n l') m p q := fun p q a s t hs ht e => by
    rw [hsl, hsl] at e; rw [hsl]; exact a s t hs ht e
  refine ⟨⟨hv.putI h1 h2 l', h.num, fun k hk => ?_, fun a ha c hc hne => ?_⟩, (putV_length _ _ _).trans mv.len, hg, hsl l', byteX_put hv h1 h2 l' l', ?_, fun k hk hne => ⟨ho k hk hne, fun s hs => ?_, fun i hi => ?_⟩⟩
  · by_cases e : k = n
    · rw [e, hg]; exact g.put hv h1 h2 l'
    · rw [ho k hk e]; exact (hot k hk e).1.put hv h1 h2 l'
  · by_cases e : a = n
    · rw [e, hg]
      have ec : c ≠ n := fun h => hne (e.trans h.symm)
      rw [ho c hc ec]; exact hap _ _ (hot c hc ec).2.1
    · rw [ho a ha e]
      by_cases ec : c = n
      · rw [ec, hg]; exact hap _ _ (hot a ha e).2.1.symm
      · rw [ho c hc ec]
        refine hap _ _ (fun s t hs ht es => ?_)
        rw [(hot a ha e).2.2.1 s hs, (hot c hc ec).2.2.1 t ht] at es
        rw [(hot a ha e).2.2.1 s hs]
        exact h.apart a ha c hc hne s t hs ht es
  · have hs : sumC V m F + cntS (putV ys n l') m (getR (putV ys n l') (n : Int)) = sumC (putV ys n l') m F + cntS V m (getR V (n : Int)) := sum_upd (fun k : Nat => cntS V m (getR V (k : Int))) (fun k : Nat => cntS (putV ys n l') m (getR (putV ys n l') (k : Int))) F hF hn (fun k hk hne => by
      show cntS (putV ys n l') m (getR (putV ys n l') (k : Int)) = cntS V m (getR V (k : Int))
      rw [ho k hk hne, cntS_put hv h1 h2]
      exact cntS_congr (hot k hk hne).2.2.1)
    rw [hg, cntS_put hv h1 h2] at hs
    have hr := mv.room
    rw [roomR_put hv h1 h2]
    omega
  · rw [hsl]; exact (hot k hk hne).2.2.1 s hs
  · rw [byteX_put hv h1 h2]; exact (hot k hk hne).2.2.2 i hi
/-- all bytes of a file -/
def wholeX (V : List ByteArray) (n : Nat) : List UInt8 := (readO V (n : Int) 0 8960).1
theorem whole_eq (h : SndV V m F) (hn : n ∈ F) : readO V (n : Int) 0 8960 = ((List.range (sizeX (getR V (n : Int)))).map (byteX V m (getR V (n : Int))), 0) := by
  obtain ⟨h1, h2⟩ := h.num n hn
  unfold readO
  rw [inoE_zero h.vol h1 h2, if_neg (by simp), if_neg (by omega), mO_vol h.vol]
  unfold readX spanX
  have := sizeX_le (getR V (n : Int))
  rw [show min ((0 : Int).toNat + (8960 : Int).toNat) (sizeX (getR V (n : Int))) - (0 : Int).toNat = sizeX (getR V (n : Int)) by
    show min (0 + 8960) _ - 0 = _; omega]
  rw [List.range_eq_range']
  rfl
theorem wholeX_eq (h : SndV V m F) (hn : n ∈ F) : wholeX V n = (List.range (sizeX (getR V (n : Int)))).map (byteX V m (getR V (n : Int))) := by unfold wholeX; rw [whole_eq h hn]
/-- a write that could be done -/
structure WroteV (V : List ByteArray) (m : Nat) (F : List Nat) (n off : Nat) (d : List UInt8) (W : List ByteArray) : Prop where
  small : off + d.length ≤ 8960
  st : ∃ r, WroS m off d V (getR V (n : Int)) r ∧ StepV V m F n r.1 r.2 W ∧ W = putV r.1 n r.2 ∧ wriG noK V m (getR V (n : Int)) off d = some r
theorem SndV.write (h : SndV V m F) (hF : F.Nodup) (hn : n ∈ F) (off : Int) (d : List UInt8) :
    (writeO V (n : Int) off d).2 = 0 ∧ 0 ≤ off ∧ WroteV V m F n off.toNat d (writeO V (n : Int) off d).1
    ∨ (writeO V (n : Int) off d).1 = [] ∧ ((writeO V (n : Int) off d).2 = 1 ∧ off < 0 ∨ (writeO V (n : Int) off d).2 = 6 ∧ 0 ≤ off ∧ 8960 < off + d.length ∨ (writeO V (n : Int) off d).2 = 10 ∧ 0 ≤ off ∧ off.toNat + d.length ≤ 8960 ∧ wriG noK V m (getR V (n : Int)) off.toNat d = none) := by
  obtain ⟨h1, h2⟩ := h.num n hn
  have g := h.good n hn
  unfold writeO
  rw [inoE_zero h.vol h1 h2, if_neg (by simp)]
  by_cases ho : off < 0
  · rw [if_pos ho]; exact .inr ⟨rfl, .inl ⟨rfl, ho⟩⟩
  · rw [if_neg ho]
    by_cases hb : 8960 < off ∨ 8960 < off + (d.length : Int)
    · rw [if_pos hb]
      exact .inr ⟨rfl, .inr (.inl ⟨rfl, by omega, by omega⟩)⟩
    · rw [if_neg hb, mO_vol h.vol]
      cases hw : wriG noK V m (getR V (n : Int)) off.toNat d with
      | none => exact .inr ⟨rfl, .inr (.inr ⟨rfl, by omega, by omega, rfl⟩)⟩
      | some r =>
        have ws := wriG_mv g.ok g.own (by omega) hw
        refine .inl ⟨rfl, by omega, by omega, r, ws, h.step hF hn ws.mv (ws.good g (by omega)), by simp, hw⟩
/-- a cut that could be done -/
structure CutV (V : List ByteArray) (m : Nat) (F : List Nat) (n size : Nat) (W : List ByteArray) : Prop where
  small : size ≤ 8960
  st : ∃ r, CutS m size V (getR V (n : Int)) r ∧ StepV V m F n r.1 r.2 W
theorem SndV.cut (h : SndV V m F) (hF : F.Nodup) (hn : n ∈ F) (size : Int) :
    (cutO V (n : Int) size).2 = 0 ∧ 0 ≤ size ∧ CutV V m F n size.toNat (cutO V (n : Int) size).1
    ∨ (cutO V (n : Int) size).1 = [] ∧ ((cutO V (n : Int) size).2 = 1 ∧ size < 0 ∨ (cutO V (n : Int) size).2 = 6 ∧ 8960 < size) := by
  obtain ⟨h1, h2⟩ := h.num n hn
  have g := h.good n hn
  unfold cutO
  rw [inoE_zero h.vol h1 h2, if_neg (by simp)]
  by_cases ho : size < 0
  · rw [if_pos ho]; exact .inr ⟨rfl, .inl ⟨rfl, ho⟩⟩
  · rw [if_neg ho]
    by_cases hb : 8960 < size
    · rw [if_pos hb]
      exact .inr ⟨rfl, .inr ⟨rfl, hb⟩⟩
    · rw [if_neg hb, mO_vol h.vol]
      have cs := cutG_mv g (size := size.toNat) (by omega)
      exact .inl ⟨rfl, by omega, by omega, _, cs, h.step hF hn cs.mv (cs.good g (by omega))⟩
theorem countO_vol (h : SndV V m F) (hn : n ∈ F) : countO V (n : Int) = cntS V m (getR V (n : Int)) := by
  obtain ⟨h1, h2⟩ := h.num n hn
  have g := h.good n hn
  unfold countO
  rw [inoE_zero h.vol h1 h2, if_neg (by simp), mO_vol h.vol]
  unfold countX cntS manyX
  rw [g.ext, datB_zero]
  rw [show List.range 71 = List.range 70 ++ [70] from List.range_succ, List.filter_append, List.length_append]
  have e1 : (List.range 70).filter (fun s => slotX V m (getR V (n : Int)) s != 0) = (List.range 70).filter (fun k => atX V m (getR V (n : Int)) k != 0) := List.filter_congr (fun s hs => by rw [slotX_lt (List.mem_range.1 hs)])
  rw [e1]
  by_cases hd : datB V m ((getR V (n : Int)).getD 10 0) = true
  · have e2 : (slotX V m (getR V (n : Int)) 70 != 0) = true := bne_iff_ne.2 (datB_ind_iff.1 hd)
    rw [if_pos hd]
    simp only [List.filter_cons, List.filter_nil, e2]
    rfl
  · have h0 : slotX V m (getR V (n : Int)) 70 = 0 := Classical.not_not.1 (fun h => hd (datB_ind_iff.2 h))
    have e2 : (slotX V m (getR V (n : Int)) 70 != 0) = false := by rw [h0]; rfl
    rw [if_neg hd]
    simp only [List.filter_cons, List.filter_nil, e2]
    rfl
theorem blocksO_vol (h : SndV V m F) (hn : n ∈ F) : blocksO V (n : Int) = (List.range (needN (sizeX (getR V (n : Int))))).map fun k => atI (atX V m (getR V (n : Int)) k) := by
  obtain ⟨h1, h2⟩ := h.num n hn
  unfold blocksO
  rw [inoE_zero h.vol h1 h2, if_neg (by simp), mO_vol h.vol]; rfl
end
end Go.Proofs.Ytjmafegckfijbaa
