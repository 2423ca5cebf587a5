/-
  What a write and a cut make of a file's blocks and bytes (plain: no program in sight).
-/
import Derived.Test.YtjmafegckfijbaaExtMw
namespace Go.Proofs.Ytjmafegckfijbaa
set_option linter.unusedVariables false
set_option linter.unusedSimpArgs false
section
variable {xs ys zs : List ByteArray} {m len : Nat} {l l' l'' : List Nat} {s s0 b k off : Nat} {d : List UInt8}
/-- bytes, with some written over them -/
def wrF (off : Nat) (d : List UInt8) (f : Nat → UInt8) (i : Nat) : UInt8 := if off ≤ i ∧ i < off + d.length then d.getD (i - off) 0 else f i
theorem lay_mv (hv : IsVol xs m) (o : OwnS xs m l) (hk : k < 70) (hb : atX xs m l k = b) (h0 : b ≠ 0) {p : Nat} (hp : p + d.length ≤ 128) :
    MvS m xs l (layX xs b p d) l ∧ (∀ s, s < 71 → slotX (layX xs b p d) m l s = slotX xs m l s) ∧
    (∀ i, i < 8960 → byteX (layX xs b p d) m l i = if i / 128 = k ∧ p ≤ i % 128 ∧ i % 128 < p + d.length then d.getD (i % 128 - p) 0 else byteX xs m l i) := by
  have hbd : datB xs m b = true := by rw [← hb]; exact atX_dat (by rw [hb]; exact h0)
  have hbp := datB_pos hbd
  obtain ⟨b1, b2⟩ := datB_iff.1 hbd
  have hll : (layX xs b p d).length = xs.length := layX_length _ _ _ _
  have hd : ∀ j, datB (layX xs b p d) m j = datB xs m j := fun j => datB_len m j hll
  have hbl : ∀ j, blkL (layX xs b p d) j = if b = j then splL (blkL xs b) p d else blkL xs j := fun j => layX_spl b _ _ b2 j
  have hsk : slotX xs m l k = b := by rw [slotX_lt hk, hb]
  have hne : ∀ s, s < 71 → s ≠ k → slotX xs m l s ≠ 0 → b ≠ slotX xs m l s := fun s h1 h2 h3 e => h2 (o.inj s k h1 (by omega) (by rw [hsk, e]) h3)
  have hs : ∀ s, s < 71 → slotX (layX xs b p d) m l s = slotX xs m l s := by
    intro s hs
    by_cases h6 : s < 6
    · rw [slotX_lt (by omega), slotX_lt (by omega), at_low h6, at_low h6, hd]
    · exact slots_by hll rfl (fun h => by rw [hbl, if_neg (hne 70 (by omega) (by omega) h)]) (by omega) hs
  refine ⟨.stay hv o hll (layX_ok hv hbd hp) (by rw [hbl, if_neg (by omega)]) hs (fun j h1 h2 => ?_) (fun _ _ => rfl), hs, fun i hi => ?_⟩
  · rw [hbl]
    by_cases e : b = j
    · exfalso
      rw [← e] at h2
      exact h2 hbd k (by omega) hsk
    · rw [if_neg e]
  · have h70 : i / 128 < 70 := by omega
    have e := hs (i / 128) (by omega)
    rw [slotX_lt h70, slotX_lt h70] at e
    unfold byteX
    rw [e]
    by_cases hk : i / 128 = k
    · rw [hk, hb, if_neg h0, if_neg h0, hbl, if_pos rfl, splL_getD (by rw [hv.blk b b2]; exact hp)]
      simp only [true_and]
    · have hc : ¬ (i / 128 = k ∧ p ≤ i % 128 ∧ i % 128 < p + d.length) := fun h => hk h.1
      rw [if_neg hc]
      by_cases hz : atX xs m l (i / 128) = 0
      · rw [if_pos hz, if_pos hz]
      · rw [if_neg hz, if_neg hz, hbl, if_neg]
        have := hne (i / 128) (by omega) hk (by rw [slotX_lt h70]; exact hz)
        rw [slotX_lt h70] at this; exact this
theorem piece_get (hk : off / 128 ≤ k) {i : Nat} (hi : i / 128 = k) (f : UInt8) :
    (if off - 128 * k ≤ i % 128 ∧ i % 128 < off - 128 * k + ((d.drop (128 * k - off)).take (128 - (off - 128 * k))).length then ((d.drop (128 * k - off)).take (128 - (off - 128 * k))).getD (i % 128 - (off - 128 * k)) 0 else f) = if off ≤ i ∧ i < off + d.length then d.getD (i - off) 0 else f := by
  have e : (off - 128 * k ≤ i % 128 ∧ i % 128 < off - 128 * k + ((d.drop (128 * k - off)).take (128 - (off - 128 * k))).length) ↔ (off ≤ i ∧ i < off + d.length) := by
    rw [List.length_take, List.length_drop]
    omega
  by_cases h : off ≤ i ∧ i < off + d.length
  · rw [if_pos h, if_pos (e.2 h)]
    simp only [List.getD_eq_getElem?_getD, List.getElem?_take, List.getElem?_drop]
    rw [if_pos (by omega), show 128 * k - off + (i % 128 - (off - 128 * k)) = i - off by omega]
  · rw [if_neg h, if_neg (fun g => h (e.1 g))]
/-- what comes of so many blocks written -/
structure WriS (m off : Nat) (d : List UInt8) (xs : List ByteArray) (l : List Nat) (j : Nat) (r : List ByteArray × List Nat) : Prop where
  ok : OkS xs.length m r
  mv : MvS m xs l r.1 r.2
  at_ : ∀ s, s < 70 → (atX r.1 m r.2 s ≠ 0 ↔ (atX xs m l s ≠ 0 ∨ (off / 128 ≤ s ∧ s < off / 128 + j)))
  ind : slotX r.1 m r.2 70 ≠ 0 ↔ (slotX xs m l 70 ≠ 0 ∨ (0 < j ∧ 6 < off / 128 + j))
  byte : ∀ i, i < 8960 → byteX r.1 m r.2 i = if off / 128 ≤ i / 128 ∧ i / 128 < off / 128 + j then wrF off d (byteX xs m l) i else byteX xs m l i
  size : r.2.getD 3 0 = l.getD 3 0
theorem wriN_mv (h : OkS xs.length m (xs, l)) (o : OwnS xs m l) : ∀ (j : Nat), off / 128 + j ≤ 70 → ∀ {r : List ByteArray × List Nat}, wriN noK m off d (xs, l) j = some r → WriS m off d xs l j r
  | 0, _, r, e => by
    obtain rfl := Option.some.inj e
    refine ⟨h, .refl h.vol o, fun s hs => ⟨fun h => .inl h, ?_⟩, ⟨fun h => .inl h, ?_⟩, fun i hi => by rw [if_neg (by omega)], rfl⟩
    · rintro (h | h)
      · exact h
      · omega
    · rintro (h | h)
      · exact h
      · omega
  | j + 1, hj, r, e => by
    rw [wriN] at e
    cases hp : wriN noK m off d (xs, l) j with
    | none => rw [hp] at e; cases e
    | some q =>
      rw [hp, Option.bind_some] at e
      have p := wriN_mv h o j (by omega) hp
      obtain ⟨qx, ql⟩ := q
      unfold wriK at e
      cases ht : plaG noK qx m ql (off / 128 + j) with
      | none => rw [ht] at e; cases e
      | some t =>
        rw [ht, Option.map_some] at e
        obtain rfl := Option.some.inj e
        have a := pla_mv p.ok p.mv.own (by omega) ht
        have ok := (plaG_ok (noK_ok m) p.ok (by omega) ht).1
        have hpl := piece_len off (off / 128 + j) d (by omega)
        have e1 : atX t.1.1 m t.1.2 (off / 128 + j) = t.2 := by rw [a.at_ _ (by omega), if_pos rfl]
        obtain ⟨c1, c2, c3⟩ := lay_mv (k := off / 128 + j) a.mv.vol a.mv.own (by omega) e1 a.ne hpl
        have hlt : datB t.1.1 m t.2 = true := by rw [← e1]; exact atX_dat (by rw [e1]; exact a.ne)
        refine ⟨⟨layX_ok ok.vol hlt hpl, (layX_length _ _ _ _).trans ok.len, ok.fit⟩, p.mv.trans (a.mv.trans c1), fun s hs => ?_, ?_, fun i hi => ?_, a.size.trans p.size⟩
        · have := c2 s (by omega)
          rw [slotX_lt hs, slotX_lt hs] at this
          rw [this, a.at_ s hs]
          by_cases e : s = off / 128 + j
          · rw [if_pos e]
            exact ⟨fun _ => .inr ⟨by omega, by omega⟩, fun _ => a.ne⟩
          · rw [if_neg e, p.at_ s hs]
            constructor
            · rintro (h | h)
              · exact .inl h
              · exact .inr (by omega)
            · rintro (h | h)
              · exact .inl h
              · exact .inr (by omega)
        · rw [c2 70 (by omega), a.ind, p.ind]
          constructor
          · rintro ((h | h) | h)
            · exact .inl h
            · exact .inr (by omega)
            · exact .inr (by omega)
          · rintro (h | h)
            · exact .inl (.inl h)
            · exact .inr (by omega)
        · rw [c3 i hi, a.byte i hi, p.byte i hi]
          by_cases ek : i / 128 = off / 128 + j
          · have k1 : off / 128 ≤ i / 128 ∧ i / 128 < off / 128 + (j + 1) := by omega
            have k2 : ¬ (off / 128 ≤ i / 128 ∧ i / 128 < off / 128 + j) := by omega
            rw [if_pos k1, if_neg k2]
            simp only [ek, true_and]
            have := piece_get (d := d) (off := off) (k := off / 128 + j) (by omega) ek (byteX xs m l i)
            rw [this]; rfl
          · have k3 : ∀ P : Prop, ¬ (i / 128 = off / 128 + j ∧ P) := fun P h => ek h.1
            rw [if_neg (k3 _)]
            by_cases h2 : off / 128 ≤ i / 128 ∧ i / 128 < off / 128 + j
            · have k1 : off / 128 ≤ i / 128 ∧ i / 128 < off / 128 + (j + 1) := by omega
              rw [if_pos h2, if_pos k1]
            · have k1 : ¬ (off / 128 ≤ i / 128 ∧ i / 128 < off / 128 + (j + 1)) := by omega
              rw [if_neg h2, if_neg k1]
/-- another size: nothing else is another one -/
theorem atX_size (xs : List ByteArray) (m : Nat) (l : List Nat) (v s : Nat) : atX xs m (l.set 3 v) s = atX xs m l s := by
  unfold atX rawX
  rw [getD_set_ne l 3 (4 + s) v (by omega), getD_set_ne l 3 10 v (by omega)]
theorem slotX_size (xs : List ByteArray) (m : Nat) (l : List Nat) (v s : Nat) : slotX xs m (l.set 3 v) s = slotX xs m l s := by
  unfold slotX
  rw [atX_size, getD_set_ne l 3 10 v (by omega)]
theorem byteX_size (xs : List ByteArray) (m : Nat) (l : List Nat) (v i : Nat) : byteX xs m (l.set 3 v) i = byteX xs m l i := by
  unfold byteX
  rw [atX_size]
theorem size_mv (hv : IsVol xs m) (o : OwnS xs m l) (v : Nat) : MvS m xs l xs (l.set 3 v) :=
  .stay hv o rfl hv rfl (fun s _ => slotX_size xs m l v s) (fun _ _ _ => rfl) (fun i hi => getD_set_ne _ _ _ _ (by omega))
theorem sizeX_set (hl : l.length = 12) (v : Nat) : sizeX (l.set 3 v) = min v 8960 := by
  unfold sizeX
  rw [getD_set _ _ _ _ _ (by omega), if_pos rfl]
/-- what comes of a write -/
structure WroS (m off : Nat) (d : List UInt8) (xs : List ByteArray) (l : List Nat) (r : List ByteArray × List Nat) : Prop where
  ok : OkS xs.length m r
  mv : MvS m xs l r.1 r.2
  at_ : ∀ s, s < 70 → (atX r.1 m r.2 s ≠ 0 ↔ (atX xs m l s ≠ 0 ∨ (d ≠ [] ∧ off / 128 ≤ s ∧ s ≤ (off + d.length - 1) / 128)))
  ind : slotX r.1 m r.2 70 ≠ 0 ↔ (slotX xs m l 70 ≠ 0 ∨ (d ≠ [] ∧ 6 ≤ (off + d.length - 1) / 128))
  byte : ∀ i, i < 8960 → byteX r.1 m r.2 i = wrF off d (byteX xs m l) i
  size : sizeX r.2 = if d = [] then sizeX l else max (sizeX l) (off + d.length)
theorem wriG_mv (h : OkS xs.length m (xs, l)) (o : OwnS xs m l) (hl : off + d.length ≤ 8960) {r : List ByteArray × List Nat} (e : wriG noK xs m l off d = some r) : WroS m off d xs l r := by
  have hl12 : l.length = 12 := h.fit.1
  unfold wriG at e
  by_cases hd : d = []
  · rw [if_pos hd] at e
    obtain rfl := Option.some.inj e
    subst hd
    refine ⟨h, .refl h.vol o, fun s hs => by simp, by simp, fun i hi => ?_, by rw [if_pos rfl]⟩
    unfold wrF
    rw [if_neg (by simp)]
  · rw [if_neg hd] at e
    have hdl : d.length ≠ 0 := by simpa using hd
    have h70 : off / 128 + fallN off d.length ≤ 70 := by unfold fallN; rw [if_neg hdl]; omega
    have hf : off / 128 + fallN off d.length = (off + d.length - 1) / 128 + 1 := by unfold fallN; rw [if_neg hdl]; omega
    have hf0 : 0 < fallN off d.length := by unfold fallN; rw [if_neg hdl]; omega
    cases hw : wriN noK m off d (xs, l) (fallN off d.length) with
    | none => rw [hw] at e; cases e
    | some q =>
      rw [hw] at e
      obtain rfl := Option.some.inj e
      obtain ⟨qx, ql⟩ := q
      have p := wriN_mv h o _ h70 hw
      have hq12 : ql.length = 12 := p.ok.fit.1
      have es : sizeX ql = sizeX l := by unfold sizeX; rw [p.size]
      have hsl := sizeX_le l
      have at1 : ∀ s, s < 70 → (atX qx m ql s ≠ 0 ↔ (atX xs m l s ≠ 0 ∨ (d ≠ [] ∧ off / 128 ≤ s ∧ s ≤ (off + d.length - 1) / 128))) := fun s hs => by
        rw [p.at_ s hs, hf]
        constructor
        · rintro (h | h)
          · exact .inl h
          · exact .inr ⟨hd, by omega, by omega⟩
        · rintro (h | h)
          · exact .inl h
          · exact .inr (by omega)
      have ind1 : slotX qx m ql 70 ≠ 0 ↔ (slotX xs m l 70 ≠ 0 ∨ (d ≠ [] ∧ 6 ≤ (off + d.length - 1) / 128)) := by
        rw [p.ind, hf]
        constructor
        · rintro (h | h)
          · exact .inl h
          · exact .inr ⟨hd, by omega⟩
        · rintro (h | h)
          · exact .inl h
          · exact .inr (by omega)
      have by1 : ∀ i, i < 8960 → byteX qx m ql i = wrF off d (byteX xs m l) i := fun i hi => by
        rw [p.byte i hi, hf]
        by_cases h2 : off / 128 ≤ i / 128 ∧ i / 128 < (off + d.length - 1) / 128 + 1
        · rw [if_pos h2]
        · rw [if_neg h2]
          unfold wrF
          rw [if_neg (by omega)]
      have ok := growG_ok (noK_ok m) p.ok (en := off + d.length) hl
      unfold growG at ok ⊢
      by_cases hg : sizeX (qx, ql).2 < off + d.length
      · rw [if_pos hg] at ok ⊢
        have hg' : sizeX ql < off + d.length := hg
        refine ⟨ok, p.mv.trans (size_mv p.mv.vol p.mv.own _), fun s hs => ?_, ?_, fun i hi => ?_, ?_⟩
        · show atX qx m (ql.set 3 _) s ≠ 0 ↔ _
          rw [atX_size]; exact at1 s hs
        · show slotX qx m (ql.set 3 _) 70 ≠ 0 ↔ _
          rw [slotX_size]; exact ind1
        · show byteX qx m (ql.set 3 _) i = _
          rw [byteX_size]; exact by1 i hi
        · show sizeX (ql.set 3 _) = _
          rw [sizeX_set hq12, if_neg hd]; omega
      · rw [if_neg hg] at ok ⊢
        have hg' : ¬ sizeX ql < off + d.length := hg
        refine ⟨ok, p.mv, at1, ind1, by1, ?_⟩
        show sizeX ql = _
        rw [if_neg hd]; omega
end
end Go.Proofs.Ytjmafegckfijbaa
