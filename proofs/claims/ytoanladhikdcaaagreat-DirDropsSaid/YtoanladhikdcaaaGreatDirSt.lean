/-
  A directory's file on a volume, plain: what a write from the front on and a cut make of it.
-/
import Derived.Test.YtoanladhikdcaaaGreatDirPl
import Derived.Test.YtoanladhikdcaaaGreatExtSnd
namespace Go.Proofs.YtoanladhikdcaaaGreat
set_option linter.unusedVariables false
set_option linter.unusedSimpArgs false
set_option maxRecDepth 100000
section
variable {xs ys V : List ByteArray} {m n sz size : Nat} {l l' : List Nat} {f : Nat → UInt8} {d : List UInt8}
theorem cutG_low (gok : OkS xs.length m (xs, l)) (gown : OwnS xs m l) (hs : size ≤ 8960) (hc : size < sizeX l) : CutS m size xs l (cutG noK xs m l size) := by
  have hv : IsVol xs m := gok.vol
  have hl12 : l.length = 12 := gok.fit.1
  have hn := needN_le hs
  have hok := cutG_ok (noK_ok m) gok hs
  have h0 : OkS xs.length m (xs, l.set 3 size) := ⟨hv, rfl, gok.fit.size (by omega)⟩
  have m0 := size_mv hv gown size
  have hz0 : sizeX (l.set 3 size) = size := by rw [sizeX_set hl12]; omega
  unfold cutG at hok ⊢
  unfold noK at hok ⊢
  · rw [if_pos hc] at hok ⊢
    unfold shortG at hok ⊢
    have a := dropN_mv h0 m0.own (k := needN size) (70 - needN size) (by omega)
    have hsz := a.size
    revert hok a hsz
    change OkS xs.length m (tailZ m size (dropI noK m size (dropN noK m (needN size) (xs, l.set 3 size) (70 - needN size)))) → DroS m xs (l.set 3 size) (fun s => needN size ≤ s ∧ s < needN size + (70 - needN size)) (dropN noK m (needN size) (xs, l.set 3 size) (70 - needN size)) → (dropN noK m (needN size) (xs, l.set 3 size) (70 - needN size)).2.getD 3 0 = (l.set 3 size).getD 3 0 → CutS m size xs l (tailZ m size (dropI noK m size (dropN noK m (needN size) (xs, l.set 3 size) (70 - needN size))))
    generalize dropN noK m (needN size) (xs, l.set 3 size) (70 - needN size) = q
    obtain ⟨qx, ql⟩ := q
    intro hok a hsz
    have okq : OkS qx.length m (qx, ql) := ⟨a.ok.vol, rfl, a.ok.fit⟩
    have atq : ∀ s, s < 70 → atX qx m ql s = if s < needN size then atX xs m l s else 0 := fun s h1 => by
      have := a.slot s (by omega)
      rw [slotX_lt h1, slotX_lt h1, atX_size] at this
      rw [this]
      by_cases e : s < needN size
      · rw [if_neg (by omega), if_pos e]
      · rw [if_pos (by omega), if_neg e]
    have c := dropI_mv (size := size) okq a.mv.own (fun h1 s h2 h3 => by
      rw [atq s h3, if_neg]
      unfold needN; omega)
    have hsz2 := c.size
    revert hok c hsz2
    generalize dropI noK m size (qx, ql) = t
    obtain ⟨tx, tl⟩ := t
    intro hok c hsz2
    have att : ∀ s, s < 70 → atX tx m tl s = if s < needN size then atX xs m l s else 0 := fun s h1 => by
      have := c.slot s (by omega)
      rw [slotX_lt h1, slotX_lt h1, if_neg (by omega)] at this
      rw [this, atq s h1]
    have indt : slotX tx m tl 70 ≠ 0 → slotX xs m l 70 ≠ 0 ∧ 768 < size := fun h1 => by
      rw [c.slot 70 (by omega)] at h1
      by_cases e : size ≤ 768
      · rw [if_pos ⟨e, rfl⟩] at h1; exact absurd rfl h1
      · rw [if_neg (fun h => e h.1), a.slot 70 (by omega), if_neg (by omega), slotX_size] at h1
        exact ⟨h1, by omega⟩
    have byt : ∀ i, i < 8960 → byteX tx m tl i = if i / 128 < needN size then byteX xs m l i else 0 := fun i hi => by
      rw [c.byte i hi, if_neg (by omega), a.byte i hi, byteX_size]
      by_cases e : i / 128 < needN size
      · rw [if_neg (by omega), if_pos e]
      · rw [if_pos (by omega), if_neg e]
    have szt : sizeX tl = size := by
      have e1 : tl.getD 3 0 = (l.set 3 size).getD 3 0 := hsz2.trans hsz
      unfold sizeX at hz0 ⊢
      rw [e1]; exact hz0
    have mvt : MvS m xs l tx tl := m0.trans (a.mv.trans c.mv)
    unfold tailZ at hok ⊢
    by_cases ht : size % 128 ≠ 0 ∧ atX (tx, tl).1 m (tx, tl).2 (size / 128) ≠ 0
    · rw [if_pos ht] at hok ⊢
      have h1 : size / 128 < 70 := by
        refine Classical.not_not.1 (fun h => ?_)
        have : size = 8960 := by omega
        rw [this] at ht
        exact ht.1 rfl
      obtain ⟨c1, c2, c3⟩ := lay_mv (d := List.replicate (128 - size % 128) 0) mvt.vol mvt.own h1 (rfl : atX tx m tl (size / 128) = _) ht.2 (p := size % 128) (by rw [List.length_replicate]; omega)
      refine ⟨hok, mvt.trans c1, fun s h1 => ?_, fun h1 => ?_, fun i hi => ?_, szt⟩
      · have := c2 s (by omega)
        rw [slotX_lt h1, slotX_lt h1] at this
        exact this.trans (att s h1)
      · rw [show slotX _ m _ 70 = slotX tx m tl 70 from c2 70 (by omega)] at h1
        exact indt h1
      · refine (c3 i hi).trans ?_
        rw [byt i hi, List.length_replicate]
        by_cases e : i < size
        · rw [if_neg (by omega), if_pos (by unfold needN; omega), if_pos e]
        · rw [if_neg e]
          by_cases e2 : i / 128 = size / 128 ∧ size % 128 ≤ i % 128 ∧ i % 128 < size % 128 + (128 - size % 128)
          · rw [if_pos e2, List.getD_eq_getElem?_getD, List.getElem?_replicate]
            split <;> rfl
          · rw [if_neg e2, if_neg (by unfold needN; omega)]
    · rw [if_neg ht] at hok ⊢
      refine ⟨hok, mvt, att, indt, fun i hi => ?_, szt⟩
      refine (byt i hi).trans ?_
      by_cases e : i < size
      · rw [if_pos (by unfold needN; omega), if_pos e]
      · rw [if_neg e]
        by_cases e2 : i / 128 < needN size
        · rw [if_pos e2]
          have hm : size % 128 ≠ 0 := by unfold needN at e2; omega
          have hk : i / 128 = size / 128 := by unfold needN at e2; omega
          have hz : atX tx m tl (size / 128) = 0 := Classical.not_not.1 (fun h => ht ⟨hm, h⟩)
          have := byt i hi
          rw [if_pos e2] at this
          rw [← this]
          unfold byteX
          rw [hk, if_pos hz]
        · rw [if_neg e2]
/-- a file that is a directory's, its size and its bytes -/
structure FileS (V : List ByteArray) (m n sz : Nat) (f : Nat → UInt8) : Prop where
  num1 : 1 ≤ n
  num2 : n ≤ m
  ok : OkS V.length m (V, getR V (n : Int))
  own : OwnS V m (getR V (n : Int))
  kind : (getR V (n : Int)).getD 0 0 = 2
  size : sizeX (getR V (n : Int)) = sz
  byte : ∀ i, i < sz → byteX V m (getR V (n : Int)) i = f i
theorem FileS.small (h : FileS V m n sz f) : sz ≤ 8960 := by rw [← h.size]; exact sizeX_le _
theorem FileS.put (h : FileS V m n sz f) (mv : MvS m V (getR V (n : Int)) ys l') (ok : OkS V.length m (ys, l')) {sz' : Nat} {g : Nat → UInt8} (hz : sizeX l' = sz') (hb : ∀ i, i < sz' → byteX ys m l' i = g i) : FileS (putV ys n l') m n sz' g := by
  have hv := mv.vol
  have hg : getR (putV ys n l') (n : Int) = l' := get_put_same hv h.num1 h.num2 ok.fit
  refine ⟨h.num1, h.num2, ?_, ?_, ?_, ?_, ?_⟩
  · rw [hg]; exact ⟨hv.putI h.num1 h.num2 l', rfl, ok.fit⟩
  · rw [hg]; exact mv.own.put hv h.num1 h.num2 l'
  · rw [hg, mv.keep 0 (by omega)]; exact h.kind
  · rw [hg]; exact hz
  · intro i hi
    rw [hg, byteX_put hv h.num1 h.num2]
    exact hb i hi
theorem FileS.write (h : FileS V m n sz f) (hd : 0 < d.length) :
    (writeO V (n : Int) 0 d).2 = 0 ∧ d.length ≤ 8960 ∧ (∃ r, WroS m 0 d V (getR V (n : Int)) r ∧ (writeO V (n : Int) 0 d).1 = putV r.1 n r.2) ∧ FileS (writeO V (n : Int) 0 d).1 m n (max sz d.length) (wrF 0 d f)
    ∨ (writeO V (n : Int) 0 d).1 = [] ∧ ((writeO V (n : Int) 0 d).2 = 6 ∧ 8960 < d.length ∨ (writeO V (n : Int) 0 d).2 = 10 ∧ wriG noK V m (getR V (n : Int)) 0 d = none) := by
  have hne : d ≠ [] := fun e => by rw [e] at hd; exact absurd hd (by simp)
  unfold writeO
  rw [inoE_zero h.ok.vol h.num1 h.num2, if_neg (by simp), if_neg (by omega)]
  by_cases hb : 8960 < (0 : Int) ∨ 8960 < (0 : Int) + (d.length : Int)
  · rw [if_pos hb]
    exact .inr ⟨rfl, .inl ⟨rfl, by omega⟩⟩
  · rw [if_neg hb, mO_vol h.ok.vol]
    show _ ∨ _
    rw [show (0 : Int).toNat = 0 from rfl]
    cases hw : wriG noK V m (getR V (n : Int)) 0 d with
    | none => exact .inr ⟨rfl, .inr ⟨rfl, rfl⟩⟩
    | some r =>
      have ws := wriG_mv h.ok h.own (by omega) hw
      refine .inl ⟨rfl, by omega, ⟨r, ws, by simp⟩, ?_⟩
      have hsz := ws.size
      rw [if_neg hne, h.size, Nat.zero_add] at hsz
      have hs8 := h.small
      refine h.put (ys := r.1) (l' := r.2) ws.mv ws.ok hsz (fun i hi => ?_)
      rw [ws.byte i (by omega)]
      unfold wrF
      by_cases hi2 : 0 ≤ i ∧ i < 0 + d.length
      · rw [if_pos hi2, if_pos hi2]
      · rw [if_neg hi2, if_neg hi2]
        exact h.byte i (by omega)
theorem FileS.cut (h : FileS V m n sz f) (hs : size < sz) :
    (cutO V (n : Int) (size : Int)).2 = 0 ∧ (∃ r, CutS m size V (getR V (n : Int)) r ∧ (cutO V (n : Int) (size : Int)).1 = putV r.1 n r.2) ∧ FileS (cutO V (n : Int) (size : Int)).1 m n size f := by
  have hs8 := h.small
  have cs := cutG_low h.ok h.own (size := size) (by omega) (by rw [h.size]; exact hs)
  unfold cutO
  rw [inoE_zero h.ok.vol h.num1 h.num2, if_neg (by simp), if_neg (by omega), if_neg (by omega), mO_vol h.ok.vol]
  show _ ∧ _ ∧ _
  rw [show ((size : Nat) : Int).toNat = size from rfl]
  refine ⟨rfl, ⟨_, cs, by simp⟩, ?_⟩
  refine h.put cs.mv cs.ok cs.size (fun i hi => ?_)
  rw [cs.byte i (by omega), if_pos hi]
  exact h.byte i (by omega)
theorem FileS.read (h : FileS V m n sz f) : readO V (n : Int) 0 8960 = ((List.range sz).map f, 0) := by
  unfold readO
  rw [inoE_zero h.ok.vol h.num1 h.num2, if_neg (by simp), if_neg (by omega), mO_vol h.ok.vol]
  unfold readX spanX
  have := h.small
  rw [h.size, show min ((0 : Int).toNat + (8960 : Int).toNat) sz - (0 : Int).toNat = sz by show min (0 + 8960) _ - 0 = _; omega]
  congr 1
  rw [List.range_eq_range']
  exact List.map_congr_left fun i hi => h.byte i (by have := List.mem_range'.1 hi; omega)
/-- a directory with these entries -/
structure DirS (V : List ByteArray) (m n : Nat) (E : List EntV) : Prop where
  file : FileS V m n (32 * E.length) (fun i => (bytesE E).getD i 0)
  valid : ValidE E
theorem range_getD (l : List UInt8) : (List.range l.length).map (fun i => l.getD i 0) = l := by
  apply List.ext_getElem?
  intro i
  by_cases hi : i < l.length
  · rw [List.getElem?_map, List.getElem?_range hi, Option.map_some, List.getD_eq_getElem?_getD, List.getElem?_eq_getElem hi]; rfl
  · rw [List.getElem?_eq_none (by simp; omega), List.getElem?_eq_none (by omega)]
theorem DirS.list {E : List EntV} (h : DirS V m n E) : listO V (n : Int) = (E, 0) := by
  unfold listO
  rw [inoE_zero h.file.ok.vol h.file.num1 h.file.num2, if_neg (by simp), if_neg (by rw [h.file.kind]; simp), h.file.read]
  have hl := bytesE_len h.valid.ok
  have : (List.range (32 * E.length)).map (fun i => (bytesE E).getD i 0) = bytesE E := by rw [← hl]; exact range_getD _
  dsimp only
  rw [this, entsO_bytesE h.valid]
theorem bytesE_get {l : List EntV} (h : ValidE l) {i : Nat} (hi : i < 32 * l.length) : (bytesE l)[i]? = some ((bytesE l).getD i 0) := by
  have hl := bytesE_len h.ok
  rw [List.getD_eq_getElem?_getD, List.getElem?_eq_getElem (by omega)]; rfl
/-- as many entries, or more, are written from the front on -/
theorem DirS.more {E E' : List EntV} (h : DirS V m n E) (hv : ValidE E') (hl : E.length ≤ E'.length) (h0 : 0 < E'.length) :
    (writeO V (n : Int) 0 (bytesE E')).2 = 0 ∧ (∃ r, WroS m 0 (bytesE E') V (getR V (n : Int)) r ∧ (writeO V (n : Int) 0 (bytesE E')).1 = putV r.1 n r.2) ∧ DirS (writeO V (n : Int) 0 (bytesE E')).1 m n E'
    ∨ (writeO V (n : Int) 0 (bytesE E')).1 = [] ∧ ((writeO V (n : Int) 0 (bytesE E')).2 = 6 ∧ 8960 < (bytesE E').length ∨ (writeO V (n : Int) 0 (bytesE E')).2 = 10 ∧ wriG noK V m (getR V (n : Int)) 0 (bytesE E') = none) := by
  have hb := bytesE_len hv.ok
  rcases h.file.write (d := bytesE E') (by omega) with ⟨a, b, c, g⟩ | g
  · refine .inl ⟨a, c, ?_, hv⟩
    rw [hb, show max (32 * E.length) (32 * E'.length) = 32 * E'.length by omega] at g
    refine ⟨g.num1, g.num2, g.ok, g.own, g.kind, g.size, fun i hi => (g.byte i hi).trans ?_⟩
    unfold wrF
    rw [if_pos (by omega)]
    rfl
  · exact .inr g
/-- fewer entries: written from the front on, then cut -/
theorem DirS.less {E E' : List EntV} (h : DirS V m n E) (hv : ValidE E') (hl : E'.length < E.length) (h0 : 0 < E'.length) (hw : (writeO V (n : Int) 0 (bytesE E')).2 = 0) :
    (cutO (writeO V (n : Int) 0 (bytesE E')).1 (n : Int) ((32 * E'.length : Nat) : Int)).2 = 0 ∧ DirS (cutO (writeO V (n : Int) 0 (bytesE E')).1 (n : Int) ((32 * E'.length : Nat) : Int)).1 m n E' := by
  have hb := bytesE_len hv.ok
  rcases h.file.write (d := bytesE E') (by omega) with ⟨a, b, c, g⟩ | g
  · rw [hb, show max (32 * E.length) (32 * E'.length) = 32 * E.length by omega] at g
    have k := g.cut (size := 32 * E'.length) (by omega)
    refine ⟨k.1, ⟨⟨k.2.2.num1, k.2.2.num2, k.2.2.ok, k.2.2.own, k.2.2.kind, k.2.2.size, fun i hi => (k.2.2.byte i hi).trans ?_⟩, hv⟩⟩
    unfold wrF
    rw [if_pos (by omega)]
    rfl
  · rcases g.2 with g | g
    · exact absurd (g.1.symm.trans hw) (by decide)
    · exact absurd (g.1.symm.trans hw) (by decide)
theorem DirS.none {E : List EntV} (h : DirS V m n E) (hl : 0 < E.length) : (cutO V (n : Int) 0).2 = 0 ∧ DirS (cutO V (n : Int) 0).1 m n [] := by
  have k := h.file.cut (size := 0) (by omega)
  exact ⟨k.1, ⟨⟨k.2.2.num1, k.2.2.num2, k.2.2.ok, k.2.2.own, k.2.2.kind, k.2.2.size, fun i hi => absurd hi (by simp)⟩, ⟨fun x hx => by simp at hx, List.Pairwise.nil⟩⟩⟩
end
end Go.Proofs.YtoanladhikdcaaaGreat
