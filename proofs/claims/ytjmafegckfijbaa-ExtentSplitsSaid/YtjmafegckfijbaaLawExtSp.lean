/-
  What is written in one piece is what is written in two (plain).
-/
import Derived.Test.YtjmafegckfijbaaLawExtPl
namespace Go.Proofs.Ytjmafegckfijbaa
set_option linter.unusedVariables false
set_option linter.unusedSimpArgs false
section
variable {xs : List ByteArray} {m n len off k b' : Nat} {l p : List Nat} {a b d e : List UInt8}
/-! ### an inode's numbers, written down meanwhile, are no matter -/
def keepP (n : Nat) (p : List Nat) (s : List ByteArray × List Nat) : List ByteArray × List Nat := (putV s.1 n p, s.2)
theorem nameG_keep (h1 : 1 ≤ n) (h2 : n ≤ m) (hv : IsVol xs m) (p l : List Nat) (k b : Nat) : nameG noK (putV xs n p) m l k b = keepP n p (nameG noK xs m l k b) := by
  unfold nameG keepP
  rw [datB_put]
  by_cases h6 : k < 6
  · rw [if_pos h6, if_pos h6]; rfl
  · rw [if_neg h6, if_neg h6]
    by_cases hd : datB xs m (l.getD 10 0) = true
    · rw [if_pos hd, if_pos hd, layX_put hv h1 h2 p hd]
    · rw [if_neg hd, if_neg hd]
theorem indG_keep (h1 : 1 ≤ n) (h2 : n ≤ m) (hv : IsVol xs m) (p l : List Nat) (k : Nat) : indG noK (putV xs n p) m l k = (indG noK xs m l k).map (keepP n p) := by
  unfold indG
  rw [datB_put]
  by_cases hc : k < 6 ∨ datB xs m (l.getD 10 0) = true
  · rw [if_pos hc, if_pos hc]; rfl
  · rw [if_neg hc, if_neg hc, takX_put h1 h2 hv]
    cases takX xs m <;> rfl
theorem plaG_keep (h1 : 1 ≤ n) (h2 : n ≤ m) (p : List Nat) (h : OkS len m (xs, l)) (k : Nat) : plaG noK (putV xs n p) m l k = (plaG noK xs m l k).map fun r => (keepP n p r.1, r.2) := by
  have hv : IsVol xs m := h.vol
  unfold plaG
  rw [atX_put hv h1 h2]
  by_cases hc : atX xs m l k ≠ 0
  · rw [if_pos hc, if_pos hc]; rfl
  · rw [if_neg hc, if_neg hc, indG_keep h1 h2 hv]
    cases hi : indG noK xs m l k with
    | none => rfl
    | some s =>
      have hs := indG_ok (noK_ok m) h hi
      simp only [Option.map_some, Option.bind_some]
      unfold keepP
      rw [takX_put h1 h2 hs.vol]
      cases ht : takX s.1 m with
      | none => rfl
      | some q =>
        obtain ⟨a, _⟩ := takX_ok hs.vol ht
        simp only [Option.map_some]
        rw [nameG_keep h1 h2 a]; rfl
theorem wriK_keep (h1 : 1 ≤ n) (h2 : n ≤ m) (p : List Nat) {s : List ByteArray × List Nat} (h : OkS len m s) {k : Nat} (h70 : k < 70) (off : Nat) (d : List UInt8) : wriK noK m off d k (keepP n p s) = (wriK noK m off d k s).map (keepP n p) := by
  unfold wriK
  have := plaG_keep h1 h2 p (xs := s.1) (l := s.2) h k
  unfold keepP at this ⊢
  rw [this]
  cases hp : plaG noK s.1 m s.2 k with
  | none => rfl
  | some q =>
    obtain ⟨a, b⟩ := plaG_ok (noK_ok m) h h70 hp
    have hb : datB q.1.1 m q.2 = true := by rw [datB_len (ys := s.1) m q.2 (a.len.trans h.len.symm)]; exact b
    simp only [Option.map_some]
    rw [layX_put a.vol h1 h2 _ hb]
theorem wriN_keep (h1 : 1 ≤ n) (h2 : n ≤ m) (p : List Nat) {s : List ByteArray × List Nat} (h : OkS len m s) {off : Nat} {d : List UInt8} : ∀ (j : Nat), off / 128 + j ≤ 70 → wriN noK m off d (keepP n p s) j = (wriN noK m off d s j).map (keepP n p)
  | 0, _ => rfl
  | j + 1, hj => by
    rw [wriN, wriN, wriN_keep h1 h2 p h j (by omega)]
    cases hp : wriN noK m off d s j with
    | none => rfl
    | some q =>
      simp only [Option.map_some, Option.bind_some]
      exact wriK_keep h1 h2 p (wriN_ok (noK_ok m) h j (by omega) hp) (by omega) off d
theorem wriG_keep (h1 : 1 ≤ n) (h2 : n ≤ m) (p : List Nat) (h : OkS len m (xs, l)) {off : Nat} {d : List UInt8} (hl : off + d.length ≤ 8960) : wriG noK (putV xs n p) m l off d = (wriG noK xs m l off d).map (keepP n p) := by
  unfold wriG
  by_cases hd : d = []
  · rw [if_pos hd, if_pos hd]; rfl
  · rw [if_neg hd, if_neg hd]
    have hdl : d.length ≠ 0 := by simpa using hd
    have h70 : off / 128 + fallN off d.length ≤ 70 := by unfold fallN; rw [if_neg hdl]; omega
    have := wriN_keep h1 h2 p h (off := off) (d := d) (fallN off d.length) h70
    unfold keepP at this
    rw [this]
    cases hp : wriN noK m off d (xs, l) (fallN off d.length) with
    | none => rfl
    | some q =>
      simp only [Option.map_some]
      unfold growG keepP noK
      dsimp only
      split <;> rfl
/-! ### nor is the size -/
def sizP (v : Nat) (s : List ByteArray × List Nat) : List ByteArray × List Nat := (s.1, s.2.set 3 v)
theorem set_comm3 (l : List Nat) (i v w : Nat) (h : i ≠ 3) : (l.set 3 v).set i w = (l.set i w).set 3 v := List.set_comm _ _ (Ne.symm h)
theorem nameG_siz (v : Nat) (xs : List ByteArray) (m : Nat) (l : List Nat) (k b : Nat) : nameG noK xs m (l.set 3 v) k b = sizP v (nameG noK xs m l k b) := by
  unfold nameG sizP noK
  rw [getD_set_ne l 3 10 v (by omega)]
  by_cases h6 : k < 6
  · rw [if_pos h6, if_pos h6, set_comm3 _ _ _ _ (by omega)]
  · rw [if_neg h6, if_neg h6]
    split <;> rfl
theorem indG_siz (v : Nat) (xs : List ByteArray) (m : Nat) (l : List Nat) (k : Nat) : indG noK xs m (l.set 3 v) k = (indG noK xs m l k).map (sizP v) := by
  unfold indG
  rw [getD_set_ne l 3 10 v (by omega)]
  by_cases hc : k < 6 ∨ datB xs m (l.getD 10 0) = true
  · rw [if_pos hc, if_pos hc]; rfl
  · rw [if_neg hc, if_neg hc]
    cases takX xs m with
    | none => rfl
    | some r =>
      simp only [Option.map_some]
      unfold sizP noK
      rw [set_comm3 _ _ _ _ (by omega)]
theorem plaG_siz (v : Nat) (xs : List ByteArray) (m : Nat) (l : List Nat) (k : Nat) : plaG noK xs m (l.set 3 v) k = (plaG noK xs m l k).map fun r => (sizP v r.1, r.2) := by
  unfold plaG
  rw [atX_size]
  by_cases hc : atX xs m l k ≠ 0
  · rw [if_pos hc, if_pos hc]; rfl
  · rw [if_neg hc, if_neg hc, indG_siz]
    cases indG noK xs m l k with
    | none => rfl
    | some s =>
      simp only [Option.map_some, Option.bind_some]
      unfold sizP
      cases takX s.1 m with
      | none => rfl
      | some q =>
        simp only [Option.map_some]
        rw [nameG_siz]; rfl
theorem wriK_siz (v : Nat) (m off : Nat) (d : List UInt8) (k : Nat) (s : List ByteArray × List Nat) : wriK noK m off d k (sizP v s) = (wriK noK m off d k s).map (sizP v) := by
  unfold wriK
  have := plaG_siz v s.1 m s.2 k
  unfold sizP at this ⊢
  rw [this]
  cases plaG noK s.1 m s.2 k <;> rfl
theorem wriN_siz (v : Nat) (m off : Nat) (d : List UInt8) (s : List ByteArray × List Nat) : ∀ j, wriN noK m off d (sizP v s) j = (wriN noK m off d s j).map (sizP v)
  | 0 => rfl
  | j + 1 => by
    rw [wriN, wriN, wriN_siz v m off d s j]
    cases wriN noK m off d s j with
    | none => rfl
    | some q =>
      simp only [Option.map_some, Option.bind_some]
      exact wriK_siz v m off d _ q
/-! ### the pieces -/
theorem layX_twice (hb : b' < xs.length) {q : Nat} (h : q + d.length + e.length ≤ (xs.getD b' ⟨#[]⟩).size) : layX (layX xs b' q d) b' (q + d.length) e = layX xs b' q (d ++ e) := by
  have hz : (blkL xs b').length = (xs.getD b' ⟨#[]⟩).size := by unfold blkL; rw [Array.length_toList]; rfl
  have e0 : (layX xs b' q d).getD b' ⟨#[]⟩ = layB (xs.getD b' ⟨#[]⟩) q d := by
    unfold layX
    rw [getD_set' _ _ _ _ hb, if_pos rfl]
  unfold layX at e0 ⊢
  rw [List.set_set, e0]
  congr 1
  apply WideShapes.bytes_inj
  apply List.ext_getElem?
  intro i
  have f1 : ∀ (s : ByteArray) (q : Nat) (d : List UInt8), (layB s q d).data.toList = splL s.data.toList q d := fun s q d => layB_list s q d
  have hl : (xs.getD b' ⟨#[]⟩).data.toList.length = (xs.getD b' ⟨#[]⟩).size := by rw [Array.length_toList]; rfl
  rw [f1, f1, f1, splL_get (by rw [splL_len (by omega)]; omega), splL_get (by omega), splL_get (by rw [List.length_append]; omega), List.length_append]
  by_cases h1 : q + d.length ≤ i ∧ i < q + d.length + e.length
  · rw [if_pos h1, if_pos (by omega), List.getElem?_append_right (by omega)]
    congr 1; omega
  · rw [if_neg h1]
    by_cases h2 : q ≤ i ∧ i < q + d.length
    · rw [if_pos h2, if_pos (by omega), List.getElem?_append_left (by omega)]
    · rw [if_neg h2, if_neg (by omega)]
/-- the block within which the first part ends -/
theorem wriK_split (h : OkS xs.length m (xs, l)) (o : OwnS xs m l) (h70 : k < 70) (ha : off < 128 * (k + 1)) (h1 : 128 * k ≤ off + a.length) (h2 : off + a.length < 128 * (k + 1)) :
    wriK noK m off (a ++ b) k (xs, l) = (wriK noK m off a k (xs, l)).bind (wriK noK m (off + a.length) b k) := by
  unfold wriK
  cases hp : plaG noK xs m l k with
  | none => rfl
  | some r =>
    simp only [Option.map_some, Option.bind_some]
    have P := pla_mv h o h70 hp
    have ok := (plaG_ok (noK_ok m) h h70 hp).1
    have hat : atX r.1.1 m r.1.2 k = r.2 := by rw [P.at_ k h70, if_pos rfl]
    have e1 : (a.drop (128 * k - off)).take (128 - (off - 128 * k)) = a.drop (128 * k - off) := List.take_of_length_le (by rw [List.length_drop]; omega)
    have e2 : off - 128 * k + (a.drop (128 * k - off)).length = off + a.length - 128 * k := by rw [List.length_drop]; omega
    obtain ⟨c1, c2, c3⟩ := lay_mv (d := a.drop (128 * k - off)) P.mv.vol P.mv.own h70 hat P.ne (p := off - 128 * k) (by rw [e2]; omega)
    rw [e1]
    have hat2 : atX (layX r.1.1 r.2 (off - 128 * k) (a.drop (128 * k - off))) m r.1.2 k = r.2 := by
      have := c2 k (by omega)
      rw [slotX_lt h70, slotX_lt h70] at this
      rw [this]; exact hat
    have hp2 : plaG noK (layX r.1.1 r.2 (off - 128 * k) (a.drop (128 * k - off))) m r.1.2 k = some ((layX r.1.1 r.2 (off - 128 * k) (a.drop (128 * k - off)), r.1.2), r.2) := by
      unfold plaG
      rw [hat2, if_pos P.ne]
    rw [hp2]
    simp only [Option.map_some]
    have hd : datB r.1.1 m r.2 = true := by rw [← hat]; exact atX_dat (by rw [hat]; exact P.ne)
    have hlt := (datB_iff.1 hd).2
    have e3 : off + a.length - 128 * k = off - 128 * k + (a.drop (128 * k - off)).length := e2.symm
    rw [show 128 * k - (off + a.length) = 0 by omega, List.drop_zero, e3, layX_twice hlt (by
      rw [P.mv.vol.size _ hlt]
      have := List.length_take_le (128 - (off - 128 * k + (a.drop (128 * k - off)).length)) b
      omega)]
    have e4 : ((a ++ b).drop (128 * k - off)).take (128 - (off - 128 * k)) = a.drop (128 * k - off) ++ b.take (128 - (off - 128 * k + (a.drop (128 * k - off)).length)) := by
      have hle : 128 * k - off ≤ a.length := by omega
      have hl2 : (a.drop (128 * k - off)).length ≤ 128 - (off - 128 * k) := by omega
      rw [List.drop_append_of_le_length hle, List.take_append, List.take_of_length_le hl2]
      congr 2
      omega
    rw [e4]
theorem wriK_left (m off k : Nat) (a b : List UInt8) (s : List ByteArray × List Nat) (ha : off < 128 * (k + 1)) (h : 128 * (k + 1) ≤ off + a.length) : wriK noK m off (a ++ b) k s = wriK noK m off a k s := by
  have e : ((a ++ b).drop (128 * k - off)).take (128 - (off - 128 * k)) = (a.drop (128 * k - off)).take (128 - (off - 128 * k)) := by
    rw [List.drop_append_of_le_length (by omega), List.take_append_of_le_length (by rw [List.length_drop]; omega)]
  unfold wriK
  rw [e]
theorem wriK_right (m off k : Nat) (a b : List UInt8) (s : List ByteArray × List Nat) (h : off + a.length ≤ 128 * k) : wriK noK m off (a ++ b) k s = wriK noK m (off + a.length) b k s := by
  have e : ((a ++ b).drop (128 * k - off)).take (128 - (off - 128 * k)) = (b.drop (128 * k - (off + a.length))).take (128 - (off + a.length - 128 * k)) := by
    rw [List.drop_append, List.drop_eq_nil_of_le (by omega), List.nil_append]
    congr 1
    · omega
    · congr 1; omega
  unfold wriK
  rw [e, show off - 128 * k = off + a.length - 128 * k by omega]
/-- the whole blocks of the first part -/
theorem wriN_left (m off : Nat) (a b : List UInt8) (s : List ByteArray × List Nat) : ∀ j, 128 * (off / 128 + j) ≤ off + a.length → wriN noK m off (a ++ b) s j = wriN noK m off a s j
  | 0, _ => rfl
  | j + 1, h => by
    rw [wriN, wriN, wriN_left m off a b s j (by omega)]
    congr 1
    funext q
    exact wriK_left m off _ a b q (by omega) (by omega)
/-- one more block, where the first part ends within one -/
def midN (off n : Nat) : Nat := if (off + n) / 128 = (off + n - 1) / 128 then 1 else 0
theorem wriN_mid (h : OkS xs.length m (xs, l)) (o : OwnS xs m l) (ha : a ≠ []) (h89 : off + a.length ≤ 8960) :
    wriN noK m off (a ++ b) (xs, l) (fallN off a.length) = (wriN noK m off a (xs, l) (fallN off a.length)).bind fun q => wriN noK m (off + a.length) b q (midN off a.length) := by
  have hal : a.length ≠ 0 := by simpa using ha
  have hf : off / 128 + fallN off a.length = (off + a.length - 1) / 128 + 1 := by unfold fallN; rw [if_neg hal]; omega
  have hf0 : 0 < fallN off a.length := by unfold fallN; rw [if_neg hal]; omega
  unfold midN
  by_cases hm : (off + a.length) / 128 = (off + a.length - 1) / 128
  · rw [if_pos hm]
    obtain ⟨j, hj⟩ : ∃ j, fallN off a.length = j + 1 := ⟨fallN off a.length - 1, by omega⟩
    rw [hj] at hf ⊢
    rw [wriN, wriN, wriN_left m off a b _ j (by omega)]
    cases hw : wriN noK m off a (xs, l) j with
    | none => rfl
    | some q =>
      simp only [Option.bind_some]
      have p := wriN_mv h o j (by omega) hw
      obtain ⟨qx, ql⟩ := q
      have hk : (off + a.length) / 128 + 0 = off / 128 + j := by omega
      rw [wriK_split ⟨p.ok.vol, rfl, p.ok.fit⟩ p.mv.own (by omega) (by omega) (by omega) (by omega)]
      congr 1
      funext q
      rw [wriN, wriN, Option.bind_some, hk]
  · rw [if_neg hm, wriN_left m off a b _ _ (by omega)]
    cases wriN noK m off a (xs, l) (fallN off a.length) <;> rfl
theorem wriN_both (h : OkS xs.length m (xs, l)) (o : OwnS xs m l) (ha : a ≠ []) (h89 : off + a.length ≤ 8960) : ∀ i,
    wriN noK m off (a ++ b) (xs, l) (fallN off a.length + i) = (wriN noK m off a (xs, l) (fallN off a.length)).bind fun q => wriN noK m (off + a.length) b q (i + midN off a.length)
  | 0 => by rw [Nat.add_zero, Nat.zero_add]; exact wriN_mid h o ha h89
  | i + 1 => by
    have hal : a.length ≠ 0 := by simpa using ha
    have hf : off / 128 + fallN off a.length = (off + a.length - 1) / 128 + 1 := by unfold fallN; rw [if_neg hal]; omega
    have hm : (off + a.length) / 128 + midN off a.length = (off + a.length - 1) / 128 + 1 := by
      unfold midN
      split <;> omega
    rw [← Nat.add_assoc, wriN, wriN_both h o ha h89 i]
    cases wriN noK m off a (xs, l) (fallN off a.length) with
    | none => rfl
    | some q =>
      simp only [Option.bind_some]
      rw [show i + 1 + midN off a.length = i + midN off a.length + 1 by omega, wriN]
      congr 1
      funext t
      rw [wriK_right m off _ a b t (by omega)]
      congr 1
      omega
theorem growG_siz {en v : Nat} {t : List ByteArray × List Nat} (hl : t.2.length = 12) (h1 : sizeX t.2 < v) (h2 : v < en) (h3 : en ≤ 8960) : growG noK en (sizP v t) = growG noK en t := by
  have e : sizeX (sizP v t).2 = v := by
    show sizeX (t.2.set 3 v) = v
    rw [sizeX_set hl]; omega
  unfold growG
  rw [e, if_pos h2, if_pos (by omega)]
  unfold sizP noK
  simp only [List.set_set]
/-- what is written in one piece is what is written in two -/
theorem wriG_split (h : OkS xs.length m (xs, l)) (o : OwnS xs m l) (h89 : off + (a ++ b).length ≤ 8960) :
    wriG noK xs m l off (a ++ b) = (wriG noK xs m l off a).bind fun q => wriG noK q.1 m q.2 (off + a.length) b := by
  rw [List.length_append] at h89
  by_cases ha : a = []
  · subst ha
    have e : wriG noK xs m l off [] = some (xs, l) := by unfold wriG; rw [if_pos rfl]
    rw [e]
    simp only [Option.bind_some, List.nil_append, List.length_nil, Nat.add_zero]
  · by_cases hb : b = []
    · subst hb
      rw [List.append_nil]
      have e : ∀ q : List ByteArray × List Nat, wriG noK q.1 m q.2 (off + a.length) [] = some q := fun q => by unfold wriG; rw [if_pos rfl]
      simp only [e]
      cases wriG noK xs m l off a <;> rfl
    · have hal : a.length ≠ 0 := by simpa using ha
      have hbl : b.length ≠ 0 := by simpa using hb
      have hab : a ++ b ≠ [] := by simp [ha]
      have e1 : wriG noK xs m l off (a ++ b) = (wriN noK m off (a ++ b) (xs, l) (fallN off (a ++ b).length)).map (growG noK (off + (a ++ b).length)) := by unfold wriG; rw [if_neg hab]
      have e2 : wriG noK xs m l off a = (wriN noK m off a (xs, l) (fallN off a.length)).map (growG noK (off + a.length)) := by unfold wriG; rw [if_neg ha]
      have e3 : ∀ q : List ByteArray × List Nat, wriG noK q.1 m q.2 (off + a.length) b = (wriN noK m (off + a.length) b q (fallN (off + a.length) b.length)).map (growG noK (off + a.length + b.length)) := fun q => by unfold wriG; rw [if_neg hb]
      have hm : (off + a.length) / 128 + midN off a.length = (off + a.length - 1) / 128 + 1 := by
        unfold midN
        split <;> omega
      obtain ⟨i, hi⟩ : ∃ i, fallN off (a ++ b).length = fallN off a.length + i := ⟨fallN off (a ++ b).length - fallN off a.length, by
        unfold fallN; rw [List.length_append, if_neg (by omega), if_neg hal]; omega⟩
      have hi2 : fallN (off + a.length) b.length = i + midN off a.length := by
        unfold fallN at hi ⊢
        rw [List.length_append, if_neg (by omega), if_neg hal] at hi
        rw [if_neg hbl]; omega
      have h70 : off / 128 + fallN off a.length ≤ 70 := by unfold fallN; rw [if_neg hal]; omega
      have h70b : (off + a.length) / 128 + fallN (off + a.length) b.length ≤ 70 := by unfold fallN; rw [if_neg hbl]; omega
      rw [e1, e2, hi, wriN_both h o ha (by omega)]
      cases hw : wriN noK m off a (xs, l) (fallN off a.length) with
      | none => rfl
      | some q =>
        simp only [Option.bind_some, Option.map_some]
        have p := wriN_mv h o _ h70 hw
        rw [e3, hi2, List.length_append, ← Nat.add_assoc]
        by_cases hg : sizeX q.2 < off + a.length
        · have eg : growG noK (off + a.length) q = sizP (off + a.length) q := by unfold growG; rw [if_pos hg]; rfl
          rw [eg, wriN_siz]
          cases hw2 : wriN noK m (off + a.length) b q (i + midN off a.length) with
          | none => rfl
          | some t =>
            simp only [Option.map_some]
            obtain ⟨qx, ql⟩ := q
            have p2 := wriN_mv ⟨p.ok.vol, rfl, p.ok.fit⟩ p.mv.own _ (by rw [← hi2]; exact h70b) hw2
            have es : sizeX t.2 = sizeX ql := by unfold sizeX; rw [p2.size]
            rw [growG_siz p2.ok.fit.1 (by rw [es]; exact hg) (by omega) (by omega)]
        · have eg : growG noK (off + a.length) q = q := by unfold growG; rw [if_neg hg]
          rw [eg]
end
theorem writeO_some {V : List ByteArray} {m n off : Nat} {l : List Nat} {d : List UInt8} (hv : IsVol V m) (h1 : 1 ≤ n) (h2 : n ≤ m) (hl : off + d.length ≤ 8960) (hg : getR V (n : Int) = l) :
    writeO V (n : Int) (off : Int) d = match wriG noK V m l off d with | none => ([], 10) | some s => (putV s.1 n s.2, 0) := by
  unfold writeO
  rw [inoE_zero hv h1 h2, if_neg (by simp), if_neg (by omega), if_neg (by omega), mO_vol hv, hg, Int.toNat_natCast, Int.toNat_natCast]
  cases wriG noK V m l off d <;> rfl
/-- ExtentSplits, in plain words -/
theorem splits_plain {V : List ByteArray} (h : LaidS V) {off : Nat} {a b : List UInt8} (hw : (writeO V 2 off (a ++ b)).2 = 0) :
    (writeO V 2 off a).2 = 0 ∧ (writeO (writeO V 2 off a).1 2 ((off + a.length : Nat) : Int) b).2 = 0 ∧ LaidS (writeO V 2 off (a ++ b)).1 ∧ LaidS (writeO V 2 off a).1 ∧
    (writeO (writeO V 2 off a).1 2 ((off + a.length : Nat) : Int) b).1 = (writeO V 2 off (a ++ b)).1 := by
  have hv := h.snd.vol
  have g := h.snd.good 2 mem2
  rcases h.snd.write filesF_nodup mem2 (off : Int) (a ++ b) with ⟨_, _, c⟩ | ⟨_, c | c | c⟩
  · obtain ⟨r, ws, st, eW, eg⟩ := c.st
    have hs := c.small
    rw [Int.toNat_natCast] at hs eg
    have sp := wriG_split (a := a) (b := b) g.ok g.own hs
    rw [eg] at sp
    rw [List.length_append] at hs
    have hwa := writeO_some (d := a) hv (n := 2) (by omega) (by omega) (off := off) (by omega) rfl
    cases hq : wriG noK V 4 (getR V ((2 : Nat) : Int)) off a with
    | none => rw [hq] at sp; cases sp
    | some q =>
      rw [hq] at sp hwa
      simp only [Option.bind_some] at sp
      have ws2 := wriG_mv g.ok g.own (by omega) hq
      have st2 := h.snd.step filesF_nodup mem2 ws2.mv (ws2.good g (by omega))
      have hwa' : writeO V 2 off a = (putV q.1 2 q.2, 0) := hwa
      rw [hwa']
      have l2 := st2.laid h
      have hwb := writeO_some (d := b) l2.snd.vol (n := 2) (by omega) (by omega) (off := off + a.length) (by omega) st2.get
      rw [wriG_keep (by omega) (by omega) q.2 (xs := q.1) ⟨ws2.ok.vol, rfl, ws2.ok.fit⟩ (by omega), ← sp] at hwb
      have hwb' : writeO (putV q.1 2 q.2) 2 ((off + a.length : Nat) : Int) b = (putV (putV r.1 2 q.2) 2 r.2, 0) := hwb
      rw [putV_twice ws.ok.vol (by omega) (by omega)] at hwb'
      refine ⟨rfl, by rw [hwb'], st.laid h, l2, ?_⟩
      have eW' : (writeO V 2 off (a ++ b)).1 = putV r.1 2 r.2 := eW
      rw [hwb', eW']
  · exact absurd (c.1.symm.trans hw) (by decide)
  · exact absurd (c.1.symm.trans hw) (by decide)
  · exact absurd (c.1.symm.trans hw) (by decide)
end Go.Proofs.Ytjmafegckfijbaa
