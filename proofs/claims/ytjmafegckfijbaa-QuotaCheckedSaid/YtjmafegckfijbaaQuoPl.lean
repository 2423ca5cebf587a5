/-
  Limits of owners: what is set is told, and nothing else is another one (plain).
-/
import Derived.Test.YtjmafegckfijbaaQuoAlive
namespace Go.Proofs.Ytjmafegckfijbaa
set_option linter.unusedVariables false
set_option linter.unusedSimpArgs false
section
variable {xs : List ByteArray} {m : Nat}
theorem one_blk {p : Nat} {d : List UInt8} (h : IsVol xs m) {i : Nat} (hi : i ≠ 1) : blkL (layX xs 1 p d) i = blkL xs i := by
  have hl := h.len
  rw [layX_blk 1 p d (by omega) i, if_neg (by omega)]
theorem one_datB (p k : Nat) (d : List UInt8) : datB (layX xs 1 p d) m k = datB xs m k := datB_len m k (layX_length _ _ _ _)
theorem one_rawX {p : Nat} {d : List UInt8} (h : IsVol xs m) (l : List Nat) (k : Nat) : rawX (layX xs 1 p d) m l k = rawX xs m l k := by
  unfold rawX
  rw [one_datB]
  by_cases h6 : k < 6
  · rw [if_pos h6, if_pos h6]
  · rw [if_neg h6, if_neg h6]
    by_cases hd : datB xs m (l.getD 10 0) = true
    · rw [if_pos hd, if_pos hd, one_blk h (by have := datB_pos hd; omega)]
    · rw [if_neg hd, if_neg hd]
theorem one_atX {p : Nat} {d : List UInt8} (h : IsVol xs m) (l : List Nat) (k : Nat) : atX (layX xs 1 p d) m l k = atX xs m l k := by
  unfold atX
  rw [one_rawX h, one_datB]
theorem one_countX {p : Nat} {d : List UInt8} (h : IsVol xs m) (l : List Nat) : countX (layX xs 1 p d) m l = countX xs m l := by
  unfold countX manyX
  rw [one_datB, one_datB]
  have : (fun k => atX (layX xs 1 p d) m l k != 0) = fun k => atX xs m l k != 0 := by funext k; rw [one_atX h]
  rw [this]
variable {p : Nat} {d : List UInt8}
theorem one_inoE (h : IsVol xs m) (hp : p + d.length ≤ 128) (n : Int) : inoE (layX xs 1 p d) n = inoE xs n := by rw [inoE_vol h, inoE_vol (layX_one h hp)]
theorem one_getR (h : IsVol xs m) (hp : p + d.length ≤ 128) (n : Int) : getR (layX xs 1 p d) n = getR xs n := by
  unfold getR
  rw [one_inoE h hp]
  by_cases h0 : inoE xs n = 0
  · obtain ⟨m', k, hv, rfl, h1, h2, h3⟩ := inoE_ok h0
    rw [if_pos h0, if_pos h0, Int.toNat_natCast, one_blk h (by have := (blk_at h1 h2).1; omega)]
  · rw [if_neg h0, if_neg h0]
theorem one_countO (h : IsVol xs m) (hp : p + d.length ≤ 128) (n : Int) : countO (layX xs 1 p d) n = countO xs n := by
  unfold countO
  rw [one_inoE h hp, mO_vol h, mO_vol (layX_one h hp), one_getR h hp, one_countX h]
theorem one_allO (h : IsVol xs m) (hp : p + d.length ≤ 128) : allO (layX xs 1 p d) = allO xs := by
  unfold allO
  rw [ofR_some.2 h, ofR_some.2 (layX_one h hp)]
  dsimp only
  unfold allR
  apply List.filter_congr
  intro n hn
  have := List.mem_range'_1.1 hn
  unfold kindR
  rw [one_blk h (by have := (blk_at (m := m) (n := n) (by omega) (by omega)).1; omega)]
theorem one_used (h : IsVol xs m) (hp : p + d.length ≤ 128) (o : Int) : usedO (layX xs 1 p d) o = usedO xs o := by
  unfold usedO usedL
  rw [one_allO h hp]
  have e1 : hisB (layX xs 1 p d) o = hisB xs o := by funext n; unfold hisB; rw [one_getR h hp]
  have e2 : (fun n : Nat => countO (layX xs 1 p d) (n : Int)) = fun n : Nat => countO xs (n : Int) := by funext n; rw [one_countO h hp]
  rw [e1, e2]
theorem one_over (h : IsVol xs m) (hp : p + d.length ≤ 128) (o lm : Int) : overB (layX xs 1 p d) o lm = overB xs o lm := by
  unfold overB
  rw [one_used h hp]
theorem quoE_vol (h : IsVol xs m) (o : Int) : quoE xs o = if o < 0 ∨ 16 ≤ o then 1 else 0 := by unfold quoE; rw [ofR_some.2 h]
theorem one_quoE (h : IsVol xs m) (hp : p + d.length ≤ 128) (o : Int) : quoE (layX xs 1 p d) o = quoE xs o := by rw [quoE_vol h, quoE_vol (layX_one h hp)]
end
/-- two bytes of a row into which two bytes have been laid -/
theorem numAt_lay {bs d : List UInt8} {p q : Nat} (hd : d.length = 2) (hp : p + 2 ≤ bs.length) (hq : q + 2 ≤ bs.length) (h : p = q ∨ p + 2 ≤ q ∨ q + 2 ≤ p) :
    numAt (bs.take p ++ d ++ bs.drop (p + d.length)) q 2 = if p = q then leN d else numAt bs q 2 := by
  unfold numAt
  have key : ∀ i, i < 2 → (bs.take p ++ d ++ bs.drop (p + d.length))[q + i]? = if p = q then d[i]? else bs[q + i]? := fun i hi => by
    rw [List.append_assoc, List.getElem?_append, List.length_take, Nat.min_eq_left (by omega)]
    by_cases e : p = q
    · subst e
      rw [if_neg (by omega), if_pos rfl, List.getElem?_append, if_pos (by omega)]
      congr 1; omega
    · rw [if_neg e]
      by_cases h2 : q + i < p
      · rw [if_pos h2, List.getElem?_take, if_pos h2]
      · rw [if_neg h2, List.getElem?_append, if_neg (by omega), List.getElem?_drop]
        congr 1; omega
  by_cases e : p = q
  · rw [if_pos e]
    congr 1
    apply List.ext_getElem?
    intro i
    rw [List.getElem?_take]
    by_cases hi : i < 2
    · rw [if_pos hi, List.getElem?_drop, key i hi, if_pos e]
    · rw [if_neg hi, List.getElem?_eq_none (by omega)]
  · rw [if_neg e]
    congr 1
    apply List.ext_getElem?
    intro i
    rw [List.getElem?_take, List.getElem?_take]
    by_cases hi : i < 2
    · rw [if_pos hi, if_pos hi, List.getElem?_drop, List.getElem?_drop, key i hi, if_neg e]
    · rw [if_neg hi, if_neg hi]
theorem limN_lay {xs : List ByteArray} {m a k i : Nat} (h : IsVol xs m) (ha : a < 16) (hi : i < 16) (hk : k < 65536) : limN (layX xs 1 (2 * a) (putL k 2)) i = if a = i then k else limN xs i := by
  have hl := h.len
  have hb := h.blk 1 (by omega)
  unfold limN
  rw [layX_blk 1 _ _ (by omega) 1, if_pos rfl, numAt_lay (putL_length _ _) (by omega) (by omega) (by omega)]
  by_cases e : a = i
  · rw [if_pos (by omega), if_pos e, leN_putL, Nat.mod_eq_of_lt (by omega)]
  · rw [if_neg (by omega), if_neg e]
/-- two bytes here and two there: in either order -/
theorem lay_comm {bs d d' : List UInt8} {p q : Nat} (hd : d.length = 2) (hd' : d'.length = 2) (hp : p + 2 ≤ bs.length) (hq : q + 2 ≤ bs.length) (h : p + 2 ≤ q ∨ q + 2 ≤ p) :
    (bs.take p ++ d ++ bs.drop (p + d.length)).take q ++ d' ++ (bs.take p ++ d ++ bs.drop (p + d.length)).drop (q + d'.length)
      = (bs.take q ++ d' ++ bs.drop (q + d'.length)).take p ++ d ++ (bs.take q ++ d' ++ bs.drop (q + d'.length)).drop (p + d.length) := by
  have get : ∀ (bs d : List UInt8) (p i : Nat), d.length = 2 → p + 2 ≤ bs.length → (bs.take p ++ d ++ bs.drop (p + d.length))[i]? = if p ≤ i ∧ i < p + 2 then d[i - p]? else bs[i]? := fun bs d p i hd hp => by
    rw [List.append_assoc, List.getElem?_append, List.length_take, Nat.min_eq_left (by omega)]
    by_cases h1 : i < p
    · rw [if_pos h1, if_neg (by omega), List.getElem?_take, if_pos h1]
    · rw [if_neg h1, List.getElem?_append]
      by_cases h2 : i < p + 2
      · rw [if_pos (by omega), if_pos (by omega)]
      · rw [if_neg (by omega), if_neg (by omega), List.getElem?_drop]
        congr 1; omega
  have len : ∀ (bs d : List UInt8) (p : Nat), d.length = 2 → p + 2 ≤ bs.length → (bs.take p ++ d ++ bs.drop (p + d.length)).length = bs.length := fun bs d p hd hp => by
    simp only [List.length_append, List.length_take, List.length_drop]
    omega
  apply List.ext_getElem?
  intro i
  rw [get _ d' q i hd' (by rw [len bs d p hd hp]; exact hq), get bs d p i hd hp, get _ d p i hd (by rw [len bs d' q hd' hq]; exact hp), get bs d' q i hd' hq]
  by_cases h1 : p ≤ i ∧ i < p + 2
  · rw [if_neg (by omega), if_pos h1, if_pos h1]
  · rw [if_neg h1, if_neg h1]
theorem layX_comm {xs : List ByteArray} {m p q : Nat} {d d' : List UInt8} (h : IsVol xs m) (hd : d.length = 2) (hd' : d'.length = 2) (hp : p + 2 ≤ 128) (hq : q + 2 ≤ 128) (hpq : p + 2 ≤ q ∨ q + 2 ≤ p) :
    layX (layX xs 1 p d) 1 q d' = layX (layX xs 1 q d') 1 p d := by
  have hl := h.len
  have hb := h.blk 1 (by omega)
  have e1 : layX (layX xs 1 p d) 1 q d' = xs.set 1 (layB (layB (xs.getD 1 ⟨#[]⟩) p d) q d') := by
    unfold layX
    rw [getD_set' _ _ _ _ (by omega), if_pos rfl, List.set_set]
  have e2 : layX (layX xs 1 q d') 1 p d = xs.set 1 (layB (layB (xs.getD 1 ⟨#[]⟩) q d') p d) := by
    unfold layX
    rw [getD_set' _ _ _ _ (by omega), if_pos rfl, List.set_set]
  rw [e1, e2]
  congr 1
  apply bytes_set_self
  rw [layB_list, layB_list, layB_list, layB_list]
  exact lay_comm hd hd' (by unfold blkL at hb; omega) (by unfold blkL at hb; omega) hpq
end Go.Proofs.Ytjmafegckfijbaa
