/-
  Joined in one text: InoLaw, InoVol.
-/
import Derived.Test.YtoanladhikdcaaaGreatInoD
namespace Go.Proofs.YtoanladhikdcaaaGreat
set_option linter.unusedVariables false
set_option linter.unusedSimpArgs false
def putInoL (bs : List UInt8) (p : Nat) (l : List Nat) : List UInt8 := bs.take p ++ fbytes l allF ++ bs.drop (p + 24)
theorem putInoB_list (s : ByteArray) (p : Nat) (l : List Nat) : (putInoB s p l).data.toList = putInoL s.data.toList p l := by unfold putInoB putInoL; simp
theorem putInoL_len (bs : List UInt8) (p : Nat) (l : List Nat) (h : p + 24 ≤ bs.length) : (putInoL bs p l).length = bs.length := by
  unfold putInoL
  rw [List.length_append, List.length_append, fbytes_all_len, List.length_take, List.length_drop]
  omega
theorem putInoB_size (s : ByteArray) (p : Nat) (l : List Nat) (h : p + 24 ≤ s.size) : (putInoB s p l).size = s.size := by
  have := putInoL_len s.data.toList p l (by rw [Array.length_toList]; exact h)
  rw [← putInoB_list, Array.length_toList, Array.length_toList] at this
  exact this
theorem putInoL_get (bs : List UInt8) (p : Nat) (l : List Nat) (h : p + 24 ≤ bs.length) (i : Nat) : (putInoL bs p l)[i]? = if p ≤ i ∧ i < p + 24 then (fbytes l allF)[i - p]? else bs[i]? := by
  have hf := fbytes_all_len l
  unfold putInoL
  rw [List.append_assoc, List.getElem?_append]
  have htl : (bs.take p).length = p := by rw [List.length_take]; omega
  rw [htl]
  by_cases h1 : i < p
  · rw [if_pos h1, if_neg (by omega), List.getElem?_take, if_pos h1]
  · rw [if_neg h1, List.getElem?_append, hf]
    by_cases h2 : i < p + 24
    · rw [if_pos (by omega), if_pos (by omega)]
    · rw [if_neg (by omega), if_neg (by omega), List.getElem?_drop]
      congr 1
      omega
/-- what lies apart of an inode is as it was -/
theorem numAt_put_other (bs : List UInt8) (p : Nat) (l : List Nat) (h : p + 24 ≤ bs.length) (q k : Nat) (hq : q + k ≤ p ∨ p + 24 ≤ q) : numAt (putInoL bs p l) q k = numAt bs q k := by
  unfold numAt
  congr 1
  apply List.ext_getElem?
  intro i
  rw [List.getElem?_take, List.getElem?_take]
  by_cases hi : i < k
  · rw [if_pos hi, if_pos hi, List.getElem?_drop, List.getElem?_drop, putInoL_get _ _ _ h, if_neg (by omega)]
  · rw [if_neg hi, if_neg hi]
theorem numAt_put_same (bs : List UInt8) (p : Nat) (l : List Nat) (h : p + 24 ≤ bs.length) (o k : Nat) (hq : o + k ≤ 24) : numAt (putInoL bs p l) (p + o) k = leN (((fbytes l allF).drop o).take k) := by
  unfold numAt
  congr 1
  apply List.ext_getElem?
  intro i
  rw [List.getElem?_take, List.getElem?_take]
  by_cases hi : i < k
  · rw [if_pos hi, if_pos hi, List.getElem?_drop, List.getElem?_drop, putInoL_get _ _ _ h, if_pos (by omega)]
    congr 1
    omega
  · rw [if_neg hi, if_neg hi]
theorem len12 {α : Type} {l : List α} (h : l.length = 12) : ∃ a0 a1 a2 a3 a4 a5 a6 a7 a8 a9 a10 a11, l = [a0, a1, a2, a3, a4, a5, a6, a7, a8, a9, a10, a11] := by
  match l, h with
  | [a0, a1, a2, a3, a4, a5, a6, a7, a8, a9, a10, a11], _ => exact ⟨_, _, _, _, _, _, _, _, _, _, _, _, rfl⟩
/-- may the numbers of an inode be? -/
def FitN (l : List Nat) : Prop := l.length = 12 ∧ ∀ i : Fin 12, l.getD (fof i) 0 < 256 ^ fsz i
theorem inoR_put {bs : List UInt8} {p : Nat} {l : List Nat} (h : p + 24 ≤ bs.length) (hl : FitN l) : inoR (putInoL bs p l) p = l := by
  obtain ⟨hlen, hf⟩ := hl
  obtain ⟨a0, a1, a2, a3, a4, a5, a6, a7, a8, a9, a10, a11, rfl⟩ := len12 hlen
  have key : ∀ (o k a : Nat), o + k ≤ 24 → (((fbytes [a0, a1, a2, a3, a4, a5, a6, a7, a8, a9, a10, a11] allF).drop o).take k) = putL a k → a < 256 ^ k → numAt (putInoL bs p [a0, a1, a2, a3, a4, a5, a6, a7, a8, a9, a10, a11]) (p + o) k = a := fun o k a h1 h2 h3 => by
    rw [numAt_put_same _ _ _ h _ _ h1, h2, leN_putL, Nat.mod_eq_of_lt h3]
  have k0 := key 0 1 a0 (by omega) rfl (hf 0)
  rw [Nat.add_zero] at k0
  unfold inoR
  rw [k0, key 2 2 a1 (by omega) rfl (hf 2), key 1 1 a2 (by omega) rfl (hf 1), key 4 4 a3 (by omega) rfl (hf 3), key 8 2 a4 (by omega) rfl (hf 4), key 10 2 a5 (by omega) rfl (hf 5), key 12 2 a6 (by omega) rfl (hf 6), key 14 2 a7 (by omega) rfl (hf 7), key 16 2 a8 (by omega) rfl (hf 8), key 18 2 a9 (by omega) rfl (hf 9), key 20 2 a10 (by omega) rfl (hf 10), key 22 2 a11 (by omega) rfl (hf 11)]
theorem inoR_other {bs : List UInt8} {p q : Nat} {l : List Nat} (h : p + 24 ≤ bs.length) (hq : q + 24 ≤ p ∨ p + 24 ≤ q) : inoR (putInoL bs p l) q = inoR bs q := by
  unfold inoR
  rw [numAt_put_other _ _ _ h q 1 (by omega), numAt_put_other _ _ _ h (q + 2) 2 (by omega), numAt_put_other _ _ _ h (q + 1) 1 (by omega), numAt_put_other _ _ _ h (q + 4) 4 (by omega), numAt_put_other _ _ _ h (q + 8) 2 (by omega), numAt_put_other _ _ _ h (q + 10) 2 (by omega), numAt_put_other _ _ _ h (q + 12) 2 (by omega), numAt_put_other _ _ _ h (q + 14) 2 (by omega), numAt_put_other _ _ _ h (q + 16) 2 (by omega), numAt_put_other _ _ _ h (q + 18) 2 (by omega), numAt_put_other _ _ _ h (q + 20) 2 (by omega), numAt_put_other _ _ _ h (q + 22) 2 (by omega)]
theorem putInoL_comm {bs : List UInt8} {p q : Nat} {x y : List Nat} (h : p + 24 ≤ bs.length) (h' : q + 24 ≤ bs.length) (hq : q + 24 ≤ p ∨ p + 24 ≤ q) : putInoL (putInoL bs p x) q y = putInoL (putInoL bs q y) p x := by
  have e1 := putInoL_len bs p x h
  have e2 := putInoL_len bs q y h'
  apply List.ext_getElem?
  intro i
  rw [putInoL_get _ _ _ (by omega), putInoL_get _ _ _ h, putInoL_get _ _ _ (by omega), putInoL_get _ _ _ h']
  by_cases h1 : q ≤ i ∧ i < q + 24
  · rw [if_pos h1, if_neg (by omega), if_pos h1]
  · rw [if_neg h1]
    by_cases h2 : p ≤ i ∧ i < p + 24
    · rw [if_pos h2, if_pos h2]
    · rw [if_neg h2, if_neg h2, if_neg h1]
theorem chunk (l : List UInt8) (a k : Nat) : l.take a ++ (l.drop a).take k = l.take (a + k) := by
  rw [List.take_add]
theorem putL_numAt (bs : List UInt8) (q k : Nat) (h : q + k ≤ bs.length) : putL (numAt bs q k) k = (bs.drop q).take k := by
  unfold numAt
  have hl : ((bs.drop q).take k).length = k := by rw [List.length_take, List.length_drop]; omega
  have := putL_leN ((bs.drop q).take k)
  rwa [hl] at this
theorem putInoL_self {bs : List UInt8} {p : Nat} (h : p + 24 ≤ bs.length) : putInoL bs p (inoR bs p) = bs := by
  have hb : fbytes (inoR bs p) allF = (bs.drop p).take 24 := by
    have e : fbytes (inoR bs p) allF = putL (numAt bs p 1) 1 ++ (putL (numAt bs (p + 1) 1) 1 ++ (putL (numAt bs (p + 2) 2) 2 ++ (putL (numAt bs (p + 4) 4) 4 ++ (putL (numAt bs (p + 8) 2) 2 ++ (putL (numAt bs (p + 10) 2) 2 ++ (putL (numAt bs (p + 12) 2) 2 ++ (putL (numAt bs (p + 14) 2) 2 ++ (putL (numAt bs (p + 16) 2) 2 ++ (putL (numAt bs (p + 18) 2) 2 ++ (putL (numAt bs (p + 20) 2) 2 ++ (putL (numAt bs (p + 22) 2) 2 ++ []))))))))))) := rfl
    rw [e, putL_numAt _ _ _ (by omega), putL_numAt _ _ _ (by omega), putL_numAt _ _ _ (by omega), putL_numAt _ _ _ (by omega), putL_numAt _ _ _ (by omega), putL_numAt _ _ _ (by omega), putL_numAt _ _ _ (by omega), putL_numAt _ _ _ (by omega), putL_numAt _ _ _ (by omega), putL_numAt _ _ _ (by omega), putL_numAt _ _ _ (by omega), putL_numAt _ _ _ (by omega)]
    simp only [← List.drop_drop, ← List.append_assoc, chunk, List.append_nil, Nat.reduceAdd]
  unfold putInoL
  rw [hb, List.append_assoc]
  conv => rhs; rw [← List.take_append_drop p bs]
  congr 1
  rw [← List.drop_drop]
  exact List.take_append_drop 24 _
end Go.Proofs.YtoanladhikdcaaaGreat

namespace Go.Proofs.YtoanladhikdcaaaGreat
set_option linter.unusedVariables false
set_option linter.unusedSimpArgs false
theorem atN_le (n : Nat) : atN n = 0 ∨ atN n = 64 := by unfold atN; omega
theorem blk_at {m n : Nat} (h1 : 1 ≤ n) (h2 : n ≤ m) : 3 ≤ blkN n ∧ blkN n < dataN m := by unfold blkN dataN; omega
theorem place_ne {n k : Nat} (h1 : 1 ≤ n) (h2 : 1 ≤ k) (h : n ≠ k) (hb : blkN n = blkN k) : atN k + 24 ≤ atN n ∨ atN n + 24 ≤ atN k := by
  unfold blkN at hb; unfold atN; omega
theorem putV_length (xs : List ByteArray) (n : Nat) (l : List Nat) : (putV xs n l).length = xs.length := by unfold putV; simp
theorem IsVol.putI {xs : List ByteArray} {m n : Nat} (h : IsVol xs m) (h1 : 1 ≤ n) (h2 : n ≤ m) (l : List Nat) : IsVol (putV xs n l) m := by
  have hb := blk_at h1 h2
  have hl := h.len
  have hs := h.size (blkN n) (by omega)
  exact h.set hb.1 (by rw [putInoB_size _ _ _ (by have := atN_le n; omega)]; exact hs)
theorem putV_blk {xs : List ByteArray} {m n : Nat} (h : IsVol xs m) (h1 : 1 ≤ n) (h2 : n ≤ m) (l : List Nat) (i : Nat) : blkL (putV xs n l) i = if blkN n = i then putInoL (blkL xs i) (atN n) l else blkL xs i := by
  have hb := blk_at h1 h2
  have hl := h.len
  unfold putV
  rw [blkL_set _ _ _ _ (by omega), putInoB_list]
  by_cases e : blkN n = i
  · rw [if_pos e, if_pos e, ← e]; rfl
  · rw [if_neg e, if_neg e]
theorem putV_getD {xs : List ByteArray} {m n : Nat} (h : IsVol xs m) (h1 : 1 ≤ n) (h2 : n ≤ m) (l : List Nat) (i : Nat) (hi : i ≠ blkN n) : (putV xs n l).getD i ⟨#[]⟩ = xs.getD i ⟨#[]⟩ := by
  have hb := blk_at h1 h2
  have hl := h.len
  unfold putV
  rw [getD_set' _ _ _ _ (by omega), if_neg (by omega)]
theorem inoE_vol {xs : List ByteArray} {m : Nat} (h : IsVol xs m) (n : Int) : inoE xs n = if n < 1 ∨ (m : Int) < n then 2 else 0 := by unfold inoE; rw [ofR_some.2 h]
theorem inoE_zero {xs : List ByteArray} {m n : Nat} (h : IsVol xs m) (h1 : 1 ≤ n) (h2 : n ≤ m) : inoE xs (n : Int) = 0 := by rw [inoE_vol h, if_neg (by omega)]
theorem getR_vol {xs : List ByteArray} {m n : Nat} (h : IsVol xs m) (h1 : 1 ≤ n) (h2 : n ≤ m) : getR xs (n : Int) = inoR (blkL xs (blkN n)) (atN n) := by
  unfold getR; rw [if_pos (inoE_zero h h1 h2), Int.toNat_natCast]
theorem ino_put_same {xs : List ByteArray} {m n : Nat} (h : IsVol xs m) (h1 : 1 ≤ n) (h2 : n ≤ m) {l : List Nat} (hl : FitN l) : inoR (blkL (putV xs n l) (blkN n)) (atN n) = l := by
  have hb := blk_at h1 h2
  have hv := h.len
  rw [putV_blk h h1 h2, if_pos rfl]
  exact inoR_put (by rw [h.blk _ (by omega)]; have := atN_le n; omega) hl
theorem ino_put_other {xs : List ByteArray} {m n k : Nat} (h : IsVol xs m) (h1 : 1 ≤ n) (h2 : n ≤ m) (h3 : 1 ≤ k) (h4 : k ≤ m) (hne : n ≠ k) (l : List Nat) : inoR (blkL (putV xs n l) (blkN k)) (atN k) = inoR (blkL xs (blkN k)) (atN k) := by
  have hb := blk_at h1 h2
  have hv := h.len
  rw [putV_blk h h1 h2]
  by_cases e : blkN n = blkN k
  · rw [if_pos e]
    exact inoR_other (by rw [h.blk _ (by omega)]; have := atN_le n; omega) (place_ne h1 h3 hne e)
  · rw [if_neg e]
theorem get_put_same {xs : List ByteArray} {m n : Nat} (h : IsVol xs m) (h1 : 1 ≤ n) (h2 : n ≤ m) {l : List Nat} (hl : FitN l) : getR (putV xs n l) (n : Int) = l := by
  rw [getR_vol (h.putI h1 h2 l) h1 h2, ino_put_same h h1 h2 hl]
theorem inoE_put {xs : List ByteArray} {m n : Nat} (h : IsVol xs m) (h1 : 1 ≤ n) (h2 : n ≤ m) (l : List Nat) (k : Int) : inoE (putV xs n l) k = inoE xs k := by
  rw [inoE_vol h, inoE_vol (h.putI h1 h2 l)]
theorem get_put_other {xs : List ByteArray} {m n : Nat} (h : IsVol xs m) (h1 : 1 ≤ n) (h2 : n ≤ m) (l : List Nat) (k : Int) (hne : k ≠ (n : Int)) : getR (putV xs n l) k = getR xs k := by
  by_cases hk : inoE xs k = 0
  · obtain ⟨m', j, hv', rfl, a, b, _⟩ := inoE_ok hk
    obtain rfl : m' = m := by
      have := (ofR_some.2 hv').symm.trans (ofR_some.2 h)
      exact Option.some.inj this
    rw [getR_vol (h.putI h1 h2 l) a b, getR_vol h a b, ino_put_other h h1 h2 a b (by omega) l]
  · unfold getR
    rw [inoE_put h h1 h2, if_neg hk, if_neg hk]
theorem kindR_ino (xs : List ByteArray) (n : Nat) : kindR xs n = (inoR (blkL xs (blkN n)) (atN n)).getD 0 0 := rfl
theorem kind_put_same {xs : List ByteArray} {m n : Nat} (h : IsVol xs m) (h1 : 1 ≤ n) (h2 : n ≤ m) {l : List Nat} (hl : FitN l) : kindR (putV xs n l) n = l.getD 0 0 := by
  rw [kindR_ino, ino_put_same h h1 h2 hl]
theorem kind_put_other {xs : List ByteArray} {m n k : Nat} (h : IsVol xs m) (h1 : 1 ≤ n) (h2 : n ≤ m) (h3 : 1 ≤ k) (h4 : k ≤ m) (hne : n ≠ k) (l : List Nat) : kindR (putV xs n l) k = kindR xs k := by
  rw [kindR_ino, ino_put_other h h1 h2 h3 h4 hne l, ← kindR_ino]
theorem bytes_set_self {s t : ByteArray} (h : s.data.toList = t.data.toList) : s = t := WideShapes.bytes_inj h
theorem putV_self {xs : List ByteArray} {m n : Nat} (h : IsVol xs m) (h1 : 1 ≤ n) (h2 : n ≤ m) : putV xs n (inoR (blkL xs (blkN n)) (atN n)) = xs := by
  have hb := blk_at h1 h2
  have hv := h.len
  have hl : blkN n < xs.length := by omega
  unfold putV
  have e : putInoB (xs.getD (blkN n) ⟨#[]⟩) (atN n) (inoR (blkL xs (blkN n)) (atN n)) = xs[blkN n] := by
    apply bytes_set_self
    rw [putInoB_list]
    have := putInoL_self (bs := blkL xs (blkN n)) (p := atN n) (by rw [h.blk _ (by omega)]; have := atN_le n; omega)
    unfold blkL at this ⊢
    rw [this, getD_eq xs _ hl]
  rw [e, List.set_getElem_self]
theorem putV_comm {xs : List ByteArray} {m n k : Nat} (h : IsVol xs m) (h1 : 1 ≤ n) (h2 : n ≤ m) (h3 : 1 ≤ k) (h4 : k ≤ m) (hne : n ≠ k) (x y : List Nat) : putV (putV xs n x) k y = putV (putV xs k y) n x := by
  have hb := blk_at h1 h2
  have hc := blk_at h3 h4
  have hv := h.len
  have i1 := h.putI h1 h2 x
  have i2 := h.putI h3 h4 y
  apply List.ext_getElem?
  intro i
  by_cases hi : i < xs.length
  · have g1 : (putV (putV xs n x) k y).getD i ⟨#[]⟩ = (putV (putV xs k y) n x).getD i ⟨#[]⟩ := by
      apply bytes_set_self
      show blkL _ i = blkL _ i
      rw [putV_blk i1 h3 h4, putV_blk h h1 h2, putV_blk i2 h1 h2, putV_blk h h3 h4]
      by_cases e1 : blkN n = i
      · by_cases e2 : blkN k = i
        · rw [if_pos e2, if_pos e1, if_pos e1, if_pos e2]
          have hbl := h.blk i hi
          exact putInoL_comm (by have := atN_le n; omega) (by have := atN_le k; omega) (place_ne h1 h3 hne (e1.trans e2.symm))
        · rw [if_neg e2, if_pos e1, if_pos e1, if_neg e2]
      · by_cases e2 : blkN k = i
        · rw [if_pos e2, if_neg e1, if_neg e1, if_pos e2]
        · rw [if_neg e2, if_neg e1, if_neg e1, if_neg e2]
    have l1 : i < (putV (putV xs n x) k y).length := by rw [putV_length, putV_length]; exact hi
    have l2 : i < (putV (putV xs k y) n x).length := by rw [putV_length, putV_length]; exact hi
    rw [getD_eq _ _ l1, getD_eq _ _ l2] at g1
    rw [List.getElem?_eq_getElem l1, List.getElem?_eq_getElem l2, g1]
  · rw [List.getElem?_eq_none (by rw [putV_length, putV_length]; omega), List.getElem?_eq_none (by rw [putV_length, putV_length]; omega)]
/-- an inode that fits: its numbers are naturals, and fit -/
theorem fits_nat {l : List Int} (hl : l.length = 12) (h : fitsR l = true) : ∃ nl : List Nat, l = nl.map (fun k : Nat => (k : Int)) ∧ FitN nl := by
  have hn := fitsR_nat hl h
  refine ⟨l.map Int.toNat, ?_, by simpa using hl, fun i => ?_⟩
  · rw [List.map_map]
    conv => lhs; rw [← List.map_id l]
    apply List.map_congr_left
    intro z hz
    have := hn z hz
    simp only [id, Function.comp]
    omega
  · unfold fitsR at h
    have := of_decide_eq_true (show decide _ = true from List.all_eq_true.1 h i (allF_mem i))
    have hi : fof i < l.length := by rw [hl]; exact fof_lt i
    have e1 : (l.map Int.toNat).getD (fof i) 0 = (l.getD (fof i) 0).toNat := by simp [List.getD, hi]
    rw [e1]
    have h2 := this.2
    have h3 : (256 : Int) ^ fsz i = ((256 ^ fsz i : Nat) : Int) := by simp
    omega
theorem fits_of_nat {nl : List Nat} (h : FitN nl) : fitsR (nl.map (fun k : Nat => (k : Int))) = true := by
  unfold fitsR
  rw [List.all_eq_true]
  intro i _
  unfold fitB
  have hi : fof i < nl.length := by rw [h.1]; exact fof_lt i
  have := h.2 i
  have e1 : (nl.map (fun k : Nat => (k : Int))).getD (fof i) 0 = ((nl.getD (fof i) 0 : Nat) : Int) := by simp [List.getD, hi]
  rw [e1]
  have h3 : (256 : Int) ^ fsz i = ((256 ^ fsz i : Nat) : Int) := by simp
  exact decide_eq_true ⟨by omega, by omega⟩
theorem toNat_map (nl : List Nat) : (nl.map (fun k : Nat => (k : Int))).map Int.toNat = nl := by
  rw [List.map_map]
  conv => rhs; rw [← List.map_id nl]
  apply List.map_congr_left
  intro z _
  simp
/-- whatever is put -/
theorem putO_cases {xs : List ByteArray} {n : Int} {l : List Int} (hl : l.length = 12) : ((putO xs n l).1 = [] ∧ (putO xs n l).2 ≠ 0) ∨ ∃ (m k : Nat) (nl : List Nat), IsVol xs m ∧ n = (k : Int) ∧ 1 ≤ k ∧ k ≤ m ∧ l = nl.map (fun k : Nat => (k : Int)) ∧ FitN nl ∧ putO xs n l = (putV xs k nl, 0) := by
  unfold putO
  by_cases h0 : inoE xs n = 0
  · rw [if_neg (by simpa using h0)]
    cases hf : fitsR l with
    | false => left; rw [if_pos rfl]; exact ⟨rfl, by decide⟩
    | true =>
      right
      obtain ⟨m, k, hv, rfl, a, b, _⟩ := inoE_ok h0
      obtain ⟨nl, rfl, hn⟩ := fits_nat hl hf
      exact ⟨m, k, nl, hv, rfl, a, b, rfl, hn, by rw [if_neg (by simp), Int.toNat_natCast, toNat_map]⟩
  · left; rw [if_pos h0]; exact ⟨rfl, h0⟩
theorem putO_ok {xs : List ByteArray} {m k : Nat} {nl : List Nat} (hv : IsVol xs m) (a : 1 ≤ k) (b : k ≤ m) (hn : FitN nl) : putO xs (k : Int) (nl.map (fun k : Nat => (k : Int))) = (putV xs k nl, 0) := by
  unfold putO
  rw [if_neg (by rw [inoE_zero hv a b]; simp), if_neg (by rw [fits_of_nat hn]; simp), Int.toNat_natCast, toNat_map]
theorem numAt_lt' (bs : List UInt8) (p k : Nat) : numAt bs p k < 256 ^ k := numAt_lt bs p k
theorem inoR_fit (bs : List UInt8) (p : Nat) : FitN (inoR bs p) := by
  refine ⟨rfl, fun i => ?_⟩
  have : ∀ i : Fin 12, ∃ q, (inoR bs p).getD (fof i) 0 = numAt bs q (fsz i) := fun i => by
    match i with
    | 0 => exact ⟨_, rfl⟩
    | 1 => exact ⟨_, rfl⟩
    | 2 => exact ⟨_, rfl⟩
    | 3 => exact ⟨_, rfl⟩
    | 4 => exact ⟨_, rfl⟩
    | 5 => exact ⟨_, rfl⟩
    | 6 => exact ⟨_, rfl⟩
    | 7 => exact ⟨_, rfl⟩
    | 8 => exact ⟨_, rfl⟩
    | 9 => exact ⟨_, rfl⟩
    | 10 => exact ⟨_, rfl⟩
    | 11 => exact ⟨_, rfl⟩
  obtain ⟨q, hq⟩ := this i
  rw [hq]
  exact numAt_lt _ _ _
theorem newL_fit {kind owner : Nat} (h1 : kind < 256) (h2 : owner < 256) : FitN (newL kind owner) := by
  refine ⟨rfl, fun i => ?_⟩
  match i with
  | 0 => exact h1
  | 1 => exact h2
  | 2 => exact (by decide : (1 : Nat) < 65536)
  | 3 => exact (by decide : (0 : Nat) < 4294967296)
  | 4 => exact (by decide : (0 : Nat) < 65536)
  | 5 => exact (by decide : (0 : Nat) < 65536)
  | 6 => exact (by decide : (0 : Nat) < 65536)
  | 7 => exact (by decide : (0 : Nat) < 65536)
  | 8 => exact (by decide : (0 : Nat) < 65536)
  | 9 => exact (by decide : (0 : Nat) < 65536)
  | 10 => exact (by decide : (0 : Nat) < 65536)
  | 11 => exact (by decide : (0 : Nat) < 65536)
end Go.Proofs.YtoanladhikdcaaaGreat
