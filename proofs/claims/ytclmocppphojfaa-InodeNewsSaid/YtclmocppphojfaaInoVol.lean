/-
  Inodes of a volume, put and got: plain.
-/
import Derived.Test.YtclmocppphojfaaInoLaw
namespace Go.Proofs.Ytclmocppphojfaa
set_option linter.unusedVariables false
set_option linter.unusedSimpArgs false
theorem atN_le (n : Nat) : atN n = 0 ∨ atN n = 64 := by unfold atN; omega
theorem blk_at {m n : Nat} (h1 : 1 ≤ n) (h2 : n ≤ m) : 3 ≤ blkN n ∧ blkN n < dataN m := by unfold blkN dataN; omega
theorem place_ne {n k : Nat} (h1 : 1 ≤ n) (h2 : 1 ≤ k) (h : n ≠ k) (hb : blkN n = blkN k) : atN k + 24 ≤ atN n ∨ atN n + 24 ≤ atN k := by
  unfold blkN at hb; unfold atN; omega
theorem putV_length (xs : List ByteArray) (n : Nat) (l : List Nat) : (putV xs n l).length = xs.length := by unfold putV; simp
theorem IsVol.putI {xs : List ByteArray} {m n : Nat} (h : IsVol xs m) (h1 : 1 ≤ n) (h2 : n ≤ m) (l : List Nat) : IsVol (putV xs n l) m := by
  have hb := blk_at h1 h2
  have hl := h.len
  have hs := h.size (blkN n) (by omega)
  exact h.set hb.1 (by rw [putInoB_size _ _ _ (by have := atN_le n; omega)]; exact hs)
theorem putV_blk {xs : List ByteArray} {m n : Nat} (h : IsVol xs m) (h1 : 1 ≤ n) (h2 : n ≤ m) (l : List Nat) (i : Nat) : blkL (putV xs n l) i = if blkN n = i then putInoL (blkL xs i) (atN n) l else blkL xs i := by
  have hb := blk_at h1 h2
  have hl := h.len
  unfold putV
  rw [blkL_set _ _ _ _ (by omega), putInoB_list]
  by_cases e : blkN n = i
  · rw [if_pos e, if_pos e, ← e]; rfl
  · rw [if_neg e, if_neg e]
theorem putV_getD {xs : List ByteArray} {m n : Nat} (h : IsVol xs m) (h1 : 1 ≤ n) (h2 : n ≤ m) (l : List Nat) (i : Nat) (hi : i ≠ blkN n) : (putV xs n l).getD i ⟨#[]⟩ = xs.getD i ⟨#[]⟩ := by
  have hb := blk_at h1 h2
  have hl := h.len
  unfold putV
  rw [getD_set' _ _ _ _ (by omega), if_neg (by omega)]
theorem inoE_vol {xs : List ByteArray} {m : Nat} (h : IsVol xs m) (n : Int) : inoE xs n = if n < 1 ∨ (m : Int) < n then 2 else 0 := by unfold inoE; rw [ofR_some.2 h]
theorem inoE_zero {xs : List ByteArray} {m n : Nat} (h : IsVol xs m) (h1 : 1 ≤ n) (h2 : n ≤ m) : inoE xs (n : Int) = 0 := by rw [inoE_vol h, if_neg (by omega)]
theorem getR_vol {xs : List ByteArray} {m n : Nat} (h : IsVol xs m) (h1 : 1 ≤ n) (h2 : n ≤ m) : getR xs (n : Int) = inoR (blkL xs (blkN n)) (atN n) := by
  unfold getR; rw [if_pos (inoE_zero h h1 h2), Int.toNat_natCast]
theorem ino_put_same {xs : List ByteArray} {m n : Nat} (h : IsVol xs m) (h1 : 1 ≤ n) (h2 : n ≤ m) {l : List Nat} (hl : FitN l) : inoR (blkL (putV xs n l) (blkN n)) (atN n) = l := by
  have hb := blk_at h1 h2
  have hv := h.len
  rw [putV_blk h h1 h2, if_pos rfl]
  exact inoR_put (by rw [h.blk _ (by omega)]; have := atN_le n; omega) hl
theorem ino_put_other {xs : List ByteArray} {m n k : Nat} (h : IsVol xs m) (h1 : 1 ≤ n) (h2 : n ≤ m) (h3 : 1 ≤ k) (h4 : k ≤ m) (hne : n ≠ k) (l : List Nat) : inoR (blkL (putV xs n l) (blkN k)) (atN k) = inoR (blkL xs (blkN k)) (atN k) := by
  have hb := blk_at h1 h2
  have hv := h.len
  rw [putV_blk h h1 h2]
  by_cases e : blkN n = blkN k
  · rw [if_pos e]
    exact inoR_other (by rw [h.blk _ (by omega)]; have := atN_le n; omega) (place_ne h1 h3 hne e)
  · rw [if_neg e]
theorem get_put_same {xs : List ByteArray} {m n : Nat} (h : IsVol xs m) (h1 : 1 ≤ n) (h2 : n ≤ m) {l : List Nat} (hl : FitN l) : getR (putV xs n l) (n : Int) = l := by
  rw [getR_vol (h.putI h1 h2 l) h1 h2, ino_put_same h h1 h2 hl]
theorem inoE_put {xs : List ByteArray} {m n : Nat} (h : IsVol xs m) (h1 : 1 ≤ n) (h2 : n ≤ m) (l : List Nat) (k : Int) : inoE (putV xs n l) k = inoE xs k := by
  rw [inoE_vol h, inoE_vol (h.putI h1 h2 l)]
theorem get_put_other {xs : List ByteArray} {m n : Nat} (h : IsVol xs m) (h1 : 1 ≤ n) (h2 : n ≤ m) (l : List Nat) (k : Int) (hne : k ≠ (n : Int)) : getR (putV xs n l) k = getR xs k := by
  by_cases hk : inoE xs k = 0
  · obtain ⟨m', j, hv', rfl, a, b, _⟩ := inoE_ok hk
    obtain rfl : m' = m := by
      have := (ofR_some.2 hv').symm.trans (ofR_some.2 h)
      exact Option.some.inj this
    rw [getR_vol (h.putI h1 h2 l) a b, getR_vol h a b, ino_put_other h h1 h2 a b (by omega) l]
  · unfold getR
    rw [inoE_put h h1 h2, if_neg hk, if_neg hk]
theorem kindR_ino (xs : List ByteArray) (n : Nat) : kindR xs n = (inoR (blkL xs (blkN n)) (atN n)).getD 0 0 := rfl
theorem kind_put_same {xs : List ByteArray} {m n : Nat} (h : IsVol xs m) (h1 : 1 ≤ n) (h2 : n ≤ m) {l : List Nat} (hl : FitN l) : kindR (putV xs n l) n = l.getD 0 0 := by
  rw [kindR_ino, ino_put_same h h1 h2 hl]
theorem kind_put_other {xs : List ByteArray} {m n k : Nat} (h : IsVol xs m) (h1 : 1 ≤ n) (h2 : n ≤ m) (h3 : 1 ≤ k) (h4 : k ≤ m) (hne : n ≠ k) (l : List Nat) : kindR (putV xs n l) k = kindR xs k := by
  rw [kindR_ino, ino_put_other h h1 h2 h3 h4 hne l, ← kindR_ino]
theorem bytes_set_self {s t : ByteArray} (h : s.data.toList = t.data.toList) : s = t := WideShapes.bytes_inj h
theorem putV_self {xs : List ByteArray} {m n : Nat} (h : IsVol xs m) (h1 : 1 ≤ n) (h2 : n ≤ m) : putV xs n (inoR (blkL xs (blkN n)) (atN n)) = xs := by
  have hb := blk_at h1 h2
  have hv := h.len
  have hl : blkN n < xs.length := by omega
  unfold putV
  have e : putInoB (xs.getD (blkN n) ⟨#[]⟩) (atN n) (inoR (blkL xs (blkN n)) (atN n)) = xs[blkN n] := by
    apply bytes_set_self
    rw [putInoB_list]
    have := putInoL_self (bs := blkL xs (blkN n)) (p := atN n) (by rw [h.blk _ (by omega)]; have := atN_le n; omega)
    unfold blkL at this ⊢
    rw [this, getD_eq xs _ hl]
  rw [e, List.set_getElem_self]
theorem putV_comm {xs : List ByteArray} {m n k : Nat} (h : IsVol xs m) (h1 : 1 ≤ n) (h2 : n ≤ m) (h3 : 1 ≤ k) (h4 : k ≤ m) (hne : n ≠ k) (x y : List Nat) : putV (putV xs n x) k y = putV (putV xs k y) n x := by
  have hb := blk_at h1 h2
  have hc := blk_at h3 h4
  have hv := h.len
  have i1 := h.putI h1 h2 x
  have i2 := h.putI h3 h4 y
  apply List.ext_getElem?
  intro i
  by_cases hi : i < xs.length
  · have g1 : (putV (putV xs n x) k y).getD i ⟨#[]⟩ = (putV (putV xs k y) n x).getD i ⟨#[]⟩ := by
      apply bytes_set_self
      show blkL _ i = blkL _ i
      rw [putV_blk i1 h3 h4, putV_blk h h1 h2, putV_blk i2 h1 h2, putV_blk h h3 h4]
      by_cases e1 : blkN n = i
      · by_cases e2 : blkN k = i
        · rw [if_pos e2, if_pos e1, if_pos e1, if_pos e2]
          have hbl := h.blk i hi
          exact putInoL_comm (by have := atN_le n; omega) (by have := atN_le k; omega) (place_ne h1 h3 hne (e1.trans e2.symm))
        · rw [if_neg e2, if_pos e1, if_pos e1, if_neg e2]
      · by_cases e2 : blkN k = i
        · rw [if_pos e2, if_neg e1, if_neg e1, if_pos e2]
        · rw [if_neg e2, if_neg e1, if_neg e1, if_neg e2]
    have l1 : i < (putV (putV xs n x) k y).length := by rw [putV_length, putV_length]; exact hi
    have l2 : i < (putV (putV xs k y) n x).length := by rw [putV_length, putV_length]; exact hi
    rw [getD_eq _ _ l1, getD_eq _ _ l2] at g1
    rw [List.getElem?_eq_getElem l1, List.getElem?_eq_getElem l2, g1]
  · rw [List.getElem?_eq_none (by rw [putV_length, putV_length]; omega), List.getElem?_eq_none (by rw [putV_length, putV_length]; omega)]
/-- an inode that fits: its numbers are naturals, and fit -/
theorem fits_nat {l : List Int} (hl : l.length = 12) (h : fitsR l = true) : ∃ nl : List Nat, l = nl.map (fun k : Nat => (k : Int)) ∧ FitN nl := by
  have hn := fitsR_nat hl h
  refine ⟨l.map Int.toNat, ?_, by simpa using hl, fun i => ?_⟩
  · rw [List.map_map]
    conv => lhs; rw [← List.map_id l]
    apply List.map_congr_left
    intro z hz
    have := hn z hz
    simp only [id, Function.comp]
    omega
  · unfold fitsR at h
    have := of_decide_eq_true (show decide _ = true from List.all_eq_true.1 h i (allF_mem i))
    have hi : fof i < l.length := by rw [hl]; exact fof_lt i
    have e1 : (l.map Int.toNat).getD (fof i) 0 = (l.getD (fof i) 0).toNat := by simp [List.getD, hi]
    rw [e1]
    have h2 := this.2
    have h3 : (256 : Int) ^ fsz i = ((256 ^ fsz i : Nat) : Int) := by simp
    omega
theorem fits_of_nat {nl : List Nat} (h : FitN nl) : fitsR (nl.map (fun k : Nat => (k : Int))) = true := by
  unfold fitsR
  rw [List.all_eq_true]
  intro i _
  unfold fitB
  have hi : fof i < nl.length := by rw [h.1]; exact fof_lt i
  have := h.2 i
  have e1 : (nl.map (fun k : Nat => (k : Int))).getD (fof i) 0 = ((nl.getD (fof i) 0 : Nat) : Int) := by simp [List.getD, hi]
  rw [e1]
  have h3 : (256 : Int) ^ fsz i = ((256 ^ fsz i : Nat) : Int) := by simp
  exact decide_eq_true ⟨by omega, by omega⟩
theorem toNat_map (nl : List Nat) : (nl.map (fun k : Nat => (k : Int))).map Int.toNat = nl := by
  rw [List.map_map]
  conv => rhs; rw [← List.map_id nl]
  apply List.map_congr_left
  intro z _
  simp
/-- whatever is put -/
theorem putO_cases {xs : List ByteArray} {n : Int} {l : List Int} (hl : l.length = 12) : ((putO xs n l).1 = [] ∧ (putO xs n l).2 ≠ 0) ∨ ∃ (m k : Nat) (nl : List Nat), IsVol xs m ∧ n = (k : Int) ∧ 1 ≤ k ∧ k ≤ m ∧ l = nl.map (fun k : Nat => (k : Int)) ∧ FitN nl ∧ putO xs n l = (putV xs k nl, 0) := by
  unfold putO
  by_cases h0 : inoE xs n = 0
  · rw [if_neg (by simpa using h0)]
    cases hf : fitsR l with
    | false => left; rw [if_pos rfl]; exact ⟨rfl, by decide⟩
    | true =>
      right
      obtain ⟨m, k, hv, rfl, a, b, _⟩ := inoE_ok h0
      obtain ⟨nl, rfl, hn⟩ := fits_nat hl hf
      exact ⟨m, k, nl, hv, rfl, a, b, rfl, hn, by rw [if_neg (by simp), Int.toNat_natCast, toNat_map]⟩
  · left; rw [if_pos h0]; exact ⟨rfl, h0⟩
theorem putO_ok {xs : List ByteArray} {m k : Nat} {nl : List Nat} (hv : IsVol xs m) (a : 1 ≤ k) (b : k ≤ m) (hn : FitN nl) : putO xs (k : Int) (nl.map (fun k : Nat => (k : Int))) = (putV xs k nl, 0) := by
  unfold putO
  rw [if_neg (by rw [inoE_zero hv a b]; simp), if_neg (by rw [fits_of_nat hn]; simp), Int.toNat_natCast, toNat_map]
theorem numAt_lt' (bs : List UInt8) (p k : Nat) : numAt bs p k < 256 ^ k := numAt_lt bs p k
theorem inoR_fit (bs : List UInt8) (p : Nat) : FitN (inoR bs p) := by
  refine ⟨rfl, fun i => ?_⟩
  have : ∀ i : Fin 12, ∃ q, (inoR bs p).getD (fof i) 0 = numAt bs q (fsz i) := fun i => by
    match i with
    | 0 => exact ⟨_, rfl⟩
    | 1 => exact ⟨_, rfl⟩
    | 2 => exact ⟨_, rfl⟩
    | 3 => exact ⟨_, rfl⟩
    | 4 => exact ⟨_, rfl⟩
    | 5 => exact ⟨_, rfl⟩
    | 6 => exact ⟨_, rfl⟩
    | 7 => exact ⟨_, rfl⟩
    | 8 => exact ⟨_, rfl⟩
    | 9 => exact ⟨_, rfl⟩
    | 10 => exact ⟨_, rfl⟩
    | 11 => exact ⟨_, rfl⟩
  obtain ⟨q, hq⟩ := this i
  rw [hq]
  exact numAt_lt _ _ _
theorem newL_fit {kind owner : Nat} (h1 : kind < 256) (h2 : owner < 256) : FitN (newL kind owner) := by
  refine ⟨rfl, fun i => ?_⟩
  match i with
  | 0 => exact h1
  | 1 => exact h2
  | 2 => exact (by decide : (1 : Nat) < 65536)
  | 3 => exact (by decide : (0 : Nat) < 4294967296)
  | 4 => exact (by decide : (0 : Nat) < 65536)
  | 5 => exact (by decide : (0 : Nat) < 65536)
  | 6 => exact (by decide : (0 : Nat) < 65536)
  | 7 => exact (by decide : (0 : Nat) < 65536)
  | 8 => exact (by decide : (0 : Nat) < 65536)
  | 9 => exact (by decide : (0 : Nat) < 65536)
  | 10 => exact (by decide : (0 : Nat) < 65536)
  | 11 => exact (by decide : (0 : Nat) < 65536)
end Go.Proofs.Ytclmocppphojfaa
