/-
  Volumes in plain words: a map of bits, the plan, what is taken and given back. No program in sight.
-/
import Derived.Test.YtclmocppphojfaaNum
namespace Go.Proofs.Ytclmocppphojfaa
open Go.RowKit
set_option linter.unusedVariables false
set_option linter.unusedSimpArgs false

/-! ### bits of a row of bytes -/
def bitL (l : List UInt8) (i : Nat) : Bool := (l.getD (i / 8) 0).toNat.testBit (i % 8)
def turnL (l : List UInt8) (i : Nat) : List UInt8 := l.set (i / 8) (l.getD (i / 8) 0 ^^^ UInt8.ofNat (2 ^ (i % 8)))
theorem turnL_length (l : List UInt8) (i : Nat) : (turnL l i).length = l.length := by simp [turnL]
theorem two_pow_lt (i : Nat) : 2 ^ (i % 8) < 256 := by
  have : 2 ^ (i % 8) ≤ 2 ^ 7 := Nat.pow_le_pow_right (by omega) (by omega)
  omega
theorem toNat_two_pow (i : Nat) : (UInt8.ofNat (2 ^ (i % 8))).toNat = 2 ^ (i % 8) := by
  rw [UInt8.toNat_ofNat']; exact Nat.mod_eq_of_lt (two_pow_lt i)
theorem getD_set {α : Type} (l : List α) (i j : Nat) (v d : α) (h : i < l.length) : (l.set i v).getD j d = if i = j then v else l.getD j d := by
  simp only [List.getD, List.getElem?_set]
  split <;> simp_all
theorem bitL_turn (l : List UInt8) (i j : Nat) (h : i / 8 < l.length) : bitL (turnL l i) j = (bitL l j != decide (i = j)) := by
  unfold bitL turnL
  rw [getD_set _ _ _ _ _ h]
  by_cases e : i / 8 = j / 8
  · rw [if_pos e, UInt8.toNat_xor, Nat.testBit_xor, toNat_two_pow, Nat.testBit_two_pow, ← e]
    by_cases e2 : i % 8 = j % 8
    · have : i = j := by omega
      simp [this]
    · have : i ≠ j := by rintro rfl; exact e2 rfl
      simp [e2, this]
  · have : i ≠ j := by rintro rfl; exact e rfl
    rw [if_neg e]; simp [this]
/-- how many of the first n bits are set -/
def cntL (l : List UInt8) (n : Nat) : Nat := ((List.range n).filter (bitL l ·)).length
theorem cntL_succ (l : List UInt8) (n : Nat) : cntL l (n + 1) = cntL l n + (if bitL l n then 1 else 0) := by
  unfold cntL
  rw [List.range_succ, List.filter_append, List.length_append]
  cases h : bitL l n <;> simp [List.filter_cons, h]
theorem cntL_le (l : List UInt8) (n : Nat) : cntL l n ≤ n := by
  unfold cntL
  have := List.length_filter_le (fun i => bitL l i) (List.range n)
  simpa using this
theorem cntL_turn (l : List UInt8) (i : Nat) (h : i / 8 < l.length) : ∀ n, cntL (turnL l i) n = if i < n then (if bitL l i then cntL l n - 1 else cntL l n + 1) else cntL l n := by
  intro n
  induction n with
  | zero => simp [cntL]
  | succ n ih =>
    rw [cntL_succ, cntL_succ, ih, bitL_turn l i n h]
    by_cases e : i = n
    · subst e
      have h0 : ¬ i < i := Nat.lt_irrefl _
      have h1 : i < i + 1 := Nat.lt_succ_self _
      simp only [h0, h1, if_false, if_true, decide_true]
      cases bitL l i <;> simp
    · have h2 : (i = n) = False := by simpa using e
      by_cases hl : i < n
      · have h1 : i < n + 1 := by omega
        simp only [hl, h1, if_true, h2, decide_false, Bool.bne_false]
        cases hb : bitL l i with
        | false =>
          simp only [Bool.false_eq_true, if_false]
          omega
        | true =>
          have h1 : 1 ≤ cntL l n := by
            unfold cntL
            have : i ∈ (List.range n).filter (bitL l ·) := by simp [hl, hb]
            exact List.length_pos_of_mem this
          simp only [if_true]
          omega
      · have h1 : ¬ i < n + 1 := by omega
        simp only [hl, h1, if_false, h2, decide_false, Bool.bne_false]
theorem cntL_clear (l : List UInt8) (n m : Nat) (hnm : n ≤ m) (h : ∀ i, n ≤ i → i < m → bitL l i = false) : cntL l m = cntL l n := by
  induction m with
  | zero => obtain rfl : n = 0 := by omega
            rfl
  | succ m ih =>
    by_cases e : n = m + 1
    · rw [e]
    · rw [cntL_succ, h m (by omega) (by omega), ih (by omega) (fun i a b => h i a (by omega))]; simp
def pop8 (b : UInt8) : Nat := ((List.range 8).filter fun i => b.toNat.testBit i).length
theorem cntL_bytes : ∀ l : List UInt8, cntL l (8 * l.length) = (l.map pop8).sum
  | [] => rfl
  | b :: l => by
    have ih := cntL_bytes l
    simp only [List.map_cons, List.sum_cons, ← ih, List.length_cons]
    rw [show 8 * (l.length + 1) = 8 + 8 * l.length by omega]
    have e1 : (List.range 8).filter (bitL (b :: l) ·) = (List.range 8).filter fun i => b.toNat.testBit i := List.filter_congr fun i hi => by
      simp only [List.mem_range] at hi
      unfold bitL
      rw [show i / 8 = 0 by omega, show i % 8 = i by omega]; rfl
    have e2 : (List.range (8 * l.length)).filter ((bitL (b :: l) ·) ∘ (8 + ·)) = (List.range (8 * l.length)).filter (bitL l ·) := List.filter_congr fun i hi => by
      simp only [Function.comp]
      unfold bitL
      rw [show (8 + i) / 8 = i / 8 + 1 by omega, show (8 + i) % 8 = i % 8 by omega]; rfl
    unfold cntL pop8
    rw [List.range_add, List.filter_append, List.length_append, List.filter_map, List.length_map, e1, e2]
/-! ### the plan -/
def planE (b m : Int) : Int := if b < 16 ∨ 223 < b ∨ m < 4 ∨ 64 < m then 2 else if b ≤ 3 + (m + 1) / 2 then 10 else 0
def dataN (m : Nat) : Nat := 3 + (m + 1) / 2
theorem planE_ok {b m : Int} (h : planE b m = 0) : 16 ≤ b ∧ b ≤ 223 ∧ 4 ≤ m ∧ m ≤ 64 ∧ 3 + (m + 1) / 2 < b := by
  unfold planE at h
  split at h
  · simp at h
  · split at h
    · simp at h
    · omega
theorem planE_iff {b m : Nat} : planE b m = 0 ↔ 16 ≤ b ∧ b ≤ 223 ∧ 4 ≤ m ∧ m ≤ 64 ∧ dataN m < b := by
  constructor
  · intro h
    have := planE_ok h
    unfold dataN
    omega
  · intro h
    unfold dataN at h
    unfold planE
    rw [if_neg (by omega), if_neg (by omega)]
def zerosB (n : Nat) : ByteArray := ⟨(List.replicate n 0).toArray⟩
theorem zerosB_size (n : Nat) : (zerosB n).size = n := by simp [zerosB, ByteArray.size]
theorem zerosB_list (n : Nat) : (zerosB n).data.toList = List.replicate n 0 := by simp [zerosB]
/-- the block 0 -/
def headL (b m : Nat) : List UInt8 := [104, 105, 98, 49] ++ putL b 2 ++ putL m 2 ++ List.replicate 120 0
def headB (b m : Nat) : ByteArray := ⟨(headL b m).toArray⟩
theorem headL_length (b m : Nat) : (headL b m).length = 128 := by simp [headL, putL_length]
theorem headB_size (b m : Nat) : (headB b m).size = 128 := by
  show (headL b m).toArray.size = 128
  rw [List.size_toArray, headL_length]
/-- the bytes of a block, of a volume -/
def blkL (xs : List ByteArray) (i : Nat) : List UInt8 := (xs.getD i ⟨#[]⟩).data.toList
def bitsOk (l : List UInt8) (d b : Nat) : Bool := (List.range 1024).all fun i => (!decide (i < d) || bitL l i) && (!decide (b ≤ i) || !bitL l i)
/-- is it a volume, of how many inodes? -/
def inoN (xs : List ByteArray) : Nat := leN (((blkL xs 0).drop 6).take 2)
def IsVol (xs : List ByteArray) (m : Nat) : Prop := (∀ s ∈ xs, s.size = 128) ∧ planE xs.length m = 0 ∧ xs.getD 0 ⟨#[]⟩ = headB xs.length m ∧ bitsOk (blkL xs 2) (dataN m) xs.length = true
instance (xs : List ByteArray) (m : Nat) : Decidable (IsVol xs m) := by unfold IsVol; infer_instance
def ofR (xs : List ByteArray) : Option Nat := if IsVol xs (inoN xs) then some (inoN xs) else none
theorem bitsOk_iff {l : List UInt8} {d b : Nat} : bitsOk l d b = true ↔ ∀ i, i < 1024 → (i < d → bitL l i = true) ∧ (b ≤ i → bitL l i = false) := by
  unfold bitsOk
  rw [List.all_eq_true]
  simp only [List.mem_range, Bool.and_eq_true, Bool.or_eq_true, Bool.not_eq_true', decide_eq_false_iff_not]
  constructor
  · intro h i hi
    obtain ⟨a, c⟩ := h i hi
    exact ⟨fun x => a.resolve_left (by simpa using x), fun x => c.resolve_left (by simpa using x)⟩
  · intro h i hi
    obtain ⟨a, c⟩ := h i hi
    refine ⟨?_, ?_⟩
    · by_cases x : i < d
      · exact .inr (a x)
      · exact .inl x
    · by_cases x : b ≤ i
      · exact .inr (c x)
      · exact .inl x
theorem head_ino (b m : Nat) (hm : m ≤ 64) : leN (((headL b m).drop 6).take 2) = m := by
  have e : ((headL b m).drop 6).take 2 = putL m 2 := by
    have h1 : (putL b 2).length = 2 := putL_length b 2
    have h2 : (putL m 2).length = 2 := putL_length m 2
    unfold headL
    rw [List.append_assoc, List.append_assoc, ← List.append_assoc, List.drop_left' (by simp [h1]), List.take_left' h2]
  rw [e, leN_putL]
  omega
theorem head_blocks (b m : Nat) (hb : b ≤ 65535) : leN (((headL b m).drop 4).take 2) = b := by
  have e : ((headL b m).drop 4).take 2 = putL b 2 := by
    have h1 : (putL b 2).length = 2 := putL_length b 2
    unfold headL
    rw [List.append_assoc, List.append_assoc, List.drop_left' (by simp), List.take_left' h1]
  rw [e, leN_putL]
  omega
theorem ofR_some {xs : List ByteArray} {m : Nat} : ofR xs = some m ↔ IsVol xs m := by
  unfold ofR
  constructor
  · intro h
    split at h
    · rename_i hv
      injection h with h
      rw [← h]; exact hv
    · cases h
  · intro h
    have hp := planE_iff.1 h.2.1
    have e : inoN xs = m := by
      unfold inoN blkL
      rw [h.2.2.1]
      show leN (((headL xs.length m).toArray.toList.drop 6).take 2) = m
      rw [List.toList_toArray, head_ino _ _ hp.2.2.2.1]
    rw [e, if_pos h]
theorem ofR_none {xs : List ByteArray} : ofR xs = none ↔ ¬ IsVol xs (inoN xs) := by
  unfold ofR
  split <;> simp_all
end Go.Proofs.Ytclmocppphojfaa
