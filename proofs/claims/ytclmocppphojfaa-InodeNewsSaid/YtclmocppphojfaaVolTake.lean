/-
  Volumes in plain words: taking and giving back.
-/
import Derived.Test.YtclmocppphojfaaVol
namespace Go.Proofs.Ytclmocppphojfaa
open Go.RowKit
set_option linter.unusedVariables false
set_option linter.unusedSimpArgs false

theorem blkL_set (xs : List ByteArray) (i j : Nat) (s : ByteArray) (h : i < xs.length) : blkL (xs.set i s) j = if i = j then s.data.toList else blkL xs j := by
  unfold blkL
  rw [getD_set _ _ _ _ _ h]
  split <;> rfl
theorem getD_set' (xs : List ByteArray) (i j : Nat) (s : ByteArray) (h : i < xs.length) : (xs.set i s).getD j ⟨#[]⟩ = if i = j then s else xs.getD j ⟨#[]⟩ := getD_set _ _ _ _ _ h
/-- a volume with one bit of the map turned -/
def turnB (s : ByteArray) (i : Nat) : ByteArray := ⟨(turnL s.data.toList i).toArray⟩
theorem turnB_list (s : ByteArray) (i : Nat) : (turnB s i).data.toList = turnL s.data.toList i := by simp [turnB]
theorem turnB_size (s : ByteArray) (i : Nat) : (turnB s i).size = s.size := by
  show (turnL s.data.toList i).toArray.size = s.data.size
  rw [List.size_toArray, turnL_length]; simp
def turnV (xs : List ByteArray) (i : Nat) : List ByteArray := xs.set 2 (turnB (xs.getD 2 ⟨#[]⟩) i)
theorem turnV_length (xs : List ByteArray) (i : Nat) : (turnV xs i).length = xs.length := by simp [turnV]
theorem turnV_map {xs : List ByteArray} {i : Nat} (h : 2 < xs.length) : blkL (turnV xs i) 2 = turnL (blkL xs 2) i := by
  unfold turnV
  rw [blkL_set _ _ _ _ h, if_pos rfl, turnB_list]; rfl
theorem IsVol.len {xs : List ByteArray} {m : Nat} (h : IsVol xs m) : 16 ≤ xs.length ∧ xs.length ≤ 223 ∧ 4 ≤ m ∧ m ≤ 64 ∧ dataN m < xs.length ∧ 5 ≤ dataN m ∧ dataN m ≤ 35 := by
  have := planE_iff.1 h.2.1
  have e : dataN m = 3 + (m + 1) / 2 := rfl
  omega
theorem IsVol.size {xs : List ByteArray} {m : Nat} (h : IsVol xs m) (i : Nat) (hi : i < xs.length) : (xs.getD i ⟨#[]⟩).size = 128 := by
  apply h.1
  simp only [List.getD, List.getElem?_eq_getElem hi, Option.getD_some]
  exact List.getElem_mem hi
theorem IsVol.blk {xs : List ByteArray} {m : Nat} (h : IsVol xs m) (i : Nat) (hi : i < xs.length) : (blkL xs i).length = 128 := by
  have := h.size i hi
  unfold blkL
  rw [Array.length_toList]; exact this
theorem IsVol.set {xs : List ByteArray} {m i : Nat} {s : ByteArray} (h : IsVol xs m) (h3 : 3 ≤ i) (hs : s.size = 128) : IsVol (xs.set i s) m := by
  have hl := h.len
  by_cases hi : i < xs.length
  · refine ⟨fun t ht => ?_, by rw [List.length_set]; exact h.2.1, ?_, ?_⟩
    · rcases List.mem_or_eq_of_mem_set ht with a | a
      · exact h.1 t a
      · rw [a]; exact hs
    · rw [List.length_set, getD_set' _ _ _ _ hi, if_neg (by omega)]; exact h.2.2.1
    · rw [List.length_set, blkL_set _ _ _ _ hi, if_neg (by omega)]; exact h.2.2.2
  · rw [List.set_eq_of_length_le (by omega)]; exact h
theorem IsVol.turn {xs : List ByteArray} {m i : Nat} (h : IsVol xs m) (h1 : dataN m ≤ i) (h2 : i < xs.length) : IsVol (turnV xs i) m := by
  have hl := h.len
  have hb := h.blk 2 (by omega)
  refine ⟨fun t ht => ?_, by rw [turnV_length]; exact h.2.1, ?_, ?_⟩
  · rcases List.mem_or_eq_of_mem_set ht with a | a
    · exact h.1 t a
    · rw [a, turnB_size]; exact h.size 2 (by omega)
  · rw [turnV_length]
    unfold turnV
    rw [getD_set' _ _ _ _ (by omega), if_neg (by omega)]; exact h.2.2.1
  · rw [turnV_length, turnV_map (by omega), bitsOk_iff]
    have := bitsOk_iff.1 h.2.2.2
    intro j hj
    rw [bitL_turn _ _ _ (by omega)]
    obtain ⟨a, b⟩ := this j hj
    refine ⟨fun x => ?_, fun x => ?_⟩
    · rw [a x]; simp; omega
    · rw [b x]; simp; omega
/-- the first block that isn't taken -/
def freeR (xs : List ByteArray) (m : Nat) : Option Nat := (List.range' (dataN m) (xs.length - dataN m)).find? fun i => !bitL (blkL xs 2) i
theorem freeR_some {xs : List ByteArray} {m i : Nat} (hm : dataN m ≤ xs.length) : freeR xs m = some i ↔ dataN m ≤ i ∧ i < xs.length ∧ bitL (blkL xs 2) i = false ∧ ∀ j, dataN m ≤ j → j < i → bitL (blkL xs 2) j = true := by
  unfold freeR
  rw [List.find?_range'_eq_some]
  simp only [Bool.not_eq_true', List.mem_range'_1, Bool.not_eq_false']
  constructor
  · rintro ⟨a, ⟨b, c⟩, d⟩
    exact ⟨b, by omega, a, d⟩
  · rintro ⟨b, c, a, d⟩
    exact ⟨a, ⟨b, by omega⟩, d⟩
theorem freeR_none {xs : List ByteArray} {m : Nat} (hm : dataN m ≤ xs.length) : freeR xs m = none ↔ ∀ j, dataN m ≤ j → j < xs.length → bitL (blkL xs 2) j = true := by
  unfold freeR
  rw [List.find?_eq_none]
  simp only [Bool.not_eq_true', List.mem_range'_1, Bool.not_eq_false']
  constructor
  · intro h j a b; simpa using h j ⟨a, by omega⟩
  · intro h j ⟨a, b⟩; simpa using h j a (by omega)
def takeV (xs : List ByteArray) (i : Nat) : List ByteArray := (turnV xs i).set i (zerosB 128)
theorem IsVol.take {xs : List ByteArray} {m i : Nat} (h : IsVol xs m) (h1 : dataN m ≤ i) (h2 : i < xs.length) : IsVol (takeV xs i) m :=
  (h.turn h1 h2).set (by have := h.len; omega) (zerosB_size 128)
theorem takeV_length (xs : List ByteArray) (i : Nat) : (takeV xs i).length = xs.length := by simp [takeV, turnV_length]
theorem takeV_map {xs : List ByteArray} {i : Nat} (h : 2 < i) (h2 : i < xs.length) : blkL (takeV xs i) 2 = turnL (blkL xs 2) i := by
  unfold takeV
  rw [blkL_set _ _ _ _ (by rw [turnV_length]; exact h2), if_neg (by omega), turnV_map (by omega)]
/-- how many blocks aren't taken -/
def roomR (xs : List ByteArray) : Nat := match ofR xs with
  | some _ => xs.length - cntL (blkL xs 2) xs.length
  | none => 0
def usedR (xs : List ByteArray) (i : Int) : Bool := match ofR xs with
  | some _ => decide (0 ≤ i ∧ i < xs.length) && bitL (blkL xs 2) i.toNat
  | none => false
theorem IsVol.pops {xs : List ByteArray} {m : Nat} (h : IsVol xs m) : ((blkL xs 2).map pop8).sum = cntL (blkL xs 2) xs.length := by
  have hl := h.len
  have hb := h.blk 2 (by omega)
  rw [← cntL_bytes, hb]
  apply cntL_clear _ _ _ (by omega)
  intro i a b
  exact (bitsOk_iff.1 h.2.2.2 i (by omega)).2 a
end Go.Proofs.Ytclmocppphojfaa
