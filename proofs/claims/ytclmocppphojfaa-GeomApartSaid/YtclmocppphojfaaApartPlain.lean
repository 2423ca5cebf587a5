/-
  Taking a block and giving it back: nothing else is touched. Plain.
-/
import Derived.Test.YtclmocppphojfaaTakesOwn
namespace Go.Proofs.Ytclmocppphojfaa
open Go.RowKit
set_option linter.unusedVariables false
theorem xor_self8 (a b : UInt8) : a ^^^ b ^^^ b = a := by
  apply UInt8.toNat_inj.1
  rw [UInt8.toNat_xor, UInt8.toNat_xor, Nat.xor_assoc, Nat.xor_self, Nat.xor_zero]
theorem turnL_turnL (l : List UInt8) (i : Nat) : turnL (turnL l i) i = l := by
  unfold turnL
  by_cases h : i / 8 < l.length
  · rw [getD_set _ _ _ _ _ h, if_pos rfl, List.set_set, xor_self8]
    simp only [List.getD, List.getElem?_eq_getElem h, Option.getD_some, List.set_getElem_self]
  · rw [List.set_eq_of_length_le (by rw [List.length_set]; omega), List.set_eq_of_length_le (by omega)]
theorem turnB_turnB (s : ByteArray) (i : Nat) : turnB (turnB s i) i = s := by
  apply WideShapes.bytes_inj
  rw [turnB_list, turnB_list, turnL_turnL]
/-- what a Take and a Give behind it leave -/
structure Apart (ys : List ByteArray) (m n : Nat) : Prop where
  len1 : (takeV ys n).length = ys.length
  len2 : (turnV (takeV ys n) n).length = ys.length
  zero : (takeV ys n).getD n ⟨#[]⟩ = zerosB 128
  back : (turnV (takeV ys n) n).getD n ⟨#[]⟩ = zerosB 128
  map_ : (turnV (takeV ys n) n).getD 2 ⟨#[]⟩ = ys.getD 2 ⟨#[]⟩
  gone : usedR (turnV (takeV ys n) n) n = false
  oth1 : ∀ i, i ≠ 2 → i ≠ n → (takeV ys n).getD i ⟨#[]⟩ = ys.getD i ⟨#[]⟩
  oth2 : ∀ i, i ≠ 2 → i ≠ n → (turnV (takeV ys n) n).getD i ⟨#[]⟩ = ys.getD i ⟨#[]⟩
  used : ∀ i : Nat, usedR (takeV ys n) (i : Int) = (usedR ys (i : Int) || decide (i = n))
theorem Apart.mk' {ys : List ByteArray} {m n : Nat} (hv : IsVol ys m) (hf : freeR ys m = some n) : Apart ys m n := by
  have hl := hv.len
  obtain ⟨h1, h2, h3, h4⟩ := (freeR_some (by omega)).1 hf
  have hn2 : ¬ n = 2 := by omega
  have hn2' : ¬ 2 = n := by omega
  have a1 := takeV_length ys n
  have a2 : (turnV ys n).length = ys.length := turnV_length ys n
  have gt : ∀ i, (takeV ys n).getD i ⟨#[]⟩ = if n = i then zerosB 128 else if 2 = i then turnB (ys.getD 2 ⟨#[]⟩) n else ys.getD i ⟨#[]⟩ := fun i => by
    unfold takeV
    rw [getD_set' _ _ _ _ (by omega)]
    unfold turnV
    rw [getD_set' _ _ _ _ (by omega)]
  have gx : ∀ i, (turnV (takeV ys n) n).getD i ⟨#[]⟩ = if 2 = i then turnB ((takeV ys n).getD 2 ⟨#[]⟩) n else (takeV ys n).getD i ⟨#[]⟩ := fun i => by
    unfold turnV
    rw [getD_set' _ _ _ _ (by omega)]
  have hw := hv.take h1 h2
  have hx := hw.turn h1 (by omega)
  refine ⟨a1, by rw [turnV_length, a1], by rw [gt, if_pos rfl], by rw [gx, if_neg hn2', gt, if_pos rfl], ?_, ?_, fun i hi hj => ?_, fun i hi hj => ?_, fun i => ?_⟩
  · rw [gx, if_pos rfl, gt, if_neg hn2, if_pos rfl, turnB_turnB]
  · unfold usedR
    rw [ofR_some.2 hx]
    dsimp only
    rw [Int.toNat_natCast, turnV_map (by omega), bitL_turn _ _ _ (by rw [hw.blk 2 (by omega)]; omega), bit_take hv hf]
    simp
  · rw [gt, if_neg (by omega), if_neg (by omega)]
  · rw [gx, if_neg (by omega), gt, if_neg (by omega), if_neg (by omega)]
  · unfold usedR
    rw [ofR_some.2 hw, ofR_some.2 hv]
    dsimp only
    rw [Int.toNat_natCast, bit_take hv hf, a1]
    by_cases e : i = n
    · subst e; simp [h2]
    · simp [e]
end Go.Proofs.Ytclmocppphojfaa
