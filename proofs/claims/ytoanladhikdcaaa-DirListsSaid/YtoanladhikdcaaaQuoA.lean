/-
  Limits of owners: the plain words; what quota.is, limit and Limit tell.
-/
import Derived.Test.YtoanladhikdcaaaExtCnt
namespace Go.Proofs.Ytoanladhikdcaaa
open Go.RowKit
set_option linter.unusedVariables false
set_option linter.unusedSimpArgs false
set_option maxRecDepth 100000
/-- an owner's limit, as it is written down -/
def limN (xs : List ByteArray) (o : Nat) : Nat := numAt (blkL xs 1) (2 * o) 2
/-- is it an owner of a volume? why not? -/
def quoE (xs : List ByteArray) (owner : Int) : Int := match ofR xs with
  | none => 3
  | some _ => if owner < 0 ∨ 16 ≤ owner then 1 else 0
def limitO (xs : List ByteArray) (owner : Int) : Int × Int := if quoE xs owner = 0 then ((limN xs owner.toNat : Nat), 0) else (0, quoE xs owner)
/-- is it one of the owner's? -/
def hisB (xs : List ByteArray) (owner : Int) (n : Nat) : Bool := decide ((((getR xs (n : Int)).getD 2 0 : Nat) : Int) = owner)
def usedL (xs : List ByteArray) (owner : Int) (ns : List Nat) : Nat := ((ns.filter (hisB xs owner)).map fun n : Nat => countO xs (n : Int)).sum
/-- how many blocks an owner has -/
def usedO (xs : List ByteArray) (owner : Int) : Nat := usedL xs owner (allO xs)
/-- has an owner more than that? -/
def overB (xs : List ByteArray) (owner limit : Int) : Bool := decide (limit ≠ 0 ∧ limit < (usedO xs owner : Int))
def setO (xs : List ByteArray) (owner limit : Int) : List ByteArray × Int :=
  if quoE xs owner ≠ 0 then ([], quoE xs owner) else if limit < 0 ∨ 65535 < limit then ([], 2) else if overB xs owner limit = true then ([], 13)
  else (layX xs 1 (2 * owner.toNat) (putL limit.toNat 2), 0)
def checkO (xs : List ByteArray) : Int := match ofR xs with
  | none => 3
  | some _ => if (List.range 16).any (fun o => overB xs (o : Int) (limN xs o : Int)) = true then 13 else 0
theorem limN_lt (xs : List ByteArray) (o : Nat) : limN xs o < 65536 := numAt_lt _ _ 2
theorem usedL_snoc (xs : List ByteArray) (owner : Int) (ns : List Nat) (n : Nat) : usedL xs owner (ns ++ [n]) = usedL xs owner ns + (if hisB xs owner n = true then countO xs (n : Int) else 0) := by
  unfold usedL
  rw [List.filter_append, List.map_append, List.sum_append]
  by_cases h : hisB xs owner n = true <;> simp [h]
theorem countO_le (xs : List ByteArray) (n : Int) : countO xs n ≤ 72 := by
  unfold countO
  split
  · omega
  · have := manyX_le xs (mO xs) (getR xs n) 70
    unfold countX
    split <;> split <;> omega
theorem usedL_le (xs : List ByteArray) (owner : Int) : ∀ ns : List Nat, usedL xs owner ns ≤ 72 * ns.length
  | [] => by simp [usedL]
  | n :: ns => by
    have ih := usedL_le xs owner ns
    have hc := countO_le xs (n : Int)
    unfold usedL at ih ⊢
    rw [List.filter_cons, List.length_cons]
    by_cases h : hisB xs owner n = true
    · rw [if_pos h, List.map_cons, List.sum_cons]
      omega
    · rw [if_neg h]
      omega
theorem allO_len (xs : List ByteArray) : (allO xs).length ≤ 64 := by
  unfold allO
  cases h : ofR xs with
  | none => simp
  | some m =>
    have := (ofR_some.1 h).len
    have := allR_len xs m
    dsimp only
    omega
theorem usedO_le (xs : List ByteArray) (owner : Int) : usedO xs owner ≤ 4608 := by
  have := usedL_le xs owner (allO xs)
  have := allO_len xs
  unfold usedO
  omega
theorem allO_ok {xs : List ByteArray} {n : Nat} (h : n ∈ allO xs) : inoE xs (n : Int) = 0 := by
  unfold allO at h
  cases ho : ofR xs with
  | none => rw [ho] at h; simp at h
  | some m =>
    rw [ho] at h
    unfold allR at h
    have := List.mem_filter.1 h
    have := List.mem_range'_1.1 this.1
    exact inoE_zero (ofR_some.1 ho) (by omega) (by omega)
end Go.Proofs.Ytoanladhikdcaaa
