/-
  An inode's numbers, out of the bytes of a block: plain.
-/
import Derived.Test.YtoanladhikdcaaaGreatFields
import Derived.Test.YtoanladhikdcaaaGreatNumVol
namespace Go.Proofs.YtoanladhikdcaaaGreat
set_option linter.unusedVariables false
/-- the number of some bytes -/
def numAt (bs : List UInt8) (p k : Nat) : Nat := leN ((bs.drop p).take k)
def toldSt (bs : List UInt8) (p : Nat) (pre : List (Fin 12)) : Nat × List Nat := pre.foldl (fun st i => (st.1 + fsz i, st.2.set (fof i) (numAt bs st.1 (fsz i)))) (p, List.replicate 12 0)
/-- the twelve numbers, in the order of an inode's cells -/
def inoR (bs : List UInt8) (p : Nat) : List Nat := [numAt bs p 1, numAt bs (p + 2) 2, numAt bs (p + 1) 1, numAt bs (p + 4) 4, numAt bs (p + 8) 2, numAt bs (p + 10) 2, numAt bs (p + 12) 2, numAt bs (p + 14) 2, numAt bs (p + 16) 2, numAt bs (p + 18) 2, numAt bs (p + 20) 2, numAt bs (p + 22) 2]
theorem toldSt_all (bs : List UInt8) (p : Nat) : (toldSt bs p allF).2 = inoR bs p := rfl
theorem toldSt_snoc (bs : List UInt8) (p : Nat) (pre : List (Fin 12)) (i : Fin 12) : toldSt bs p (pre ++ [i]) = ((toldSt bs p pre).1 + fsz i, (toldSt bs p pre).2.set (fof i) (numAt bs (toldSt bs p pre).1 (fsz i))) := by
  unfold toldSt; rw [List.foldl_append]; rfl
theorem fsz_le : ∀ i, fsz i ≤ 4 := by decide
theorem fsz_pos : ∀ i, 1 ≤ fsz i := by decide
theorem fof_lt : ∀ i, fof i < 12 := by decide
theorem told_len (bs : List UInt8) : ∀ (pre : List (Fin 12)) (st : Nat × List Nat), (pre.foldl (fun st i => (st.1 + fsz i, st.2.set (fof i) (numAt bs st.1 (fsz i)))) st).2.length = st.2.length
  | [], st => rfl
  | i :: pre, st => by rw [List.foldl_cons, told_len bs pre]; simp
theorem told_at (bs : List UInt8) : ∀ (pre : List (Fin 12)) (st : Nat × List Nat), st.1 ≤ (pre.foldl (fun st i => (st.1 + fsz i, st.2.set (fof i) (numAt bs st.1 (fsz i)))) st).1 ∧ (pre.foldl (fun st i => (st.1 + fsz i, st.2.set (fof i) (numAt bs st.1 (fsz i)))) st).1 ≤ st.1 + 4 * pre.length
  | [], st => by simp
  | i :: pre, st => by
    rw [List.foldl_cons]
    have := told_at bs pre (st.1 + fsz i, st.2.set (fof i) (numAt bs st.1 (fsz i)))
    have h := fsz_le i
    simp only [List.length_cons] at *
    omega
theorem toldSt_len (bs : List UInt8) (p : Nat) (pre : List (Fin 12)) : (toldSt bs p pre).2.length = 12 := by
  unfold toldSt; rw [told_len]; rfl
theorem toldSt_at (bs : List UInt8) (p : Nat) (pre : List (Fin 12)) : p ≤ (toldSt bs p pre).1 ∧ (toldSt bs p pre).1 ≤ p + 4 * pre.length := told_at bs pre (p, List.replicate 12 0)
def inoC (l : List Nat) : Array Value := (l.map fun k : Nat => Value.int .i64 (k : Int)).toArray
theorem inoC_set (l : List Nat) (i k : Nat) : inoC (l.set i k) = (inoC l).setIfInBounds i (.int .i64 (k : Int)) := by
  unfold inoC; simp
theorem inoC_size (l : List Nat) : (inoC l).size = l.length := by unfold inoC; simp
theorem inoC_one (l : List Nat) : ∀ v ∈ inoC l, v.oneCell' = true := by
  intro v hv
  unfold inoC at hv
  simp at hv
  obtain ⟨k, _, rfl⟩ := hv
  rfl
theorem numAt_lt (bs : List UInt8) (p k : Nat) : numAt bs p k < 256 ^ k := by
  unfold numAt
  have h := leN_lt ((bs.drop p).take k)
  have : ((bs.drop p).take k).length ≤ k := List.length_take_le _ _
  exact Nat.lt_of_lt_of_le h (Nat.pow_le_pow_right (by omega) this)
end Go.Proofs.YtoanladhikdcaaaGreat
