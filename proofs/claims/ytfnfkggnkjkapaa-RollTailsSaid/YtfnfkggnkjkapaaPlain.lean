/-
  Plain laws of the rolling sums and the cuts: no program in sight.
-/
import Derived.WalkKit
namespace Go.Proofs.Ytfnfkggnkjkapaa.P
open Go.RowKit

/-- one byte more -/
def stp (z : Int) (b : UInt8) : Int := ((z * 69069 + (b.toNat : Int)) % 4294967296 + 1) % 4294967296
/-- the sum of a window -/
def sm (l : List UInt8) : Int := l.foldl stp 0
/-- the power that leaves with a byte -/
def pw : Nat → Int
  | 0 => 1
  | n + 1 => pw n * 69069 % 4294967296

theorem stp_eq (z : Int) (b : UInt8) : stp z b = (z * 69069 + (b.toNat : Int) + 1) % 4294967296 := by unfold stp; omega
theorem stp_mod (z : Int) (b : UInt8) : stp (z % 4294967296) b = stp z b := by rw [stp_eq, stp_eq]; omega
theorem stp_bd (z : Int) (b : UInt8) : 0 ≤ stp z b ∧ stp z b ≤ 4294967295 := by unfold stp; omega
theorem sm_snoc (l : List UInt8) (b : UInt8) : sm (l ++ [b]) = stp (sm l) b := by simp [sm, List.foldl_append]
theorem sm_nil : sm [] = 0 := rfl
theorem sm_bd (l : List UInt8) : 0 ≤ sm l ∧ sm l ≤ 4294967295 := by
  rcases List.eq_nil_or_concat l with rfl | ⟨l', b, rfl⟩
  · simp [sm_nil]
  · rw [List.concat_eq_append, sm_snoc]; exact stp_bd _ _
theorem pw_bd : ∀ n, 0 ≤ pw n ∧ pw n ≤ 4294967295
  | 0 => by simp [pw]
  | n + 1 => by have := pw_bd n; unfold pw; omega
/-- what a byte ahead of a window adds -/
theorem foldl_stp (l : List UInt8) : ∀ (z d : Int), (l.foldl stp (z + d)) % 4294967296 = (l.foldl stp z + d * pw l.length) % 4294967296 := by
  induction l with
  | nil => intro z d; simp [pw]
  | cons b l ih =>
    intro z d
    simp only [List.foldl_cons, List.length_cons]
    have h1 : ∃ q : Int, stp (z + d) b = stp z b + (d * 69069 + 4294967296 * q) := by
      refine ⟨(stp (z + d) b - stp z b - d * 69069) / 4294967296, ?_⟩
      rw [stp_eq, stp_eq]; omega
    obtain ⟨q, hq⟩ := h1
    rw [hq, ih]
    have h2 : ∃ r : Int, pw (l.length + 1) = pw l.length * 69069 + 4294967296 * r := ⟨(pw (l.length + 1) - pw l.length * 69069) / 4294967296, by
      show pw l.length * 69069 % 4294967296 = _ + 4294967296 * ((pw l.length * 69069 % 4294967296 - _) / _); omega⟩
    obtain ⟨r, hr⟩ := h2
    rw [hr]
    have e1 : (d * 69069 + 4294967296 * q) * pw l.length = d * pw l.length * 69069 + 4294967296 * (q * pw l.length) := by
      rw [Int.add_mul, Int.mul_right_comm, Int.mul_assoc 4294967296]
    have e2 : d * (pw l.length * 69069 + 4294967296 * r) = d * pw l.length * 69069 + 4294967296 * (d * r) := by
      rw [Int.mul_add, ← Int.mul_assoc, ← Int.mul_assoc, ← Int.mul_assoc, Int.mul_comm d 4294967296]
    rw [e1, e2]
    generalize d * pw l.length = X
    omega
theorem sm_cons (b : UInt8) (l : List UInt8) : sm (b :: l) = (sm l + ((b.toNat : Int) + 1) * pw l.length) % 4294967296 := by
  have hb := sm_bd (b :: l)
  have h := foldl_stp l 0 (((b.toNat : Int) + 1))
  have e : stp 0 b = 0 + ((b.toNat : Int) + 1) := by have := b.toNat_lt; rw [stp_eq]; omega
  have e2 : sm (b :: l) = l.foldl stp (0 + ((b.toNat : Int) + 1)) := by rw [← e]; rfl
  rw [← e2] at h
  have e3 : l.foldl stp 0 = sm l := rfl
  rw [e3] at h
  omega

/-- what is seen of the last bytes -/
def win (W : Nat) (l : List UInt8) (k : Nat) : Int := sm ((l.take k).drop (k - W))
theorem win_bd (W : Nat) (l : List UInt8) (k : Nat) : 0 ≤ win W l k ∧ win W l k ≤ 4294967295 := sm_bd _
theorem win_zero (W : Nat) (l : List UInt8) : win W l 0 = 0 := by simp [win, sm_nil]
theorem take_succ (l : List UInt8) (k : Nat) (h : k < l.length) : l.take (k + 1) = l.take k ++ [l[k]] := List.take_succ_eq_append_getElem h
theorem win_grow (W : Nat) (l : List UInt8) (k : Nat) (hk : k < l.length) (hW : k < W) : win W l (k + 1) = stp (win W l k) l[k] := by
  unfold win
  have e1 : k + 1 - W = 0 := by omega
  have e2 : k - W = 0 := by omega
  rw [e1, e2, List.drop_zero, List.drop_zero, take_succ l k hk, sm_snoc]
theorem win_roll (W : Nat) (l : List UInt8) (k : Nat) (h1 : 1 ≤ W) (hk : k < l.length) (hW : W ≤ k) :
    win W l (k + 1) = (stp (win W l k) l[k] - (((l[k - W]'(by omega)).toNat : Int) + 1) * pw W) % 4294967296 := by
  unfold win
  have e1 : (l.take k).drop (k - W) = l[k - W]'(by omega) :: (l.take k).drop (k - W + 1) := by
    rw [List.drop_eq_getElem_cons (by simp; omega)]; simp
  have e2 : (l.take (k + 1)).drop (k + 1 - W) = (l.take k).drop (k - W + 1) ++ [l[k]] := by
    rw [take_succ l k hk, List.drop_append_of_le_length (by simp; omega)]
    congr 2; omega
  have hlen : ((l.take k).drop (k - W + 1)).length = W - 1 := by simp; omega
  rw [e2, sm_snoc, e1, sm_cons, hlen, stp_mod, stp_eq, stp_eq]
  generalize sm ((l.take k).drop (k - W + 1)) = S
  obtain ⟨n, rfl⟩ : ∃ n, W = n + 1 := ⟨W - 1, by omega⟩
  simp only [Nat.add_sub_cancel]
  obtain ⟨r, hr⟩ : ∃ r : Int, pw (n + 1) = pw n * 69069 + 4294967296 * r := ⟨(pw (n + 1) - pw n * 69069) / 4294967296, by
      show pw n * 69069 % 4294967296 = _ + 4294967296 * ((pw n * 69069 % 4294967296 - _) / _); omega⟩
  rw [hr]
  generalize ((l[k - (n + 1)]'(by omega)).toNat : Int) + 1 = d
  have e3 : d * (pw n * 69069 + 4294967296 * r) = d * pw n * 69069 + 4294967296 * (d * r) := by
      rw [Int.mul_add, ← Int.mul_assoc, ← Int.mul_assoc, ← Int.mul_assoc, Int.mul_comm d 4294967296]
  rw [e3]
  generalize d * pw n = X
  omega

/-- may a chunk end behind n bytes, as the bytes say -/
def hitB (W m : Nat) (mask : Int) (l : List UInt8) (n : Nat) : Bool := decide (m ≤ n) && (bits .and .u32 (win W l n) mask == mask)
/-- how many bytes the first chunk has -/
def endN (W m M : Nat) (mask : Int) (l : List UInt8) : Nat :=
  match (List.range (min l.length M)).find? (fun j => hitB W m mask l (j + 1)) with
  | some j => j + 1
  | none => min l.length M
theorem endN_none {W m M : Nat} {mask : Int} {l : List UInt8} (h : ∀ j, j < min l.length M → hitB W m mask l (j + 1) = false) : endN W m M mask l = min l.length M := by
  unfold endN
  have : (List.range (min l.length M)).find? (fun j => hitB W m mask l (j + 1)) = none := by
    rw [List.find?_eq_none]
    intro x hx
    rw [h x (List.mem_range.1 hx)]; simp
  rw [this]
theorem endN_hit {W m M : Nat} {mask : Int} {l : List UInt8} {k : Nat} (hk : k < min l.length M) (h : ∀ j, j < k → hitB W m mask l (j + 1) = false) (ht : hitB W m mask l (k + 1) = true) : endN W m M mask l = k + 1 := by
  unfold endN
  have : (List.range (min l.length M)).find? (fun j => hitB W m mask l (j + 1)) = some k := by
    rw [List.find?_range_eq_some]
    refine ⟨ht, List.mem_range.2 hk, fun j hj => ?_⟩
    rw [h j hj]; rfl
  rw [this]
theorem endN_cases (W m M : Nat) (mask : Int) (l : List UInt8) :
    (∃ k, k < min l.length M ∧ (∀ j, j < k → hitB W m mask l (j + 1) = false) ∧ hitB W m mask l (k + 1) = true ∧ endN W m M mask l = k + 1) ∨
    ((∀ j, j < min l.length M → hitB W m mask l (j + 1) = false) ∧ endN W m M mask l = min l.length M) := by
  cases hf : (List.range (min l.length M)).find? (fun j => hitB W m mask l (j + 1)) with
  | none =>
    right
    have h : ∀ j, j < min l.length M → hitB W m mask l (j + 1) = false := fun j hj => by
      have := List.find?_eq_none.1 hf j (List.mem_range.2 hj)
      simpa using this
    exact ⟨h, endN_none h⟩
  | some k =>
    left
    rw [List.find?_range_eq_some] at hf
    obtain ⟨h1, h2, h3⟩ := hf
    have h4 : ∀ j, j < k → hitB W m mask l (j + 1) = false := fun j hj => by simpa using h3 j hj
    exact ⟨k, List.mem_range.1 h2, h4, h1, endN_hit (List.mem_range.1 h2) h4 h1⟩
theorem endN_le (W m M : Nat) (mask : Int) (l : List UInt8) : endN W m M mask l ≤ min l.length M := by
  rcases endN_cases W m M mask l with ⟨k, h1, _, _, h4⟩ | ⟨_, h⟩ <;> omega
theorem endN_pos {W m M : Nat} {mask : Int} {l : List UInt8} (hl : l ≠ []) (hM : 1 ≤ M) : 1 ≤ endN W m M mask l := by
  have : 0 < l.length := List.length_pos_iff.2 hl
  rcases endN_cases W m M mask l with ⟨k, h1, _, _, h4⟩ | ⟨_, h⟩ <;> omega
theorem endN_min {W m M : Nat} {mask : Int} {l : List UInt8} (hm : m ≤ M) : min l.length m ≤ endN W m M mask l := by
  rcases endN_cases W m M mask l with ⟨k, h1, _, h3, h4⟩ | ⟨_, h⟩
  · unfold hitB at h3; simp at h3; omega
  · omega

/-- l is cut into ls -/
inductive Cuts (W m M : Nat) (mask : Int) : List UInt8 → List (List UInt8) → Prop
  | nil : Cuts W m M mask [] []
  | cons {l : List UInt8} {ls : List (List UInt8)} : l ≠ [] → Cuts W m M mask (l.drop (endN W m M mask l)) ls → Cuts W m M mask l (l.take (endN W m M mask l) :: ls)
theorem Cuts.det {W m M : Nat} {mask : Int} {l : List UInt8} {a b : List (List UInt8)} (ha : Cuts W m M mask l a) (hb : Cuts W m M mask l b) : a = b := by
  induction ha generalizing b with
  | nil => cases hb with | nil => rfl | cons h _ => exact absurd rfl h
  | cons hl _ ih => cases hb with | nil => exact absurd rfl hl | cons _ h => rw [ih h]

end Go.Proofs.Ytfnfkggnkjkapaa.P
