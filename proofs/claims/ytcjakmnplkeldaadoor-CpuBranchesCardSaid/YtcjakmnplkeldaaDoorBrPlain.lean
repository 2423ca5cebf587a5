/-
  Plain laws of CpuBranches: a branch that stands in a page.
-/
import Derived.Test.YtcjakmnplkeldaaDoorCpuPlain
namespace Go.Proofs.YtcjakmnplkeldaaDoor
set_option linter.unusedVariables false
set_option linter.unusedSimpArgs false
def brI (op x y : Nat) (n : Int) : Ins := ⟨op, x, y, 0, n⟩
def brR (a b : Nat) : List Nat := [0, a, b, 0, 0, 0, 0, 0, 0, 0, 0, 0, 0, 0, 0, 0]
theorem enc_br {op x y : Nat} {n : Int} (h1 : 25 ≤ op) (h2 : op ≤ 28) (hx : x ≤ 15) (hy : y ≤ 15) (n1 : -32768 ≤ n) (n2 : n ≤ 32767) : (encR (brI op x y n)).2 = 0 := by
  obtain rfl | rfl | rfl | rfl : op = 25 ∨ op = 26 ∨ op = 27 ∨ op = 28 := by omega
  all_goals
    unfold brI
    rw [enc_good rfl ⟨hx, hy, Nat.zero_le _⟩ rfl (.inr (by show decide (-32768 ≤ n ∧ n ≤ 32767) = true; simp; omega))]
/-- the next place -/
def brP (op p q : Nat) (n : Int) : Nat := if tkR op p q then (4 + 4 * (n % 4294967296).toNat) % 4294967296 else 4
theorem br_step {op x y a b : Nat} {n : Int} (z : ByteArray) (h1 : 25 ≤ op) (h2 : op ≤ 28) (hx : x ≤ 15) (hy : y ≤ 15) (n1 : -32768 ≤ n) (n2 : n ≤ 32767) :
    stepR (brR a b) 0 onePages [pgB [(encR (brI op x y n)).1], z] = ⟨brR a b, brP op ((brR a b).getD x 0) ((brR a b).getD y 0) n, [pgB [(encR (brI op x y n)).1], z], 0, 0⟩ := by
  have hl : loadR [pgB [(encR (brI op x y n)).1], z] onePages 0 4 = some (encR (brI op x y n)).1 := load_page (ws := [(encR (brI op x y n)).1]) (j := 0) z (by decide) (encR_lt _)
  rw [step_of hl (enc_br h1 h2 hx hy n1 n2)]
  unfold stDo brI
  dsimp only
  rw [if_neg (by omega), if_neg (by omega), if_neg (by omega), if_neg (by omega), if_neg (by omega), if_pos h2]
  rfl
theorem brR_regs {a b : Nat} (ha : a < 4294967296) (hb : b < 4294967296) : Regs (brR a b) := by
  refine ⟨rfl, fun r hr => ?_⟩
  simp only [brR, List.mem_cons, List.not_mem_nil, or_false] at hr
  rcases hr with rfl | rfl | rfl | rfl | rfl | rfl | rfl | rfl | rfl | rfl | rfl | rfl | rfl | rfl | rfl | rfl <;> omega
def tkN (op p q : Nat) : Int := if tkR op p q then 1 else 0
theorem brP_ne {op p q : Nat} {n : Int} (n1 : -32768 ≤ n) (n2 : n ≤ 32767) (n0 : n ≠ 0) : (brP op p q n = 4 ↔ tkR op p q = false) ∧ (tkR op p q = true → (brP op p q n : Int) = (4 + 4 * (n % 4294967296) % 4294967296) % 4294967296) := by
  unfold brP
  cases tkR op p q
  · simp
  · simp only [if_true, Bool.true_eq_false, iff_false]
    omega
theorem br_law (a b : Nat) (ha : a < 4294967296) (hb : b < 4294967296) : tkN 25 a b + tkN 26 a b = 1 ∧ tkN 25 a b + tkN 27 a b + tkN 27 b a = 1 ∧ tkN 25 a b + tkN 28 a b + tkN 28 b a = 1 ∧ (tkN 25 a b = 1 ↔ a = b) := by
  unfold tkN tkR
  simp only [if_true, show ¬ (26 : Nat) = 25 by decide, show ¬ (27 : Nat) = 25 by decide, show ¬ (28 : Nat) = 25 by decide, show ¬ (27 : Nat) = 26 by decide, show ¬ (28 : Nat) = 26 by decide, show ¬ (28 : Nat) = 27 by decide, if_false, decide_eq_true_eq]
  have hs : a ≠ b → sg a ≠ sg b := by unfold sg; split <;> split <;> omega
  refine ⟨?_, ?_, ?_, ?_⟩
  · by_cases h : a = b <;> simp [h]
  · by_cases h : a = b
    · simp [h]
    · have := hs h
      by_cases h2 : sg a < sg b
      · simp [h, h2, show ¬ sg b < sg a by omega]
      · simp [h, h2, show sg b < sg a by omega]
  · by_cases h : a = b
    · simp [h]
    · by_cases h2 : a < b
      · simp [h, h2, show ¬ b < a by omega]
      · simp [h, h2, show b < a by omega]
  · by_cases h : a = b <;> simp [h]
end Go.Proofs.YtcjakmnplkeldaaDoor
