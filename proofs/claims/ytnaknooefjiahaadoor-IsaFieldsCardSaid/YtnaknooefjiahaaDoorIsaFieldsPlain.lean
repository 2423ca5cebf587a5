/-
  Fields of a word stand in their own bits.
-/
import Derived.Test.YtnaknooefjiahaaDoorIsaPlain
namespace Go.Proofs.YtnaknooefjiahaaDoor
open Go.RowKit
set_option linter.unusedVariables false
set_option linter.unusedSimpArgs false
theorem bit_low {w p lo i : Nat} (h : w % 2 ^ lo = p % 2 ^ lo) (hi : i < lo) : w.testBit i = p.testBit i := by
  have := congrArg (·.testBit i) h
  simpa [Nat.testBit_mod_two_pow, hi] using this
theorem bit_high {w p hi i : Nat} (h : w / 2 ^ hi = p / 2 ^ hi) (hl : hi ≤ i) : w.testBit i = p.testBit i := by
  have := congrArg (·.testBit (i - hi)) h
  simpa [Nat.testBit_div_two_pow, Nat.sub_add_cancel hl, Nat.add_sub_cancel' hl] using this
theorem xor_and_zero {w p lo hi m : Nat} (h1 : w % 2 ^ lo = p % 2 ^ lo) (h2 : w / 2 ^ hi = p / 2 ^ hi) (hm : ∀ i, lo ≤ i → i < hi → m.testBit i = false) : (w ^^^ p) &&& m = 0 := by
  apply Nat.eq_of_testBit_eq
  intro i
  rw [Nat.testBit_and, Nat.testBit_xor, Nat.zero_testBit]
  by_cases a : i < lo
  · rw [bit_low h1 a]; simp
  by_cases b : hi ≤ i
  · rw [bit_high h2 b]; simp
  · rw [hm i (by omega) (by omega)]; simp
theorem mask_a : ∀ i, 22 ≤ i → i < 26 → (4294967295 - 62914560).testBit i = false := by
  intro i h1 h2
  have : i = 22 ∨ i = 23 ∨ i = 24 ∨ i = 25 := by omega
  rcases this with rfl | rfl | rfl | rfl <;> decide
theorem mask_b : ∀ i, 18 ≤ i → i < 22 → (4294967295 - 3932160).testBit i = false := by
  intro i h1 h2
  have : i = 18 ∨ i = 19 ∨ i = 20 ∨ i = 21 := by omega
  rcases this with rfl | rfl | rfl | rfl <;> decide
theorem mask_c : ∀ i, 14 ≤ i → i < 18 → (4294967295 - 245760).testBit i = false := by
  intro i h1 h2
  have : i = 14 ∨ i = 15 ∨ i = 16 ∨ i = 17 := by omega
  rcases this with rfl | rfl | rfl | rfl <;> decide
theorem bits_mask {v p m : Nat} (hv : v < 4294967296) (hp : p < 4294967296) (hm : m < 4294967296) (h : (v ^^^ p) &&& (4294967295 - m) = 0) : (bits .andNot .u32 (bits .xor .u32 (v : Int) (p : Int)) (m : Int) == 0) = true := by
  rw [u32_xor_nat _ _ hv hp, u32_andNot_nat _ _ (Nat.xor_lt_two_pow (n := 32) hv hp) hm, h]; rfl
theorem xor_shift {w p : Nat} (hw : w < 4294967296) (hp : p < 4294967296) (h : w / 65536 = p / 65536) : (bits .xor .u32 (w : Int) (p : Int) / 65536 == 0) = true := by
  rw [u32_xor_nat _ _ hw hp]
  have : (w ^^^ p) / 2 ^ 16 = 0 := by
    rw [← Nat.shiftRight_eq_div_pow, Nat.shiftRight_xor_distrib, Nat.shiftRight_eq_div_pow, Nat.shiftRight_eq_div_pow]
    rw [show w / 2 ^ 16 = p / 2 ^ 16 from h, Nat.xor_self]
  have e : (((w ^^^ p : Nat) : Int) / 65536) = (((w ^^^ p) / 2 ^ 16 : Nat) : Int) := by omega
  rw [e, this]; rfl
/-- of two instructions that may be: parts of their words -/
theorem word_parts {x : Ins} (h : (encR x).2 = 0) : ∃ m : Nat, encW x = x.op * 67108864 + x.a * 4194304 + x.b * 262144 + x.c * 16384 + m ∧ m < 65536 ∧ m = (x.imm % 65536).toNat ∧ x.c * 16384 + m < 262144 ∧ x.a ≤ 15 ∧ x.b ≤ 15 ∧ x.c ≤ 15 := by
  obtain ⟨h1, h2, h3, h4, h5, h6, h7, h8, h9, h10, h11⟩ := enc_parts h
  refine ⟨(x.imm % 65536).toNat, rfl, by omega, rfl, ?_, h3, h4, h5⟩
  cases hc : fC x.op with
  | false => have := h6 hc; omega
  | true =>
    have hi : fI x.op = false := by
      simp only [fC, decide_eq_true_eq] at hc
      simp only [fI, decide_eq_false_iff_not]; omega
    rw [h7 hi]; simp; omega
def FA (v p : Nat) (a : Nat) (en : Int) : Prop := (en != 0) = true ∨ (en != 0) = false ∧ (bits .andNot .u32 (bits .xor .u32 (v : Int) (p : Int)) 62914560 == 0) = true ∧ (bits .and .u32 ((p : Int) / 4194304) 15 == (a : Int)) = true
def FB (v p : Nat) (b : Nat) (en : Int) : Prop := (en != 0) = true ∨ (en != 0) = false ∧ (bits .andNot .u32 (bits .xor .u32 (v : Int) (p : Int)) 3932160 == 0) = true ∧ (bits .and .u32 ((p : Int) / 262144) 15 == (b : Int)) = true
def FC (v p : Nat) (en : Int) : Prop := (en != 0) = true ∨ (en != 0) = false ∧ (bits .andNot .u32 (bits .xor .u32 (v : Int) (p : Int)) 245760 == 0) = true
def FI (v p : Nat) (en : Int) : Prop := (en != 0) = true ∨ (en != 0) = false ∧ (bits .xor .u32 (v : Int) (p : Int) / 65536 == 0) = true
theorem fields_a {x : Ins} (h : (encR x).2 = 0) (a : Nat) : FA (encR x).1 (encR ⟨x.op, a, x.b, x.c, x.imm⟩).1 a (encR ⟨x.op, a, x.b, x.c, x.imm⟩).2 := by
  by_cases hy : (encR ⟨x.op, a, x.b, x.c, x.imm⟩).2 = 0
  · right
    obtain ⟨m, e1, e2, e3, e4, e5, e6, e7⟩ := word_parts h
    obtain ⟨m', f1, f2, f3, f4, f5, f6, f7⟩ := word_parts hy
    dsimp only at f1 f3 f4 f5 f6 f7
    have l1 := enc_lt h
    have l2 := enc_lt hy
    rw [(enc_ok h).2.2.2.2.2.2, (enc_ok hy).2.2.2.2.2.2]
    dsimp only
    refine ⟨by simp, bits_mask (m := 62914560) l1 l2 (by omega) (xor_and_zero (lo := 22) (hi := 26) (by omega) (by omega) mask_a), ?_⟩
    rw [u32_and15 _ (by omega) (by omega)]
    simp only [beq_iff_eq]
    omega
  · left; simpa using hy
theorem fields_b {x : Ins} (h : (encR x).2 = 0) (b : Nat) : FB (encR x).1 (encR ⟨x.op, x.a, b, x.c, x.imm⟩).1 b (encR ⟨x.op, x.a, b, x.c, x.imm⟩).2 := by
  by_cases hy : (encR ⟨x.op, x.a, b, x.c, x.imm⟩).2 = 0
  · right
    obtain ⟨m, e1, e2, e3, e4, e5, e6, e7⟩ := word_parts h
    obtain ⟨m', f1, f2, f3, f4, f5, f6, f7⟩ := word_parts hy
    dsimp only at f1 f3 f4 f5 f6 f7
    have l1 := enc_lt h
    have l2 := enc_lt hy
    rw [(enc_ok h).2.2.2.2.2.2, (enc_ok hy).2.2.2.2.2.2]
    dsimp only
    refine ⟨by simp, bits_mask (m := 3932160) l1 l2 (by omega) (xor_and_zero (lo := 18) (hi := 22) (by omega) (by omega) mask_b), ?_⟩
    rw [u32_and15 _ (by omega) (by omega)]
    simp only [beq_iff_eq]
    omega
  · left; simpa using hy
theorem fields_c {x : Ins} (h : (encR x).2 = 0) (c : Nat) : FC (encR x).1 (encR ⟨x.op, x.a, x.b, c, x.imm⟩).1 (encR ⟨x.op, x.a, x.b, c, x.imm⟩).2 := by
  by_cases hy : (encR ⟨x.op, x.a, x.b, c, x.imm⟩).2 = 0
  · right
    obtain ⟨m, e1, e2, e3, e4, e5, e6, e7⟩ := word_parts h
    obtain ⟨m', f1, f2, f3, f4, f5, f6, f7⟩ := word_parts hy
    dsimp only at f1 f3 f4 f5 f6 f7
    have l1 := enc_lt h
    have l2 := enc_lt hy
    rw [(enc_ok h).2.2.2.2.2.2, (enc_ok hy).2.2.2.2.2.2]
    dsimp only
    refine ⟨by simp, bits_mask (m := 245760) l1 l2 (by omega) (xor_and_zero (lo := 14) (hi := 18) (by omega) (by omega) mask_c)⟩
  · left; simpa using hy
theorem fields_i {x : Ins} (h : (encR x).2 = 0) (n : Int) : FI (encR x).1 (encR ⟨x.op, x.a, x.b, x.c, n⟩).1 (encR ⟨x.op, x.a, x.b, x.c, n⟩).2 := by
  by_cases hy : (encR ⟨x.op, x.a, x.b, x.c, n⟩).2 = 0
  · right
    obtain ⟨h1, h2, h3, h4, h5, h6, h7, h8, h9, h10, h11⟩ := enc_parts h
    obtain ⟨k1, k2, k3, k4, k5, k6, k7, k8, k9, k10, k11⟩ := enc_parts hy
    obtain ⟨m, e1, e2, e3, e4, e5, e6, e7⟩ := word_parts h
    obtain ⟨m', f1, f2, f3, f4, f5, f6, f7⟩ := word_parts hy
    dsimp only at f1 f3 f4 f5 f6 f7 k6 k7
    have l1 := enc_lt h
    have l2 := enc_lt hy
    rw [(enc_ok h).2.2.2.2.2.2, (enc_ok hy).2.2.2.2.2.2]
    dsimp only
    refine ⟨by simp, xor_shift l1 l2 ?_⟩
    cases hi : fI x.op with
    | false =>
      have := h7 hi
      have := k7 hi
      have : m = m' := by omega
      omega
    | true =>
      have hc : fC x.op = false := by
        simp only [fI, decide_eq_true_eq] at hi
        simp only [fC, decide_eq_false_iff_not]; omega
      have := h6 hc
      omega
  · left; simpa using hy
end Go.Proofs.YtnaknooefjiahaaDoor
