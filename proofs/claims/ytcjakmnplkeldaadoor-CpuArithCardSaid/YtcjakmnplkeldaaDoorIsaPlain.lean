/-
  Plain laws of words and instructions: what is encoded is decoded, and the other way round.
-/
import Derived.Test.YtcjakmnplkeldaaDoorDec
namespace Go.Proofs.YtcjakmnplkeldaaDoor
open Go.RowKit
set_option linter.unusedVariables false
set_option linter.unusedSimpArgs false

theorem enc_ok {x : Ins} (h : (encR x).2 = 0) : fOk x.op = true ∧ x.a ≤ 15 ∧ x.b ≤ 15 ∧ x.c ≤ 15 ∧ viol x = false ∧ (fI x.op = true → fits x.op x.imm = true) ∧ encR x = (encW x, 0) := by
  unfold encR at h ⊢
  by_cases h1 : fOk x.op = false
  · rw [if_pos h1] at h; simp at h
  rw [if_neg h1] at h ⊢
  by_cases h2 : 15 < x.a ∨ 15 < x.b ∨ 15 < x.c
  · rw [if_pos h2] at h; simp at h
  rw [if_neg h2] at h ⊢
  by_cases h3 : viol x = true
  · rw [if_pos h3] at h; simp at h
  rw [if_neg h3] at h ⊢
  by_cases h4 : fI x.op = true ∧ fits x.op x.imm = false
  · rw [if_pos h4] at h; simp at h
  rw [if_neg h4]
  refine ⟨by simpa using h1, by omega, by omega, by omega, by simpa using h3, fun hi => ?_, rfl⟩
  cases hf : fits x.op x.imm with
  | true => rfl
  | false => exact absurd ⟨hi, hf⟩ h4
theorem imm_ok {x : Ins} (h : (encR x).2 = 0) : -32768 ≤ x.imm ∧ x.imm ≤ 65535 := by
  obtain ⟨h1, h2, h3, h4, h5, h6, h7⟩ := enc_ok h
  cases hi : fI x.op with
  | false =>
    have : x.imm = 0 := by
      unfold viol at h5; simp [hi] at h5; exact h5.2
    omega
  | true =>
    have := h6 hi
    unfold fits at this
    split at this <;> simp at this <;> omega

/-- an instruction that may be, in plain words -/
theorem enc_parts {x : Ins} (h : (encR x).2 = 0) : 1 ≤ x.op ∧ x.op ≤ 31 ∧ x.a ≤ 15 ∧ x.b ≤ 15 ∧ x.c ≤ 15 ∧ (fC x.op = false → x.c = 0) ∧ (fI x.op = false → x.imm = 0) ∧ (fA x.op = false → x.a = 0) ∧ (fB x.op = false → x.b = 0) ∧
    (fI x.op = true → fU x.op = true → 0 ≤ x.imm ∧ x.imm ≤ 65535) ∧ (fI x.op = true → fU x.op = false → -32768 ≤ x.imm ∧ x.imm ≤ 32767) := by
  obtain ⟨h1, h2, h3, h4, h5, h6, h7⟩ := enc_ok h
  simp only [fOk, decide_eq_true_eq] at h1
  unfold viol at h5
  simp only [Bool.or_eq_false_iff, Bool.and_eq_false_iff, Bool.not_eq_false', decide_eq_false_iff_not, Decidable.not_not] at h5
  obtain ⟨⟨⟨v1, v2⟩, v3⟩, v4⟩ := h5
  refine ⟨h1.1, h1.2, h2, h3, h4, fun e => ?_, fun e => ?_, fun e => ?_, fun e => ?_, fun e u => ?_, fun e u => ?_⟩
  · rcases v3 with v | v
    · rw [e] at v; cases v
    · exact v
  · rcases v4 with v | v
    · rw [e] at v; cases v
    · exact v
  · rcases v1 with v | v
    · rw [e] at v; cases v
    · exact v
  · rcases v2 with v | v
    · rw [e] at v; cases v
    · exact v
  · have := h6 e
    unfold fits at this; rw [if_pos u] at this; simpa using this
  · have := h6 e
    unfold fits at this; rw [if_neg (by simp [u])] at this; simpa using this
theorem enc_lt {x : Ins} (h : (encR x).2 = 0) : encW x < 4294967296 := by
  obtain ⟨h1, h2, h3, h4, h5, h6, h7, h8, h9, h10, h11⟩ := enc_parts h
  have hm : (x.imm % 65536).toNat < 65536 := by omega
  unfold encW
  cases hc : fC x.op with
  | false => have := h6 hc; omega
  | true =>
    have hi : fI x.op = false := by
      simp only [fC, decide_eq_true_eq] at hc
      simp only [fI, decide_eq_false_iff_not]; omega
    have := h7 hi
    rw [this]; simp; omega
theorem enc_fields {x : Ins} (h : (encR x).2 = 0) : encW x / 67108864 = x.op ∧ encW x / 4194304 % 16 = x.a ∧ encW x / 262144 % 16 = x.b ∧ (fC x.op = true → encW x / 16384 % 16 = x.c) ∧ (fI x.op = true → ((encW x % 65536 : Nat) : Int) = x.imm % 65536) := by
  obtain ⟨h1, h2, h3, h4, h5, h6, h7, h8, h9, h10, h11⟩ := enc_parts h
  have hm : (x.imm % 65536).toNat < 65536 := by omega
  have hx : fC x.op = true → fI x.op = false := by
    intro hc
    simp only [fC, decide_eq_true_eq] at hc
    simp only [fI, decide_eq_false_iff_not]; omega
  unfold encW
  cases hc : fC x.op with
  | false =>
    have c0 := h6 hc
    rw [c0]
    refine ⟨by omega, by omega, by omega, fun h => by simp at h, fun _ => by omega⟩
  | true =>
    have i0 := h7 (hx hc)
    rw [i0]
    simp only [Int.zero_emod, Int.toNat_zero]
    refine ⟨by omega, by omega, by omega, fun _ => by omega, fun h => ?_⟩
    rw [hx hc] at h; cases h
theorem dec_enc {x : Ins} (h : (encR x).2 = 0) : decR (encR x).1 = some x := by
  obtain ⟨h1, h2, h3, h4, h5, h6, h7, h8, h9, h10, h11⟩ := enc_parts h
  obtain ⟨e1, e2, e3, e4, e5⟩ := enc_fields h
  have e0 := (enc_ok h).2.2.2.2.2.2
  have hd : decX (encW x) = x := by
    obtain ⟨op, a, b, c, imm⟩ := x
    unfold decX
    dsimp only at *
    rw [e1, e2, e3]
    congr 1
    · cases hc : fC op with
      | true => rw [if_pos rfl]; exact e4 hc
      | false => rw [if_neg (by simp)]; exact (h6 hc).symm
    · cases hi : fI op with
      | false => rw [if_neg (by simp)]; exact (h7 hi).symm
      | true =>
        rw [if_pos rfl]
        have e := e5 hi
        cases hu : fU op with
        | true =>
          rw [if_pos rfl]
          have := h10 hi hu
          omega
        | false =>
          rw [if_neg (by simp)]
          have := h11 hi hu
          unfold sx16
          split <;> omega
  rw [e0]
  unfold decR
  rw [e1, if_neg (by simp only [fOk, decide_eq_false_iff_not]; omega), hd, if_pos e0]
theorem dec_some {n : Nat} {x : Ins} (h : decR n = some x) : encR x = (n, 0) := by
  unfold decR at h
  split at h
  · cases h
  · split at h
    · rename_i e
      cases h; exact e
    · cases h
/-- what a word decodes to has small parts -/
theorem dec_bounds {n : Nat} {x : Ins} (h : decR n = some x) : x.op ≤ 31 ∧ x.a ≤ 15 ∧ x.b ≤ 15 ∧ x.c ≤ 15 ∧ -32768 ≤ x.imm ∧ x.imm ≤ 65535 := by
  have e := dec_some h
  have e2 : (encR x).2 = 0 := by rw [e]
  obtain ⟨h1, h2, h3, h4, h5, _⟩ := enc_parts e2
  have := imm_ok e2
  exact ⟨h2, h3, h4, h5, this.1, this.2⟩
theorem enc_inj {x y : Ins} (hx : (encR x).2 = 0) (hy : (encR y).2 = 0) (h : (encR x).1 = (encR y).1) : x = y := by
  have a := dec_enc hx
  rw [h, dec_enc hy] at a
  injection a with a; exact a.symm
end Go.Proofs.YtcjakmnplkeldaaDoor
