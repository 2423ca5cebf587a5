/-
  What the document's Form, plain and Enc compute.
-/
import Derived.Test.YtcjakmnplkeldaaDoorEnc
namespace Go.Proofs.YtcjakmnplkeldaaDoor
open Go.RowKit
set_option linter.unusedVariables false
set_option linter.unusedSimpArgs false

set_option maxHeartbeats 1000000 in
theorem form_0 (w : World) : Calls Tryd.prog 35 #[.int .u8 (0 : Nat)] w fun e w' => e = .returned (.int .i64 0) ∧ w = w' := by
  go_enter Tryd.func35, Tryd.ntmps35
  go_wp2
  go_ret
  exact ⟨rfl, rfl⟩
set_option maxHeartbeats 1000000 in
theorem form_1 (op : Nat) (w : World) (h1 : 1 ≤ op) (h2 : op ≤ 13) : Calls Tryd.prog 35 #[.int .u8 op] w fun e w' => e = .returned (.int .i64 1) ∧ w = w' := by
  have a0 : (1 : Int) ≤ (op : Int) := by omega
  have a1 : ¬ (14 : Int) ≤ (op : Int) := by omega
  have a1' : decide ((14 : Int) ≤ (op : Int)) = false := by simp; omega
  have a2 : ¬ (25 : Int) ≤ (op : Int) := by omega
  have a2' : decide ((25 : Int) ≤ (op : Int)) = false := by simp; omega
  have a3 : ¬ (20 : Int) ≤ (op : Int) := by omega
  have a3' : decide ((20 : Int) ≤ (op : Int)) = false := by simp; omega
  have a4 : (op : Int) ≤ 13 := by omega
  have a5 : (op : Int) ≤ 18 := by omega
  have a6 : (op : Int) ≤ 28 := by omega
  have a7 : (op : Int) ≤ 24 := by omega
  have a8 : ((op : Int) == 19) = false := by simp; omega
  have a9 : ((op : Int) == 29) = false := by simp; omega
  have a10 : ((op : Int) == 30) = false := by simp; omega
  have a11 : ((op : Int) == 31) = false := by simp; omega
  clear h1 h2
  go_enter Tryd.func35, Tryd.ntmps35
  go_wp2
  go_ret
  exact ⟨rfl, rfl⟩
set_option maxHeartbeats 1000000 in
theorem form_14 (op : Nat) (w : World) (h1 : 14 ≤ op) (h2 : op ≤ 18) : Calls Tryd.prog 35 #[.int .u8 op] w fun e w' => e = .returned (.int .i64 2) ∧ w = w' := by
  have a0 : (1 : Int) ≤ (op : Int) := by omega
  have a1 : (14 : Int) ≤ (op : Int) := by omega
  have a2 : ¬ (25 : Int) ≤ (op : Int) := by omega
  have a2' : decide ((25 : Int) ≤ (op : Int)) = false := by simp; omega
  have a3 : ¬ (20 : Int) ≤ (op : Int) := by omega
  have a3' : decide ((20 : Int) ≤ (op : Int)) = false := by simp; omega
  have a4 : ¬ (op : Int) ≤ 13 := by omega
  have a4' : decide ((op : Int) ≤ 13) = false := by simp; omega
  have a5 : (op : Int) ≤ 18 := by omega
  have a6 : (op : Int) ≤ 28 := by omega
  have a7 : (op : Int) ≤ 24 := by omega
  have a8 : ((op : Int) == 19) = false := by simp; omega
  have a9 : ((op : Int) == 29) = false := by simp; omega
  have a10 : ((op : Int) == 30) = false := by simp; omega
  have a11 : ((op : Int) == 31) = false := by simp; omega
  clear h1 h2
  go_enter Tryd.func35, Tryd.ntmps35
  go_wp2
  go_ret
  exact ⟨rfl, rfl⟩
set_option maxHeartbeats 1000000 in
theorem form_19 (w : World) : Calls Tryd.prog 35 #[.int .u8 (19 : Nat)] w fun e w' => e = .returned (.int .i64 3) ∧ w = w' := by
  go_enter Tryd.func35, Tryd.ntmps35
  go_wp2
  go_ret
  exact ⟨rfl, rfl⟩
set_option maxHeartbeats 1000000 in
theorem form_20 (op : Nat) (w : World) (h1 : 20 ≤ op) (h2 : op ≤ 24) : Calls Tryd.prog 35 #[.int .u8 op] w fun e w' => e = .returned (.int .i64 4) ∧ w = w' := by
  have a0 : (1 : Int) ≤ (op : Int) := by omega
  have a1 : (14 : Int) ≤ (op : Int) := by omega
  have a2 : ¬ (25 : Int) ≤ (op : Int) := by omega
  have a2' : decide ((25 : Int) ≤ (op : Int)) = false := by simp; omega
  have a3 : (20 : Int) ≤ (op : Int) := by omega
  have a4 : ¬ (op : Int) ≤ 13 := by omega
  have a4' : decide ((op : Int) ≤ 13) = false := by simp; omega
  have a5 : ¬ (op : Int) ≤ 18 := by omega
  have a5' : decide ((op : Int) ≤ 18) = false := by simp; omega
  have a6 : (op : Int) ≤ 28 := by omega
  have a7 : (op : Int) ≤ 24 := by omega
  have a8 : ((op : Int) == 19) = false := by simp; omega
  have a9 : ((op : Int) == 29) = false := by simp; omega
  have a10 : ((op : Int) == 30) = false := by simp; omega
  have a11 : ((op : Int) == 31) = false := by simp; omega
  clear h1 h2
  go_enter Tryd.func35, Tryd.ntmps35
  go_wp2
  go_ret
  exact ⟨rfl, rfl⟩
set_option maxHeartbeats 1000000 in
theorem form_25 (op : Nat) (w : World) (h1 : 25 ≤ op) (h2 : op ≤ 28) : Calls Tryd.prog 35 #[.int .u8 op] w fun e w' => e = .returned (.int .i64 2) ∧ w = w' := by
  have a0 : (1 : Int) ≤ (op : Int) := by omega
  have a1 : (14 : Int) ≤ (op : Int) := by omega
  have a2 : (25 : Int) ≤ (op : Int) := by omega
  have a3 : (20 : Int) ≤ (op : Int) := by omega
  have a4 : ¬ (op : Int) ≤ 13 := by omega
  have a4' : decide ((op : Int) ≤ 13) = false := by simp; omega
  have a5 : ¬ (op : Int) ≤ 18 := by omega
  have a5' : decide ((op : Int) ≤ 18) = false := by simp; omega
  have a6 : (op : Int) ≤ 28 := by omega
  have a7 : ¬ (op : Int) ≤ 24 := by omega
  have a7' : decide ((op : Int) ≤ 24) = false := by simp; omega
  have a8 : ((op : Int) == 19) = false := by simp; omega
  have a9 : ((op : Int) == 29) = false := by simp; omega
  have a10 : ((op : Int) == 30) = false := by simp; omega
  have a11 : ((op : Int) == 31) = false := by simp; omega
  clear h1 h2
  go_enter Tryd.func35, Tryd.ntmps35
  go_wp2
  go_ret
  exact ⟨rfl, rfl⟩
set_option maxHeartbeats 1000000 in
theorem form_29 (w : World) : Calls Tryd.prog 35 #[.int .u8 (29 : Nat)] w fun e w' => e = .returned (.int .i64 3) ∧ w = w' := by
  go_enter Tryd.func35, Tryd.ntmps35
  go_wp2
  go_ret
  exact ⟨rfl, rfl⟩
set_option maxHeartbeats 1000000 in
theorem form_30 (w : World) : Calls Tryd.prog 35 #[.int .u8 (30 : Nat)] w fun e w' => e = .returned (.int .i64 4) ∧ w = w' := by
  go_enter Tryd.func35, Tryd.ntmps35
  go_wp2
  go_ret
  exact ⟨rfl, rfl⟩
set_option maxHeartbeats 1000000 in
theorem form_31 (w : World) : Calls Tryd.prog 35 #[.int .u8 (31 : Nat)] w fun e w' => e = .returned (.int .i64 5) ∧ w = w' := by
  go_enter Tryd.func35, Tryd.ntmps35
  go_wp2
  go_ret
  exact ⟨rfl, rfl⟩
set_option maxHeartbeats 1000000 in
theorem form_32 (op : Nat) (w : World) (h1 : 32 ≤ op) (h2 : op ≤ 255) : Calls Tryd.prog 35 #[.int .u8 op] w fun e w' => e = .returned (.int .i64 0) ∧ w = w' := by
  have a0 : (1 : Int) ≤ (op : Int) := by omega
  have a1 : (14 : Int) ≤ (op : Int) := by omega
  have a2 : (25 : Int) ≤ (op : Int) := by omega
  have a3 : (20 : Int) ≤ (op : Int) := by omega
  have a4 : ¬ (op : Int) ≤ 13 := by omega
  have a4' : decide ((op : Int) ≤ 13) = false := by simp; omega
  have a5 : ¬ (op : Int) ≤ 18 := by omega
  have a5' : decide ((op : Int) ≤ 18) = false := by simp; omega
  have a6 : ¬ (op : Int) ≤ 28 := by omega
  have a6' : decide ((op : Int) ≤ 28) = false := by simp; omega
  have a7 : ¬ (op : Int) ≤ 24 := by omega
  have a7' : decide ((op : Int) ≤ 24) = false := by simp; omega
  have a8 : ((op : Int) == 19) = false := by simp; omega
  have a9 : ((op : Int) == 29) = false := by simp; omega
  have a10 : ((op : Int) == 30) = false := by simp; omega
  have a11 : ((op : Int) == 31) = false := by simp; omega
  clear h1 h2
  go_enter Tryd.func35, Tryd.ntmps35
  go_wp2
  go_ret
  exact ⟨rfl, rfl⟩
set_option maxHeartbeats 1000000 in
theorem plain_any (op : Nat) (w : World) (ho : op < 256) : Calls Tryd.prog 36 #[.int .u8 op] w fun e w' => e = .returned (.bool (fU op)) ∧ w = w' := by
  by_cases h : op = 19
  · subst h
    go_enter Tryd.func36, Tryd.ntmps36
    go_wp2
    go_ret
    exact ⟨rfl, rfl⟩
  by_cases h2 : op = 31
  · subst h2
    go_enter Tryd.func36, Tryd.ntmps36
    go_wp2
    go_ret
    exact ⟨rfl, rfl⟩
  have g4 : ((op : Int) == 19) = false := by simp; omega
  have g6 : ((op : Int) == 31) = false := by simp; omega
  by_cases h3 : 15 ≤ op ∧ op ≤ 17
  · have HF := Lib.hid (show fU op = true by simp only [fU, decide_eq_true_eq]; omega)
    have g1 : (15 : Int) ≤ (op : Int) := by omega
    have g2 : (op : Int) ≤ 17 := by omega
    clear h h2 h3 ho
    go_enter Tryd.func36, Tryd.ntmps36
    go_wp2
    go_ret
    exact ⟨by rw [HF.out]; rfl, rfl⟩
  · have HF := Lib.hid (show fU op = false by simp only [fU, decide_eq_false_iff_not]; omega)
    by_cases h5 : op < 15
    · have g1 : ¬ (15 : Int) ≤ (op : Int) := by omega
      have g1' : decide ((15 : Int) ≤ (op : Int)) = false := by simpa using g1
      clear h h2 h3 ho h5
      go_enter Tryd.func36, Tryd.ntmps36
      go_wp2
      go_ret
      exact ⟨by rw [HF.out]; rfl, rfl⟩
    · have g1 : (15 : Int) ≤ (op : Int) := by omega
      have g2 : ¬ (op : Int) ≤ 17 := by omega
      have g2' : decide ((op : Int) ≤ 17) = false := by simpa using g2
      clear h h2 h3 ho h5
      go_enter Tryd.func36, Tryd.ntmps36
      go_wp2
      go_ret
      exact ⟨by rw [HF.out]; rfl, rfl⟩

set_option maxHeartbeats 4000000 in
theorem renc_none (op a b c : Nat) (imm : Int) (w : World) (h : fOk op = false) (hf : ∀ w, Calls Tryd.prog 35 #[.int .u8 op] w fun e w' => e = .returned (.int .i64 0) ∧ w = w') :
    Calls Tryd.prog 16 #[.agg #[.int .u8 op, .int .u8 a, .int .u8 b, .int .u8 c, .int .i32 imm]] w (EncPost ⟨op, a, b, c, imm⟩ w) := by
  have HR := Lib.hid (enc_none (x := ⟨op, a, b, c, imm⟩) h)
  clear h
  go_enter Tryd.func16, Tryd.ntmps16
  go_wp2_with fail
  refine (hf _).mono ?_
  rintro e w' ⟨rfl, rfl⟩
  go_wp2
  go_ret2
  unfold EncPost; rw [HR.out]
  exact ⟨rfl, (Below.refl _ _).alloc (Nat.le_refl _) _⟩

set_option maxHeartbeats 4000000 in
theorem renc_bad (op a b c fm : Nat) (imm : Int) (w : World) (h : fOk op = true) (hfm : 1 ≤ fm) (hf : ∀ w, Calls Tryd.prog 35 #[.int .u8 op] w fun e w' => e = .returned (.int .i64 fm) ∧ w = w') (h2 : 15 < a ∨ 15 < b ∨ 15 < c) :
    Calls Tryd.prog 16 #[.agg #[.int .u8 op, .int .u8 a, .int .u8 b, .int .u8 c, .int .i32 imm]] w (EncPost ⟨op, a, b, c, imm⟩ w) := by
  have HR := Lib.hid (enc_bad (x := ⟨op, a, b, c, imm⟩) h h2)
  have hfm' : ((fm : Int) == 0) = false := by simp; omega
  clear h hfm
  by_cases ha : 15 < a
  · have ga : (15 : Int) < (a : Int) := by omega
    clear h2 ha
    go_enter Tryd.func16, Tryd.ntmps16
    go_wp2_with fail
    refine (hf _).mono ?_
    rintro e w' ⟨rfl, rfl⟩
    go_wp2
    go_ret2
    unfold EncPost; rw [HR.out]
    exact ⟨rfl, (Below.refl _ _).alloc (Nat.le_refl _) _⟩
  have ga := regs_ok (a := a) (by omega)
  by_cases hb : 15 < b
  · have gb : (15 : Int) < (b : Int) := by omega
    clear h2 ha hb
    go_enter Tryd.func16, Tryd.ntmps16
    go_wp2_with fail
    refine (hf _).mono ?_
    rintro e w' ⟨rfl, rfl⟩
    go_wp2
    go_ret2
    unfold EncPost; rw [HR.out]
    exact ⟨rfl, (Below.refl _ _).alloc (Nat.le_refl _) _⟩
  have gb := regs_ok (a := b) (by omega)
  have gc : (15 : Int) < (c : Int) := by omega
  clear h2 ha hb
  go_enter Tryd.func16, Tryd.ntmps16
  go_wp2_with fail
  refine (hf _).mono ?_
  rintro e w' ⟨rfl, rfl⟩
  go_wp2
  go_ret2
  unfold EncPost; rw [HR.out]
  exact ⟨rfl, (Below.refl _ _).alloc (Nat.le_refl _) _⟩

/-- the word, as the document sums it -/
theorem renc_word1 (op a b c : Nat) : (((op : Int) * 16 + a) * 16 + b) * 262144 + (c : Int) * 16384 = (encW ⟨op, a, b, c, 0⟩ : Nat) := by
  unfold encW; simp; omega
theorem renc_wordp (op a b : Nat) (imm : Int) (h : 0 ≤ imm) (h2 : imm ≤ 65535) : (((op : Int) * 16 + a) * 16 + b) * 262144 + imm = (encW ⟨op, a, b, 0, imm⟩ : Nat) := by
  unfold encW; simp; omega
theorem renc_wordn (op a b : Nat) (imm : Int) (h : imm < 0) (h2 : -32768 ≤ imm) : (((op : Int) * 16 + a) * 16 + b) * 262144 + (imm + 65536) = (encW ⟨op, a, b, 0, imm⟩ : Nat) := by
  unfold encW; simp; omega

set_option maxHeartbeats 4000000 in
theorem renc_1 (op a b c : Nat) (imm : Int) (w : World) (ho : op < 256) (hfl : fA op = true ∧ fB op = true ∧ fC op = true ∧ fI op = false ∧ fOk op = true) (hf : ∀ w, Calls Tryd.prog 35 #[.int .u8 op] w fun e w' => e = .returned (.int .i64 1) ∧ w = w') (ha : a ≤ 15) (hb : b ≤ 15) (hc : c ≤ 15) (hi1 : -2147483648 ≤ imm) (hi2 : imm < 2147483648) :
    Calls Tryd.prog 16 #[.agg #[.int .u8 op, .int .u8 a, .int .u8 b, .int .u8 c, .int .i32 imm]] w (EncPost ⟨op, a, b, c, imm⟩ w) := by
  have HO := Lib.hid ho
  have HB : Hid (a ≤ 15 ∧ b ≤ 15 ∧ c ≤ 15) := ⟨ha, hb, hc⟩
  have ga := regs_ok ha
  have gb := regs_ok hb
  have gc := regs_ok hc
  have hop' : (op : Int) ≤ 31 := by have := hfl.2.2.2.2; simp only [fOk, decide_eq_true_eq] at this; omega
  have ha' : (a : Int) ≤ 15 := by omega
  have hb' : (b : Int) ≤ 15 := by omega
  have hc' : (c : Int) ≤ 15 := by omega
  obtain ⟨f1, f2, f3, f4, f5⟩ := hfl
  by_cases zimm : imm = 0
  case neg =>
    have HR := Lib.hid (enc_viol (x := ⟨op, a, b, c, imm⟩) f5 HB.out (by simp [viol, f1, f2, f3, f4, zimm]))
    have yimm : (imm != 0) = true := by simp [zimm]
    clear f1 f2 f3 f4 f5 zimm ha hb hc ho hi1 hi2
    go_enter Tryd.func16, Tryd.ntmps16
    go_wp2_with fail
    refine (hf _).mono ?_
    rintro e w' ⟨rfl, rfl⟩
    go_wp2
    go_ret2
    unfold EncPost; rw [HR.out]
    exact ⟨rfl, (Below.refl _ _).alloc (Nat.le_refl _) _⟩
  have yimm : (imm != 0) = false := by simp [zimm]
  have HV := Lib.hid (show viol ⟨op, a, b, c, imm⟩ = false by simp [viol, f1, f2, f3, f4, zimm])
  have HR := Lib.hid (enc_good (x := ⟨op, a, b, c, imm⟩) f5 HB.out HV.out (Or.inl f4))
  have HW := Lib.hid (show (((op : Int) * 16 + a) * 16 + b) * 262144 + (c : Int) * 16384 = (encW ⟨op, a, b, c, imm⟩ : Nat) by rw [zimm]; exact renc_word1 op a b c)
  clear f1 f2 f3 f4 f5 zimm ha hb hc ho hi1 hi2
  go_enter Tryd.func16, Tryd.ntmps16
  go_wp2_with fail
  refine (hf _).mono ?_
  rintro e w' ⟨rfl, rfl⟩
  go_wp2
  go_ret2
  unfold EncPost; rw [HR.out]
  exact ⟨congrArg (fun z => Ending.returned (.tuple #[.int .u32 z, .int .i64 0])) HW.out, (Below.refl _ _).alloc (Nat.le_refl _) _⟩

set_option maxHeartbeats 4000000 in
theorem renc_2 (op a b c : Nat) (imm : Int) (w : World) (ho : op < 256) (hfl : fA op = true ∧ fB op = true ∧ fC op = false ∧ fI op = true ∧ fOk op = true) (hf : ∀ w, Calls Tryd.prog 35 #[.int .u8 op] w fun e w' => e = .returned (.int .i64 2) ∧ w = w') (ha : a ≤ 15) (hb : b ≤ 15) (hc : c ≤ 15) (hi1 : -2147483648 ≤ imm) (hi2 : imm < 2147483648) :
    Calls Tryd.prog 16 #[.agg #[.int .u8 op, .int .u8 a, .int .u8 b, .int .u8 c, .int .i32 imm]] w (EncPost ⟨op, a, b, c, imm⟩ w) := by
  have HO := Lib.hid ho
  have HB : Hid (a ≤ 15 ∧ b ≤ 15 ∧ c ≤ 15) := ⟨ha, hb, hc⟩
  have ga := regs_ok ha
  have gb := regs_ok hb
  have gc := regs_ok hc
  have hop' : (op : Int) ≤ 31 := by have := hfl.2.2.2.2; simp only [fOk, decide_eq_true_eq] at this; omega
  have ha' : (a : Int) ≤ 15 := by omega
  have hb' : (b : Int) ≤ 15 := by omega
  have hc' : (c : Int) ≤ 15 := by omega
  obtain ⟨f1, f2, f3, f4, f5⟩ := hfl
  by_cases zc : c = 0
  case neg =>
    have HR := Lib.hid (enc_viol (x := ⟨op, a, b, c, imm⟩) f5 HB.out (by simp [viol, f1, f2, f3, f4, zc]))
    have yc : ((c : Int) != 0) = true := by simp [zc]
    clear f1 f2 f3 f4 f5 zc ha hb hc ho hi1 hi2
    go_enter Tryd.func16, Tryd.ntmps16
    go_wp2_with fail
    refine (hf _).mono ?_
    rintro e w' ⟨rfl, rfl⟩
    go_wp2
    go_ret2
    unfold EncPost; rw [HR.out]
    exact ⟨rfl, (Below.refl _ _).alloc (Nat.le_refl _) _⟩
  have yc : ((c : Int) != 0) = false := by simp [zc]
  have HV := Lib.hid (show viol ⟨op, a, b, c, imm⟩ = false by simp [viol, f1, f2, f3, f4, zc])
  cases hu : fU op with
  | true =>
    have HU := Lib.hid hu
    have HFT := Lib.hid (show fits op imm = decide (0 ≤ imm ∧ imm ≤ 65535) by unfold fits; rw [hu]; rfl)
    clear hu
    by_cases h1 : imm < 0
    · have HR := Lib.hid (enc_range (x := ⟨op, a, b, c, imm⟩) f5 HB.out HV.out f4 (by show fits op imm = false; rw [HFT.out]; simp; omega))
      clear f1 f2 f3 f4 f5 zc ha hb hc ho hi1 hi2
      go_enter Tryd.func16, Tryd.ntmps16
      go_wp2_with fail
      refine (hf _).mono ?_
      rintro e w' ⟨rfl, rfl⟩
      go_wp2_with fail
      refine (plain_any op _ HO.out).mono ?_
      rintro e w' ⟨rfl, rfl⟩
      rw [HU.out]
      go_wp2
      go_ret2
      unfold EncPost; rw [HR.out]
      exact ⟨rfl, (Below.refl _ _).alloc (Nat.le_refl _) _⟩
    by_cases h2 : 65535 < imm
    · have HR := Lib.hid (enc_range (x := ⟨op, a, b, c, imm⟩) f5 HB.out HV.out f4 (by show fits op imm = false; rw [HFT.out]; simp; omega))
      have h1' : decide (imm < 0) = false := by simp; omega
      clear f1 f2 f3 f4 f5 zc ha hb hc ho hi1 hi2
      go_enter Tryd.func16, Tryd.ntmps16
      go_wp2_with fail
      refine (hf _).mono ?_
      rintro e w' ⟨rfl, rfl⟩
      go_wp2_with fail
      refine (plain_any op _ HO.out).mono ?_
      rintro e w' ⟨rfl, rfl⟩
      rw [HU.out]
      go_wp2
      go_ret2
      unfold EncPost; rw [HR.out]
      exact ⟨rfl, (Below.refl _ _).alloc (Nat.le_refl _) _⟩
    have HR := Lib.hid (enc_good (x := ⟨op, a, b, c, imm⟩) f5 HB.out HV.out (Or.inr (by show fits op imm = true; rw [HFT.out]; simp; omega)))
    have h1' : decide (imm < 0) = false := by simp; omega
    have h2' : decide (65535 < imm) = false := by simp; omega
    have HW := Lib.hid (show (((op : Int) * 16 + a) * 16 + b) * 262144 + imm = (encW ⟨op, a, b, c, imm⟩ : Nat) by rw [zc]; exact renc_wordp op a b imm (by omega) (by omega))
    have h3 : 0 ≤ imm := by omega
    have h4 : imm ≤ 65535 := by omega
    clear f1 f2 f3 f4 f5 zc ha hb hc ho hi1 hi2
    go_enter Tryd.func16, Tryd.ntmps16
    go_wp2_with fail
    refine (hf _).mono ?_
    rintro e w' ⟨rfl, rfl⟩
    go_wp2_with fail
    refine (plain_any op _ HO.out).mono ?_
    rintro e w' ⟨rfl, rfl⟩
    rw [HU.out]
    go_wp2
    go_ret2
    unfold EncPost; rw [HR.out]
    exact ⟨congrArg (fun z => Ending.returned (.tuple #[.int .u32 z, .int .i64 0])) HW.out, (Below.refl _ _).alloc (Nat.le_refl _) _⟩
  | false =>
    have HU := Lib.hid hu
    have HFT := Lib.hid (show fits op imm = decide (-32768 ≤ imm ∧ imm ≤ 32767) by unfold fits; rw [hu]; rfl)
    clear hu
    by_cases h1 : imm < -32768
    · have HR := Lib.hid (enc_range (x := ⟨op, a, b, c, imm⟩) f5 HB.out HV.out f4 (by show fits op imm = false; rw [HFT.out]; simp; omega))
      clear f1 f2 f3 f4 f5 zc ha hb hc ho hi1 hi2
      go_enter Tryd.func16, Tryd.ntmps16
      go_wp2_with fail
      refine (hf _).mono ?_
      rintro e w' ⟨rfl, rfl⟩
      go_wp2_with fail
      refine (plain_any op _ HO.out).mono ?_
      rintro e w' ⟨rfl, rfl⟩
      rw [HU.out]
      go_wp2
      go_ret2
      unfold EncPost; rw [HR.out]
      exact ⟨rfl, (Below.refl _ _).alloc (Nat.le_refl _) _⟩
    by_cases h2 : 32767 < imm
    · have HR := Lib.hid (enc_range (x := ⟨op, a, b, c, imm⟩) f5 HB.out HV.out f4 (by show fits op imm = false; rw [HFT.out]; simp; omega))
      have h1' : decide (imm < -32768) = false := by simp; omega
      clear f1 f2 f3 f4 f5 zc ha hb hc ho hi1 hi2
      go_enter Tryd.func16, Tryd.ntmps16
      go_wp2_with fail
      refine (hf _).mono ?_
      rintro e w' ⟨rfl, rfl⟩
      go_wp2_with fail
      refine (plain_any op _ HO.out).mono ?_
      rintro e w' ⟨rfl, rfl⟩
      rw [HU.out]
      go_wp2
      go_ret2
      unfold EncPost; rw [HR.out]
      exact ⟨rfl, (Below.refl _ _).alloc (Nat.le_refl _) _⟩
    have HR := Lib.hid (enc_good (x := ⟨op, a, b, c, imm⟩) f5 HB.out HV.out (Or.inr (by show fits op imm = true; rw [HFT.out]; simp; omega)))
    have h1' : decide (imm < -32768) = false := by simp; omega
    have h2' : decide (32767 < imm) = false := by simp; omega
    by_cases h3 : 0 ≤ imm
    · have HW := Lib.hid (show (((op : Int) * 16 + a) * 16 + b) * 262144 + imm = (encW ⟨op, a, b, c, imm⟩ : Nat) by rw [zc]; exact renc_wordp op a b imm (by omega) (by omega))
      have h3' : ¬ imm < 0 := by omega
      have h4 : imm ≤ 32767 := by omega
      clear f1 f2 f3 f4 f5 zc ha hb hc ho hi1 hi2
      go_enter Tryd.func16, Tryd.ntmps16
      go_wp2_with fail
      refine (hf _).mono ?_
      rintro e w' ⟨rfl, rfl⟩
      go_wp2_with fail
      refine (plain_any op _ HO.out).mono ?_
      rintro e w' ⟨rfl, rfl⟩
      rw [HU.out]
      go_wp2
      go_ret2
      unfold EncPost; rw [HR.out]
      exact ⟨congrArg (fun z => Ending.returned (.tuple #[.int .u32 z, .int .i64 0])) HW.out, (Below.refl _ _).alloc (Nat.le_refl _) _⟩
    · have HW := Lib.hid (show (((op : Int) * 16 + a) * 16 + b) * 262144 + (imm + 65536) = (encW ⟨op, a, b, c, imm⟩ : Nat) by rw [zc]; exact renc_wordn op a b imm (by omega) (by omega))
      have h3' : imm < 0 := by omega
      have h4 : -32768 ≤ imm := by omega
      clear f1 f2 f3 f4 f5 zc ha hb hc ho hi1 hi2 h3
      go_enter Tryd.func16, Tryd.ntmps16
      go_wp2_with fail
      refine (hf _).mono ?_
      rintro e w' ⟨rfl, rfl⟩
      go_wp2_with fail
      refine (plain_any op _ HO.out).mono ?_
      rintro e w' ⟨rfl, rfl⟩
      rw [HU.out]
      go_wp2
      go_ret2
      unfold EncPost; rw [HR.out]
      exact ⟨congrArg (fun z => Ending.returned (.tuple #[.int .u32 z, .int .i64 0])) HW.out, (Below.refl _ _).alloc (Nat.le_refl _) _⟩

set_option maxHeartbeats 4000000 in
theorem renc_3 (op a b c : Nat) (imm : Int) (w : World) (ho : op < 256) (hfl : fA op = true ∧ fB op = false ∧ fC op = false ∧ fI op = true ∧ fOk op = true) (hf : ∀ w, Calls Tryd.prog 35 #[.int .u8 op] w fun e w' => e = .returned (.int .i64 3) ∧ w = w') (ha : a ≤ 15) (hb : b ≤ 15) (hc : c ≤ 15) (hi1 : -2147483648 ≤ imm) (hi2 : imm < 2147483648) :
    Calls Tryd.prog 16 #[.agg #[.int .u8 op, .int .u8 a, .int .u8 b, .int .u8 c, .int .i32 imm]] w (EncPost ⟨op, a, b, c, imm⟩ w) := by
  have HO := Lib.hid ho
  have HB : Hid (a ≤ 15 ∧ b ≤ 15 ∧ c ≤ 15) := ⟨ha, hb, hc⟩
  have ga := regs_ok ha
  have gb := regs_ok hb
  have gc := regs_ok hc
  have hop' : (op : Int) ≤ 31 := by have := hfl.2.2.2.2; simp only [fOk, decide_eq_true_eq] at this; omega
  have ha' : (a : Int) ≤ 15 := by omega
  have hb' : (b : Int) ≤ 15 := by omega
  have hc' : (c : Int) ≤ 15 := by omega
  obtain ⟨f1, f2, f3, f4, f5⟩ := hfl
  by_cases zb : b = 0
  case neg =>
    have HR := Lib.hid (enc_viol (x := ⟨op, a, b, c, imm⟩) f5 HB.out (by simp [viol, f1, f2, f3, f4, zb]))
    have yb : ((b : Int) != 0) = true := by simp [zb]
    clear f1 f2 f3 f4 f5 zb ha hb hc ho hi1 hi2
    go_enter Tryd.func16, Tryd.ntmps16
    go_wp2_with fail
    refine (hf _).mono ?_
    rintro e w' ⟨rfl, rfl⟩
    go_wp2
    go_ret2
    unfold EncPost; rw [HR.out]
    exact ⟨rfl, (Below.refl _ _).alloc (Nat.le_refl _) _⟩
  have yb : ((b : Int) != 0) = false := by simp [zb]
  by_cases zc : c = 0
  case neg =>
    have HR := Lib.hid (enc_viol (x := ⟨op, a, b, c, imm⟩) f5 HB.out (by simp [viol, f1, f2, f3, f4, zc]))
    have yc : ((c : Int) != 0) = true := by simp [zc]
    clear f1 f2 f3 f4 f5 zc ha hb hc ho hi1 hi2 zb
    go_enter Tryd.func16, Tryd.ntmps16
    go_wp2_with fail
    refine (hf _).mono ?_
    rintro e w' ⟨rfl, rfl⟩
    go_wp2
    go_ret2
    unfold EncPost; rw [HR.out]
    exact ⟨rfl, (Below.refl _ _).alloc (Nat.le_refl _) _⟩
  have yc : ((c : Int) != 0) = false := by simp [zc]
  have HV := Lib.hid (show viol ⟨op, a, b, c, imm⟩ = false by simp [viol, f1, f2, f3, f4, zb, zc])
  cases hu : fU op with
  | true =>
    have HU := Lib.hid hu
    have HFT := Lib.hid (show fits op imm = decide (0 ≤ imm ∧ imm ≤ 65535) by unfold fits; rw [hu]; rfl)
    clear hu
    by_cases h1 : imm < 0
    · have HR := Lib.hid (enc_range (x := ⟨op, a, b, c, imm⟩) f5 HB.out HV.out f4 (by show fits op imm = false; rw [HFT.out]; simp; omega))
      clear f1 f2 f3 f4 f5 zb zc ha hb hc ho hi1 hi2
      go_enter Tryd.func16, Tryd.ntmps16
      go_wp2_with fail
      refine (hf _).mono ?_
      rintro e w' ⟨rfl, rfl⟩
      go_wp2_with fail
      refine (plain_any op _ HO.out).mono ?_
      rintro e w' ⟨rfl, rfl⟩
      rw [HU.out]
      go_wp2
      go_ret2
      unfold EncPost; rw [HR.out]
      exact ⟨rfl, (Below.refl _ _).alloc (Nat.le_refl _) _⟩
    by_cases h2 : 65535 < imm
    · have HR := Lib.hid (enc_range (x := ⟨op, a, b, c, imm⟩) f5 HB.out HV.out f4 (by show fits op imm = false; rw [HFT.out]; simp; omega))
      have h1' : decide (imm < 0) = false := by simp; omega
      clear f1 f2 f3 f4 f5 zb zc ha hb hc ho hi1 hi2
      go_enter Tryd.func16, Tryd.ntmps16
      go_wp2_with fail
      refine (hf _).mono ?_
      rintro e w' ⟨rfl, rfl⟩
      go_wp2_with fail
      refine (plain_any op _ HO.out).mono ?_
      rintro e w' ⟨rfl, rfl⟩
      rw [HU.out]
      go_wp2
      go_ret2
      unfold EncPost; rw [HR.out]
      exact ⟨rfl, (Below.refl _ _).alloc (Nat.le_refl _) _⟩
    have HR := Lib.hid (enc_good (x := ⟨op, a, b, c, imm⟩) f5 HB.out HV.out (Or.inr (by show fits op imm = true; rw [HFT.out]; simp; omega)))
    have h1' : decide (imm < 0) = false := by simp; omega
    have h2' : decide (65535 < imm) = false := by simp; omega
    have HW := Lib.hid (show (((op : Int) * 16 + a) * 16 + b) * 262144 + imm = (encW ⟨op, a, b, c, imm⟩ : Nat) by rw [zc]; exact renc_wordp op a b imm (by omega) (by omega))
    have h3 : 0 ≤ imm := by omega
    have h4 : imm ≤ 65535 := by omega
    clear f1 f2 f3 f4 f5 zb zc ha hb hc ho hi1 hi2
    go_enter Tryd.func16, Tryd.ntmps16
    go_wp2_with fail
    refine (hf _).mono ?_
    rintro e w' ⟨rfl, rfl⟩
    go_wp2_with fail
    refine (plain_any op _ HO.out).mono ?_
    rintro e w' ⟨rfl, rfl⟩
    rw [HU.out]
    go_wp2
    go_ret2
    unfold EncPost; rw [HR.out]
    exact ⟨congrArg (fun z => Ending.returned (.tuple #[.int .u32 z, .int .i64 0])) HW.out, (Below.refl _ _).alloc (Nat.le_refl _) _⟩
  | false =>
    have HU := Lib.hid hu
    have HFT := Lib.hid (show fits op imm = decide (-32768 ≤ imm ∧ imm ≤ 32767) by unfold fits; rw [hu]; rfl)
    clear hu
    by_cases h1 : imm < -32768
    · have HR := Lib.hid (enc_range (x := ⟨op, a, b, c, imm⟩) f5 HB.out HV.out f4 (by show fits op imm = false; rw [HFT.out]; simp; omega))
      clear f1 f2 f3 f4 f5 zb zc ha hb hc ho hi1 hi2
      go_enter Tryd.func16, Tryd.ntmps16
      go_wp2_with fail
      refine (hf _).mono ?_
      rintro e w' ⟨rfl, rfl⟩
      go_wp2_with fail
      refine (plain_any op _ HO.out).mono ?_
      rintro e w' ⟨rfl, rfl⟩
      rw [HU.out]
      go_wp2
      go_ret2
      unfold EncPost; rw [HR.out]
      exact ⟨rfl, (Below.refl _ _).alloc (Nat.le_refl _) _⟩
    by_cases h2 : 32767 < imm
    · have HR := Lib.hid (enc_range (x := ⟨op, a, b, c, imm⟩) f5 HB.out HV.out f4 (by show fits op imm = false; rw [HFT.out]; simp; omega))
      have h1' : decide (imm < -32768) = false := by simp; omega
      clear f1 f2 f3 f4 f5 zb zc ha hb hc ho hi1 hi2
      go_enter Tryd.func16, Tryd.ntmps16
      go_wp2_with fail
      refine (hf _).mono ?_
      rintro e w' ⟨rfl, rfl⟩
      go_wp2_with fail
      refine (plain_any op _ HO.out).mono ?_
      rintro e w' ⟨rfl, rfl⟩
      rw [HU.out]
      go_wp2
      go_ret2
      unfold EncPost; rw [HR.out]
      exact ⟨rfl, (Below.refl _ _).alloc (Nat.le_refl _) _⟩
    have HR := Lib.hid (enc_good (x := ⟨op, a, b, c, imm⟩) f5 HB.out HV.out (Or.inr (by show fits op imm = true; rw [HFT.out]; simp; omega)))
    have h1' : decide (imm < -32768) = false := by simp; omega
    have h2' : decide (32767 < imm) = false := by simp; omega
    by_cases h3 : 0 ≤ imm
    · have HW := Lib.hid (show (((op : Int) * 16 + a) * 16 + b) * 262144 + imm = (encW ⟨op, a, b, c, imm⟩ : Nat) by rw [zc]; exact renc_wordp op a b imm (by omega) (by omega))
      have h3' : ¬ imm < 0 := by omega
      have h4 : imm ≤ 32767 := by omega
      clear f1 f2 f3 f4 f5 zb zc ha hb hc ho hi1 hi2
      go_enter Tryd.func16, Tryd.ntmps16
      go_wp2_with fail
      refine (hf _).mono ?_
      rintro e w' ⟨rfl, rfl⟩
      go_wp2_with fail
      refine (plain_any op _ HO.out).mono ?_
      rintro e w' ⟨rfl, rfl⟩
      rw [HU.out]
      go_wp2
      go_ret2
      unfold EncPost; rw [HR.out]
      exact ⟨congrArg (fun z => Ending.returned (.tuple #[.int .u32 z, .int .i64 0])) HW.out, (Below.refl _ _).alloc (Nat.le_refl _) _⟩
    · have HW := Lib.hid (show (((op : Int) * 16 + a) * 16 + b) * 262144 + (imm + 65536) = (encW ⟨op, a, b, c, imm⟩ : Nat) by rw [zc]; exact renc_wordn op a b imm (by omega) (by omega))
      have h3' : imm < 0 := by omega
      have h4 : -32768 ≤ imm := by omega
      clear f1 f2 f3 f4 f5 zb zc ha hb hc ho hi1 hi2 h3
      go_enter Tryd.func16, Tryd.ntmps16
      go_wp2_with fail
      refine (hf _).mono ?_
      rintro e w' ⟨rfl, rfl⟩
      go_wp2_with fail
      refine (plain_any op _ HO.out).mono ?_
      rintro e w' ⟨rfl, rfl⟩
      rw [HU.out]
      go_wp2
      go_ret2
      unfold EncPost; rw [HR.out]
      exact ⟨congrArg (fun z => Ending.returned (.tuple #[.int .u32 z, .int .i64 0])) HW.out, (Below.refl _ _).alloc (Nat.le_refl _) _⟩

set_option maxHeartbeats 4000000 in
theorem renc_4 (op a b c : Nat) (imm : Int) (w : World) (ho : op < 256) (hfl : fA op = true ∧ fB op = true ∧ fC op = false ∧ fI op = true ∧ fOk op = true) (hf : ∀ w, Calls Tryd.prog 35 #[.int .u8 op] w fun e w' => e = .returned (.int .i64 4) ∧ w = w') (ha : a ≤ 15) (hb : b ≤ 15) (hc : c ≤ 15) (hi1 : -2147483648 ≤ imm) (hi2 : imm < 2147483648) :
    Calls Tryd.prog 16 #[.agg #[.int .u8 op, .int .u8 a, .int .u8 b, .int .u8 c, .int .i32 imm]] w (EncPost ⟨op, a, b, c, imm⟩ w) := by
  have HO := Lib.hid ho
  have HB : Hid (a ≤ 15 ∧ b ≤ 15 ∧ c ≤ 15) := ⟨ha, hb, hc⟩
  have ga := regs_ok ha
  have gb := regs_ok hb
  have gc := regs_ok hc
  have hop' : (op : Int) ≤ 31 := by have := hfl.2.2.2.2; simp only [fOk, decide_eq_true_eq] at this; omega
  have ha' : (a : Int) ≤ 15 := by omega
  have hb' : (b : Int) ≤ 15 := by omega
  have hc' : (c : Int) ≤ 15 := by omega
  obtain ⟨f1, f2, f3, f4, f5⟩ := hfl
  by_cases zc : c = 0
  case neg =>
    have HR := Lib.hid (enc_viol (x := ⟨op, a, b, c, imm⟩) f5 HB.out (by simp [viol, f1, f2, f3, f4, zc]))
    have yc : ((c : Int) != 0) = true := by simp [zc]
    clear f1 f2 f3 f4 f5 zc ha hb hc ho hi1 hi2
    go_enter Tryd.func16, Tryd.ntmps16
    go_wp2_with fail
    refine (hf _).mono ?_
    rintro e w' ⟨rfl, rfl⟩
    go_wp2
    go_ret2
    unfold EncPost; rw [HR.out]
    exact ⟨rfl, (Below.refl _ _).alloc (Nat.le_refl _) _⟩
  have yc : ((c : Int) != 0) = false := by simp [zc]
  have HV := Lib.hid (show viol ⟨op, a, b, c, imm⟩ = false by simp [viol, f1, f2, f3, f4, zc])
  cases hu : fU op with
  | true =>
    have HU := Lib.hid hu
    have HFT := Lib.hid (show fits op imm = decide (0 ≤ imm ∧ imm ≤ 65535) by unfold fits; rw [hu]; rfl)
    clear hu
    by_cases h1 : imm < 0
    · have HR := Lib.hid (enc_range (x := ⟨op, a, b, c, imm⟩) f5 HB.out HV.out f4 (by show fits op imm = false; rw [HFT.out]; simp; omega))
      clear f1 f2 f3 f4 f5 zc ha hb hc ho hi1 hi2
      go_enter Tryd.func16, Tryd.ntmps16
      go_wp2_with fail
      refine (hf _).mono ?_
      rintro e w' ⟨rfl, rfl⟩
      go_wp2_with fail
      refine (plain_any op _ HO.out).mono ?_
      rintro e w' ⟨rfl, rfl⟩
      rw [HU.out]
      go_wp2
      go_ret2
      unfold EncPost; rw [HR.out]
      exact ⟨rfl, (Below.refl _ _).alloc (Nat.le_refl _) _⟩
    by_cases h2 : 65535 < imm
    · have HR := Lib.hid (enc_range (x := ⟨op, a, b, c, imm⟩) f5 HB.out HV.out f4 (by show fits op imm = false; rw [HFT.out]; simp; omega))
      have h1' : decide (imm < 0) = false := by simp; omega
      clear f1 f2 f3 f4 f5 zc ha hb hc ho hi1 hi2
      go_enter Tryd.func16, Tryd.ntmps16
      go_wp2_with fail
      refine (hf _).mono ?_
      rintro e w' ⟨rfl, rfl⟩
      go_wp2_with fail
      refine (plain_any op _ HO.out).mono ?_
      rintro e w' ⟨rfl, rfl⟩
      rw [HU.out]
      go_wp2
      go_ret2
      unfold EncPost; rw [HR.out]
      exact ⟨rfl, (Below.refl _ _).alloc (Nat.le_refl _) _⟩
    have HR := Lib.hid (enc_good (x := ⟨op, a, b, c, imm⟩) f5 HB.out HV.out (Or.inr (by show fits op imm = true; rw [HFT.out]; simp; omega)))
    have h1' : decide (imm < 0) = false := by simp; omega
    have h2' : decide (65535 < imm) = false := by simp; omega
    have HW := Lib.hid (show (((op : Int) * 16 + a) * 16 + b) * 262144 + imm = (encW ⟨op, a, b, c, imm⟩ : Nat) by rw [zc]; exact renc_wordp op a b imm (by omega) (by omega))
    have h3 : 0 ≤ imm := by omega
    have h4 : imm ≤ 65535 := by omega
    clear f1 f2 f3 f4 f5 zc ha hb hc ho hi1 hi2
    go_enter Tryd.func16, Tryd.ntmps16
    go_wp2_with fail
    refine (hf _).mono ?_
    rintro e w' ⟨rfl, rfl⟩
    go_wp2_with fail
    refine (plain_any op _ HO.out).mono ?_
    rintro e w' ⟨rfl, rfl⟩
    rw [HU.out]
    go_wp2
    go_ret2
    unfold EncPost; rw [HR.out]
    exact ⟨congrArg (fun z => Ending.returned (.tuple #[.int .u32 z, .int .i64 0])) HW.out, (Below.refl _ _).alloc (Nat.le_refl _) _⟩
  | false =>
    have HU := Lib.hid hu
    have HFT := Lib.hid (show fits op imm = decide (-32768 ≤ imm ∧ imm ≤ 32767) by unfold fits; rw [hu]; rfl)
    clear hu
    by_cases h1 : imm < -32768
    · have HR := Lib.hid (enc_range (x := ⟨op, a, b, c, imm⟩) f5 HB.out HV.out f4 (by show fits op imm = false; rw [HFT.out]; simp; omega))
      clear f1 f2 f3 f4 f5 zc ha hb hc ho hi1 hi2
      go_enter Tryd.func16, Tryd.ntmps16
      go_wp2_with fail
      refine (hf _).mono ?_
      rintro e w' ⟨rfl, rfl⟩
      go_wp2_with fail
      refine (plain_any op _ HO.out).mono ?_
      rintro e w' ⟨rfl, rfl⟩
      rw [HU.out]
      go_wp2
      go_ret2
      unfold EncPost; rw [HR.out]
      exact ⟨rfl, (Below.refl _ _).alloc (Nat.le_refl _) _⟩
    by_cases h2 : 32767 < imm
    · have HR := Lib.hid (enc_range (x := ⟨op, a, b, c, imm⟩) f5 HB.out HV.out f4 (by show fits op imm = false; rw [HFT.out]; simp; omega))
      have h1' : decide (imm < -32768) = false := by simp; omega
      clear f1 f2 f3 f4 f5 zc ha hb hc ho hi1 hi2
      go_enter Tryd.func16, Tryd.ntmps16
      go_wp2_with fail
      refine (hf _).mono ?_
      rintro e w' ⟨rfl, rfl⟩
      go_wp2_with fail
      refine (plain_any op _ HO.out).mono ?_
      rintro e w' ⟨rfl, rfl⟩
      rw [HU.out]
      go_wp2
      go_ret2
      unfold EncPost; rw [HR.out]
      exact ⟨rfl, (Below.refl _ _).alloc (Nat.le_refl _) _⟩
    have HR := Lib.hid (enc_good (x := ⟨op, a, b, c, imm⟩) f5 HB.out HV.out (Or.inr (by show fits op imm = true; rw [HFT.out]; simp; omega)))
    have h1' : decide (imm < -32768) = false := by simp; omega
    have h2' : decide (32767 < imm) = false := by simp; omega
    by_cases h3 : 0 ≤ imm
    · have HW := Lib.hid (show (((op : Int) * 16 + a) * 16 + b) * 262144 + imm = (encW ⟨op, a, b, c, imm⟩ : Nat) by rw [zc]; exact renc_wordp op a b imm (by omega) (by omega))
      have h3' : ¬ imm < 0 := by omega
      have h4 : imm ≤ 32767 := by omega
      clear f1 f2 f3 f4 f5 zc ha hb hc ho hi1 hi2
      go_enter Tryd.func16, Tryd.ntmps16
      go_wp2_with fail
      refine (hf _).mono ?_
      rintro e w' ⟨rfl, rfl⟩
      go_wp2_with fail
      refine (plain_any op _ HO.out).mono ?_
      rintro e w' ⟨rfl, rfl⟩
      rw [HU.out]
      go_wp2
      go_ret2
      unfold EncPost; rw [HR.out]
      exact ⟨congrArg (fun z => Ending.returned (.tuple #[.int .u32 z, .int .i64 0])) HW.out, (Below.refl _ _).alloc (Nat.le_refl _) _⟩
    · have HW := Lib.hid (show (((op : Int) * 16 + a) * 16 + b) * 262144 + (imm + 65536) = (encW ⟨op, a, b, c, imm⟩ : Nat) by rw [zc]; exact renc_wordn op a b imm (by omega) (by omega))
      have h3' : imm < 0 := by omega
      have h4 : -32768 ≤ imm := by omega
      clear f1 f2 f3 f4 f5 zc ha hb hc ho hi1 hi2 h3
      go_enter Tryd.func16, Tryd.ntmps16
      go_wp2_with fail
      refine (hf _).mono ?_
      rintro e w' ⟨rfl, rfl⟩
      go_wp2_with fail
      refine (plain_any op _ HO.out).mono ?_
      rintro e w' ⟨rfl, rfl⟩
      rw [HU.out]
      go_wp2
      go_ret2
      unfold EncPost; rw [HR.out]
      exact ⟨congrArg (fun z => Ending.returned (.tuple #[.int .u32 z, .int .i64 0])) HW.out, (Below.refl _ _).alloc (Nat.le_refl _) _⟩

set_option maxHeartbeats 4000000 in
theorem renc_5 (op a b c : Nat) (imm : Int) (w : World) (ho : op < 256) (hfl : fA op = false ∧ fB op = false ∧ fC op = false ∧ fI op = true ∧ fOk op = true) (hf : ∀ w, Calls Tryd.prog 35 #[.int .u8 op] w fun e w' => e = .returned (.int .i64 5) ∧ w = w') (ha : a ≤ 15) (hb : b ≤ 15) (hc : c ≤ 15) (hi1 : -2147483648 ≤ imm) (hi2 : imm < 2147483648) :
    Calls Tryd.prog 16 #[.agg #[.int .u8 op, .int .u8 a, .int .u8 b, .int .u8 c, .int .i32 imm]] w (EncPost ⟨op, a, b, c, imm⟩ w) := by
  have HO := Lib.hid ho
  have HB : Hid (a ≤ 15 ∧ b ≤ 15 ∧ c ≤ 15) := ⟨ha, hb, hc⟩
  have ga := regs_ok ha
  have gb := regs_ok hb
  have gc := regs_ok hc
  have hop' : (op : Int) ≤ 31 := by have := hfl.2.2.2.2; simp only [fOk, decide_eq_true_eq] at this; omega
  have ha' : (a : Int) ≤ 15 := by omega
  have hb' : (b : Int) ≤ 15 := by omega
  have hc' : (c : Int) ≤ 15 := by omega
  obtain ⟨f1, f2, f3, f4, f5⟩ := hfl
  by_cases za : a = 0
  case neg =>
    have HR := Lib.hid (enc_viol (x := ⟨op, a, b, c, imm⟩) f5 HB.out (by simp [viol, f1, f2, f3, f4, za]))
    have ya : ((a : Int) != 0) = true := by simp [za]
    clear f1 f2 f3 f4 f5 za ha hb hc ho hi1 hi2
    go_enter Tryd.func16, Tryd.ntmps16
    go_wp2_with fail
    refine (hf _).mono ?_
    rintro e w' ⟨rfl, rfl⟩
    go_wp2
    go_ret2
    unfold EncPost; rw [HR.out]
    exact ⟨rfl, (Below.refl _ _).alloc (Nat.le_refl _) _⟩
  have ya : ((a : Int) != 0) = false := by simp [za]
  by_cases zb : b = 0
  case neg =>
    have HR := Lib.hid (enc_viol (x := ⟨op, a, b, c, imm⟩) f5 HB.out (by simp [viol, f1, f2, f3, f4, zb]))
    have yb : ((b : Int) != 0) = true := by simp [zb]
    clear f1 f2 f3 f4 f5 zb ha hb hc ho hi1 hi2 za
    go_enter Tryd.func16, Tryd.ntmps16
    go_wp2_with fail
    refine (hf _).mono ?_
    rintro e w' ⟨rfl, rfl⟩
    go_wp2
    go_ret2
    unfold EncPost; rw [HR.out]
    exact ⟨rfl, (Below.refl _ _).alloc (Nat.le_refl _) _⟩
  have yb : ((b : Int) != 0) = false := by simp [zb]
  by_cases zc : c = 0
  case neg =>
    have HR := Lib.hid (enc_viol (x := ⟨op, a, b, c, imm⟩) f5 HB.out (by simp [viol, f1, f2, f3, f4, zc]))
    have yc : ((c : Int) != 0) = true := by simp [zc]
    clear f1 f2 f3 f4 f5 zc ha hb hc ho hi1 hi2 za zb
    go_enter Tryd.func16, Tryd.ntmps16
    go_wp2_with fail
    refine (hf _).mono ?_
    rintro e w' ⟨rfl, rfl⟩
    go_wp2
    go_ret2
    unfold EncPost; rw [HR.out]
    exact ⟨rfl, (Below.refl _ _).alloc (Nat.le_refl _) _⟩
  have yc : ((c : Int) != 0) = false := by simp [zc]
  have HV := Lib.hid (show viol ⟨op, a, b, c, imm⟩ = false by simp [viol, f1, f2, f3, f4, za, zb, zc])
  cases hu : fU op with
  | true =>
    have HU := Lib.hid hu
    have HFT := Lib.hid (show fits op imm = decide (0 ≤ imm ∧ imm ≤ 65535) by unfold fits; rw [hu]; rfl)
    clear hu
    by_cases h1 : imm < 0
    · have HR := Lib.hid (enc_range (x := ⟨op, a, b, c, imm⟩) f5 HB.out HV.out f4 (by show fits op imm = false; rw [HFT.out]; simp; omega))
      clear f1 f2 f3 f4 f5 za zb zc ha hb hc ho hi1 hi2
      go_enter Tryd.func16, Tryd.ntmps16
      go_wp2_with fail
      refine (hf _).mono ?_
      rintro e w' ⟨rfl, rfl⟩
      go_wp2_with fail
      refine (plain_any op _ HO.out).mono ?_
      rintro e w' ⟨rfl, rfl⟩
      rw [HU.out]
      go_wp2
      go_ret2
      unfold EncPost; rw [HR.out]
      exact ⟨rfl, (Below.refl _ _).alloc (Nat.le_refl _) _⟩
    by_cases h2 : 65535 < imm
    · have HR := Lib.hid (enc_range (x := ⟨op, a, b, c, imm⟩) f5 HB.out HV.out f4 (by show fits op imm = false; rw [HFT.out]; simp; omega))
      have h1' : decide (imm < 0) = false := by simp; omega
      clear f1 f2 f3 f4 f5 za zb zc ha hb hc ho hi1 hi2
      go_enter Tryd.func16, Tryd.ntmps16
      go_wp2_with fail
      refine (hf _).mono ?_
      rintro e w' ⟨rfl, rfl⟩
      go_wp2_with fail
      refine (plain_any op _ HO.out).mono ?_
      rintro e w' ⟨rfl, rfl⟩
      rw [HU.out]
      go_wp2
      go_ret2
      unfold EncPost; rw [HR.out]
      exact ⟨rfl, (Below.refl _ _).alloc (Nat.le_refl _) _⟩
    have HR := Lib.hid (enc_good (x := ⟨op, a, b, c, imm⟩) f5 HB.out HV.out (Or.inr (by show fits op imm = true; rw [HFT.out]; simp; omega)))
    have h1' : decide (imm < 0) = false := by simp; omega
    have h2' : decide (65535 < imm) = false := by simp; omega
    have HW := Lib.hid (show (((op : Int) * 16 + a) * 16 + b) * 262144 + imm = (encW ⟨op, a, b, c, imm⟩ : Nat) by rw [zc]; exact renc_wordp op a b imm (by omega) (by omega))
    have h3 : 0 ≤ imm := by omega
    have h4 : imm ≤ 65535 := by omega
    clear f1 f2 f3 f4 f5 za zb zc ha hb hc ho hi1 hi2
    go_enter Tryd.func16, Tryd.ntmps16
    go_wp2_with fail
    refine (hf _).mono ?_
    rintro e w' ⟨rfl, rfl⟩
    go_wp2_with fail
    refine (plain_any op _ HO.out).mono ?_
    rintro e w' ⟨rfl, rfl⟩
    rw [HU.out]
    go_wp2
    go_ret2
    unfold EncPost; rw [HR.out]
    exact ⟨congrArg (fun z => Ending.returned (.tuple #[.int .u32 z, .int .i64 0])) HW.out, (Below.refl _ _).alloc (Nat.le_refl _) _⟩
  | false =>
    have HU := Lib.hid hu
    have HFT := Lib.hid (show fits op imm = decide (-32768 ≤ imm ∧ imm ≤ 32767) by unfold fits; rw [hu]; rfl)
    clear hu
    by_cases h1 : imm < -32768
    · have HR := Lib.hid (enc_range (x := ⟨op, a, b, c, imm⟩) f5 HB.out HV.out f4 (by show fits op imm = false; rw [HFT.out]; simp; omega))
      clear f1 f2 f3 f4 f5 za zb zc ha hb hc ho hi1 hi2
      go_enter Tryd.func16, Tryd.ntmps16
      go_wp2_with fail
      refine (hf _).mono ?_
      rintro e w' ⟨rfl, rfl⟩
      go_wp2_with fail
      refine (plain_any op _ HO.out).mono ?_
      rintro e w' ⟨rfl, rfl⟩
      rw [HU.out]
      go_wp2
      go_ret2
      unfold EncPost; rw [HR.out]
      exact ⟨rfl, (Below.refl _ _).alloc (Nat.le_refl _) _⟩
    by_cases h2 : 32767 < imm
    · have HR := Lib.hid (enc_range (x := ⟨op, a, b, c, imm⟩) f5 HB.out HV.out f4 (by show fits op imm = false; rw [HFT.out]; simp; omega))
      have h1' : decide (imm < -32768) = false := by simp; omega
      clear f1 f2 f3 f4 f5 za zb zc ha hb hc ho hi1 hi2
      go_enter Tryd.func16, Tryd.ntmps16
      go_wp2_with fail
      refine (hf _).mono ?_
      rintro e w' ⟨rfl, rfl⟩
      go_wp2_with fail
      refine (plain_any op _ HO.out).mono ?_
      rintro e w' ⟨rfl, rfl⟩
      rw [HU.out]
      go_wp2
      go_ret2
      unfold EncPost; rw [HR.out]
      exact ⟨rfl, (Below.refl _ _).alloc (Nat.le_refl _) _⟩
    have HR := Lib.hid (enc_good (x := ⟨op, a, b, c, imm⟩) f5 HB.out HV.out (Or.inr (by show fits op imm = true; rw [HFT.out]; simp; omega)))
    have h1' : decide (imm < -32768) = false := by simp; omega
    have h2' : decide (32767 < imm) = false := by simp; omega
    by_cases h3 : 0 ≤ imm
    · have HW := Lib.hid (show (((op : Int) * 16 + a) * 16 + b) * 262144 + imm = (encW ⟨op, a, b, c, imm⟩ : Nat) by rw [zc]; exact renc_wordp op a b imm (by omega) (by omega))
      have h3' : ¬ imm < 0 := by omega
      have h4 : imm ≤ 32767 := by omega
      clear f1 f2 f3 f4 f5 za zb zc ha hb hc ho hi1 hi2
      go_enter Tryd.func16, Tryd.ntmps16
      go_wp2_with fail
      refine (hf _).mono ?_
      rintro e w' ⟨rfl, rfl⟩
      go_wp2_with fail
      refine (plain_any op _ HO.out).mono ?_
      rintro e w' ⟨rfl, rfl⟩
      rw [HU.out]
      go_wp2
      go_ret2
      unfold EncPost; rw [HR.out]
      exact ⟨congrArg (fun z => Ending.returned (.tuple #[.int .u32 z, .int .i64 0])) HW.out, (Below.refl _ _).alloc (Nat.le_refl _) _⟩
    · have HW := Lib.hid (show (((op : Int) * 16 + a) * 16 + b) * 262144 + (imm + 65536) = (encW ⟨op, a, b, c, imm⟩ : Nat) by rw [zc]; exact renc_wordn op a b imm (by omega) (by omega))
      have h3' : imm < 0 := by omega
      have h4 : -32768 ≤ imm := by omega
      clear f1 f2 f3 f4 f5 za zb zc ha hb hc ho hi1 hi2 h3
      go_enter Tryd.func16, Tryd.ntmps16
      go_wp2_with fail
      refine (hf _).mono ?_
      rintro e w' ⟨rfl, rfl⟩
      go_wp2_with fail
      refine (plain_any op _ HO.out).mono ?_
      rintro e w' ⟨rfl, rfl⟩
      rw [HU.out]
      go_wp2
      go_ret2
      unfold EncPost; rw [HR.out]
      exact ⟨congrArg (fun z => Ending.returned (.tuple #[.int .u32 z, .int .i64 0])) HW.out, (Below.refl _ _).alloc (Nat.le_refl _) _⟩

theorem renc_any (x : Ins) (w : World) (ho : x.op < 256) (hi1 : -2147483648 ≤ x.imm) (hi2 : x.imm < 2147483648) : Calls Tryd.prog 16 #[.agg #[.int .u8 x.op, .int .u8 x.a, .int .u8 x.b, .int .u8 x.c, .int .i32 x.imm]] w (EncPost x w) := by
  obtain ⟨op, a, b, c, imm⟩ := x
  show Calls Tryd.prog 16 #[.agg #[.int .u8 op, .int .u8 a, .int .u8 b, .int .u8 c, .int .i32 imm]] w (EncPost ⟨op, a, b, c, imm⟩ w)
  have ho : op < 256 := ho
  have hi1 : -2147483648 ≤ imm := hi1
  have hi2 : imm < 2147483648 := hi2
  by_cases h : op = 0
  · subst h
    exact renc_none 0 a b c imm w (f_none (Or.inl (by omega))).2.2.2.2 (fun w => form_0 w)
  by_cases h : 1 ≤ op ∧ op ≤ 13
  · by_cases h2 : 15 < a ∨ 15 < b ∨ 15 < c
    · exact renc_bad op a b c 1 imm w (f_one (by omega) (by omega)).2.2.2.2 (by omega) (fun w => form_1 op w h.1 h.2) h2
    · exact renc_1 op a b c imm w ho (f_one (by omega) (by omega)) (fun w => form_1 op w h.1 h.2) (by omega) (by omega) (by omega) hi1 hi2
  by_cases h : 14 ≤ op ∧ op ≤ 18
  · by_cases h2 : 15 < a ∨ 15 < b ∨ 15 < c
    · exact renc_bad op a b c 2 imm w (f_two (by omega) (by omega) (by omega) (by omega)).2.2.2.2 (by omega) (fun w => form_14 op w h.1 h.2) h2
    · exact renc_2 op a b c imm w ho (f_two (by omega) (by omega) (by omega) (by omega)) (fun w => form_14 op w h.1 h.2) (by omega) (by omega) (by omega) hi1 hi2
  by_cases h : op = 19
  · subst h
    by_cases h2 : 15 < a ∨ 15 < b ∨ 15 < c
    · exact renc_bad 19 a b c 3 imm w (f_three (by omega)).2.2.2.2 (by omega) (fun w => form_19 w) h2
    · exact renc_3 19 a b c imm w ho (f_three (by omega)) (fun w => form_19 w) (by omega) (by omega) (by omega) hi1 hi2
  by_cases h : 20 ≤ op ∧ op ≤ 24
  · by_cases h2 : 15 < a ∨ 15 < b ∨ 15 < c
    · exact renc_bad op a b c 4 imm w (f_two (by omega) (by omega) (by omega) (by omega)).2.2.2.2 (by omega) (fun w => form_20 op w h.1 h.2) h2
    · exact renc_4 op a b c imm w ho (f_two (by omega) (by omega) (by omega) (by omega)) (fun w => form_20 op w h.1 h.2) (by omega) (by omega) (by omega) hi1 hi2
  by_cases h : 25 ≤ op ∧ op ≤ 28
  · by_cases h2 : 15 < a ∨ 15 < b ∨ 15 < c
    · exact renc_bad op a b c 2 imm w (f_two (by omega) (by omega) (by omega) (by omega)).2.2.2.2 (by omega) (fun w => form_25 op w h.1 h.2) h2
    · exact renc_2 op a b c imm w ho (f_two (by omega) (by omega) (by omega) (by omega)) (fun w => form_25 op w h.1 h.2) (by omega) (by omega) (by omega) hi1 hi2
  by_cases h : op = 29
  · subst h
    by_cases h2 : 15 < a ∨ 15 < b ∨ 15 < c
    · exact renc_bad 29 a b c 3 imm w (f_three (by omega)).2.2.2.2 (by omega) (fun w => form_29 w) h2
    · exact renc_3 29 a b c imm w ho (f_three (by omega)) (fun w => form_29 w) (by omega) (by omega) (by omega) hi1 hi2
  by_cases h : op = 30
  · subst h
    by_cases h2 : 15 < a ∨ 15 < b ∨ 15 < c
    · exact renc_bad 30 a b c 4 imm w (f_two (by omega) (by omega) (by omega) (by omega)).2.2.2.2 (by omega) (fun w => form_30 w) h2
    · exact renc_4 30 a b c imm w ho (f_two (by omega) (by omega) (by omega) (by omega)) (fun w => form_30 w) (by omega) (by omega) (by omega) hi1 hi2
  by_cases h : op = 31
  · subst h
    by_cases h2 : 15 < a ∨ 15 < b ∨ 15 < c
    · exact renc_bad 31 a b c 5 imm w (f_sys).2.2.2.2 (by omega) (fun w => form_31 w) h2
    · exact renc_5 31 a b c imm w ho (f_sys) (fun w => form_31 w) (by omega) (by omega) (by omega) hi1 hi2
  have h : 32 ≤ op ∧ op ≤ 255 := by omega
  exact renc_none op a b c imm w (f_none (Or.inr (by omega))).2.2.2.2 (fun w => form_32 op w h.1 h.2)
end Go.Proofs.YtcjakmnplkeldaaDoor
