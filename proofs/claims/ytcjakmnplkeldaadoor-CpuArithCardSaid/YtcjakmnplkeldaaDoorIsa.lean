/-
  What isa.fields, unsigned, fits, Enc and Dec compute.
-/
import Derived.Test.YtcjakmnplkeldaaDoorRows
import Derived.Test.YtcjakmnplkeldaaDoorBase
namespace Go.Proofs.YtcjakmnplkeldaaDoor
open Go.RowKit
set_option linter.unusedVariables false
set_option linter.unusedSimpArgs false

/-- what an operation has -/
def fA (op : Nat) : Bool := decide (1 ≤ op ∧ op ≤ 30)
def fB (op : Nat) : Bool := decide (1 ≤ op ∧ op ≤ 18 ∨ 20 ≤ op ∧ op ≤ 28 ∨ op = 30)
def fC (op : Nat) : Bool := decide (1 ≤ op ∧ op ≤ 13)
def fI (op : Nat) : Bool := decide (14 ≤ op ∧ op ≤ 31)
def fOk (op : Nat) : Bool := decide (1 ≤ op ∧ op ≤ 31)
def fU (op : Nat) : Bool := decide (15 ≤ op ∧ op ≤ 17 ∨ op = 19 ∨ op = 31)
def fits (op : Nat) (n : Int) : Bool := if fU op then decide (0 ≤ n ∧ n ≤ 65535) else decide (-32768 ≤ n ∧ n ≤ 32767)

theorem f_none {op : Nat} (h : op < 1 ∨ 31 < op) : fA op = false ∧ fB op = false ∧ fC op = false ∧ fI op = false ∧ fOk op = false := by
  simp only [fA, fB, fC, fI, fOk, decide_eq_false_iff_not]; omega
theorem f_one {op : Nat} (h : 1 ≤ op) (h2 : op ≤ 13) : fA op = true ∧ fB op = true ∧ fC op = true ∧ fI op = false ∧ fOk op = true := by
  simp only [fA, fB, fC, fI, fOk, decide_eq_false_iff_not, decide_eq_true_eq]; omega
theorem f_three {op : Nat} (h : op = 19 ∨ op = 29) : fA op = true ∧ fB op = false ∧ fC op = false ∧ fI op = true ∧ fOk op = true := by
  simp only [fA, fB, fC, fI, fOk, decide_eq_false_iff_not, decide_eq_true_eq]; omega
theorem f_sys : fA 31 = false ∧ fB 31 = false ∧ fC 31 = false ∧ fI 31 = true ∧ fOk 31 = true := by decide
theorem f_two {op : Nat} (h : 14 ≤ op) (h2 : op ≤ 30) (h3 : op ≠ 19) (h4 : op ≠ 29) : fA op = true ∧ fB op = true ∧ fC op = false ∧ fI op = true ∧ fOk op = true := by
  simp only [fA, fB, fC, fI, fOk, decide_eq_false_iff_not, decide_eq_true_eq]; omega

def FieldsPost (op : Nat) (w : World) (e : Ending) (w' : World) : Prop :=
  e = .returned (.tuple #[.agg #[.bool (fA op), .bool (fB op), .bool (fC op), .bool (fI op)], .bool (fOk op)]) ∧ Below w.heap.size w w'

set_option maxHeartbeats 1000000 in
theorem fields_any (op : Nat) (w : World) (ho : op < 256) : Calls Tryd.prog 37 #[.int .u8 op] w (FieldsPost op w) := by
  by_cases h1 : op < 1
  · have HF := Lib.hid (f_none (Or.inl h1))
    have g1 : (op : Int) < 1 := by omega
    clear h1 ho
    go_enter Tryd.func37, Tryd.ntmps37
    go_wp2
    obtain ⟨e1, e2, e3, e4, e5⟩ := HF.out
    exact bodyPost_ret (v := .tuple #[.agg #[.bool false, .bool false, .bool false, .bool false], .bool false]) (by simp [results, Tryd.results37, go_sem]) rfl ⟨by rw [e1, e2, e3, e4, e5], (Below.refl _ _).alloc (Nat.le_refl _) _⟩
  by_cases h2 : 31 < op
  · have HF := Lib.hid (f_none (Or.inr h2))
    have g1 : ¬ (op : Int) < 1 := by omega
    have g1' : decide ((op : Int) < 1) = false := by simpa using g1
    have g2 : (31 : Int) < (op : Int) := by omega
    clear h1 h2 ho
    go_enter Tryd.func37, Tryd.ntmps37
    go_wp2
    obtain ⟨e1, e2, e3, e4, e5⟩ := HF.out
    exact bodyPost_ret (v := .tuple #[.agg #[.bool false, .bool false, .bool false, .bool false], .bool false]) (by simp [results, Tryd.results37, go_sem]) rfl ⟨by rw [e1, e2, e3, e4, e5], (Below.refl _ _).alloc (Nat.le_refl _) _⟩
  have g1 : ¬ (op : Int) < 1 := by omega
  have g1' : decide ((op : Int) < 1) = false := by simpa using g1
  have g2 : ¬ (31 : Int) < (op : Int) := by omega
  by_cases h3 : op ≤ 13
  · have HF := Lib.hid (f_one (by omega) h3)
    have g3 : (op : Int) ≤ 13 := by omega
    clear h1 h2 h3 ho
    go_enter Tryd.func37, Tryd.ntmps37
    go_wp2
    obtain ⟨e1, e2, e3, e4, e5⟩ := HF.out
    exact bodyPost_ret (v := .tuple #[.agg #[.bool true, .bool true, .bool true, .bool false], .bool true]) (by simp [results, Tryd.results37, go_sem]) rfl ⟨by rw [e1, e2, e3, e4, e5], (Below.refl _ _).alloc (Nat.le_refl _) _⟩
  have g3 : ¬ (op : Int) ≤ 13 := by omega
  by_cases h4 : op = 19
  · subst h4
    have HF := Lib.hid (f_three (op := 19) (Or.inl rfl))
    clear h1 h2 h3 ho g1 g1' g2 g3
    go_enter Tryd.func37, Tryd.ntmps37
    go_wp2
    obtain ⟨e1, e2, e3, e4, e5⟩ := HF.out
    exact bodyPost_ret (v := .tuple #[.agg #[.bool true, .bool false, .bool false, .bool true], .bool true]) (by simp [results, Tryd.results37, go_sem]) rfl ⟨by rw [e1, e2, e3, e4, e5], (Below.refl _ _).alloc (Nat.le_refl _) _⟩
  by_cases h5 : op = 29
  · subst h5
    have HF := Lib.hid (f_three (op := 29) (Or.inr rfl))
    clear h1 h2 h3 ho g1 g1' g2 g3 h4
    go_enter Tryd.func37, Tryd.ntmps37
    go_wp2
    obtain ⟨e1, e2, e3, e4, e5⟩ := HF.out
    exact bodyPost_ret (v := .tuple #[.agg #[.bool true, .bool false, .bool false, .bool true], .bool true]) (by simp [results, Tryd.results37, go_sem]) rfl ⟨by rw [e1, e2, e3, e4, e5], (Below.refl _ _).alloc (Nat.le_refl _) _⟩
  by_cases h6 : op = 31
  · subst h6
    have HF := Lib.hid f_sys
    clear h1 h2 h3 ho g1 g1' g2 g3 h4 h5
    go_enter Tryd.func37, Tryd.ntmps37
    go_wp2
    obtain ⟨e1, e2, e3, e4, e5⟩ := HF.out
    exact bodyPost_ret (v := .tuple #[.agg #[.bool false, .bool false, .bool false, .bool true], .bool true]) (by simp [results, Tryd.results37, go_sem]) rfl ⟨by rw [e1, e2, e3, e4, e5], (Below.refl _ _).alloc (Nat.le_refl _) _⟩
  · have HF := Lib.hid (f_two (op := op) (by omega) (by omega) h4 h5)
    have g4 : ((op : Int) == 19) = false := by simp; omega
    have g5 : ((op : Int) == 29) = false := by simp; omega
    have g6 : ((op : Int) == 31) = false := by simp; omega
    clear h1 h2 h3 h4 h5 h6 ho
    go_enter Tryd.func37, Tryd.ntmps37
    go_wp2
    obtain ⟨e1, e2, e3, e4, e5⟩ := HF.out
    exact bodyPost_ret (v := .tuple #[.agg #[.bool true, .bool true, .bool false, .bool true], .bool true]) (by simp [results, Tryd.results37, go_sem]) rfl ⟨by rw [e1, e2, e3, e4, e5], (Below.refl _ _).alloc (Nat.le_refl _) _⟩

set_option maxHeartbeats 1000000 in
theorem unsigned_any (op : Nat) (w : World) (ho : op < 256) : Calls Tryd.prog 42 #[.int .u8 op] w fun e w' => e = .returned (.bool (fU op)) ∧ w = w' := by
  by_cases h : op = 19
  · subst h
    go_enter Tryd.func42, Tryd.ntmps42
    go_wp2
    go_ret
    exact ⟨rfl, rfl⟩
  by_cases h2 : op = 31
  · subst h2
    go_enter Tryd.func42, Tryd.ntmps42
    go_wp2
    go_ret
    exact ⟨rfl, rfl⟩
  have g4 : ((op : Int) == 19) = false := by simp; omega
  have g6 : ((op : Int) == 31) = false := by simp; omega
  by_cases h3 : 15 ≤ op ∧ op ≤ 17
  · have HF := Lib.hid (show fU op = true by simp only [fU, decide_eq_true_eq]; omega)
    have g1 : (15 : Int) ≤ (op : Int) := by omega
    have g2 : (op : Int) ≤ 17 := by omega
    clear h h2 h3 ho
    go_enter Tryd.func42, Tryd.ntmps42
    go_wp2
    go_ret
    exact ⟨by rw [HF.out]; rfl, rfl⟩
  · have HF := Lib.hid (show fU op = false by simp only [fU, decide_eq_false_iff_not]; omega)
    by_cases h5 : op < 15
    · have g1 : ¬ (15 : Int) ≤ (op : Int) := by omega
      have g1' : decide ((15 : Int) ≤ (op : Int)) = false := by simpa using g1
      clear h h2 h3 ho h5
      go_enter Tryd.func42, Tryd.ntmps42
      go_wp2
      go_ret
      exact ⟨by rw [HF.out]; rfl, rfl⟩
    · have g1 : (15 : Int) ≤ (op : Int) := by omega
      have g2 : ¬ (op : Int) ≤ 17 := by omega
      have g2' : decide ((op : Int) ≤ 17) = false := by simpa using g2
      clear h h2 h3 ho h5
      go_enter Tryd.func42, Tryd.ntmps42
      go_wp2
      go_ret
      exact ⟨by rw [HF.out]; rfl, rfl⟩

set_option maxHeartbeats 1000000 in
theorem fits_any (op : Nat) (n : Int) (w : World) (ho : op < 256) : Calls Tryd.prog 38 #[.int .u8 op, .int .i32 n] w fun e w' => e = .returned (.bool (fits op n)) ∧ w = w' := by
  cases hu : fU op with
  | true =>
    have HF := Lib.hid (show fits op n = decide (0 ≤ n ∧ n ≤ 65535) by unfold fits; rw [hu]; rfl)
    have HU := Lib.hid hu
    clear hu
    by_cases h1 : 0 ≤ n
    · by_cases h2 : n ≤ 65535
      all_goals
        go_enter Tryd.func38, Tryd.ntmps38
        go_wp2_with fail
        refine (unsigned_any op _ ho).mono ?_
        rintro e w' ⟨rfl, rfl⟩
        rw [HU.out]
        go_wp2
        go_ret
        exact ⟨ret_bool (by rw [HF.out]; simp [h1, h2]), rfl⟩
    · have h1' : decide (0 ≤ n) = false := by simpa using h1
      go_enter Tryd.func38, Tryd.ntmps38
      go_wp2_with fail
      refine (unsigned_any op _ ho).mono ?_
      rintro e w' ⟨rfl, rfl⟩
      rw [HU.out]
      go_wp2
      go_ret
      exact ⟨ret_bool (by rw [HF.out]; simp; omega), rfl⟩
  | false =>
    have HF := Lib.hid (show fits op n = decide (-32768 ≤ n ∧ n ≤ 32767) by unfold fits; rw [hu]; rfl)
    have HU := Lib.hid hu
    clear hu
    by_cases h1 : -32768 ≤ n
    · by_cases h2 : n ≤ 32767
      all_goals
        go_enter Tryd.func38, Tryd.ntmps38
        go_wp2_with fail
        refine (unsigned_any op _ ho).mono ?_
        rintro e w' ⟨rfl, rfl⟩
        rw [HU.out]
        go_wp2
        go_ret
        exact ⟨ret_bool (by rw [HF.out]; simp [h1, h2]), rfl⟩
    · have h1' : decide (-32768 ≤ n) = false := by simpa using h1
      go_enter Tryd.func38, Tryd.ntmps38
      go_wp2_with fail
      refine (unsigned_any op _ ho).mono ?_
      rintro e w' ⟨rfl, rfl⟩
      rw [HU.out]
      go_wp2
      go_ret
      exact ⟨ret_bool (by rw [HF.out]; simp; omega), rfl⟩
end Go.Proofs.YtcjakmnplkeldaaDoor
