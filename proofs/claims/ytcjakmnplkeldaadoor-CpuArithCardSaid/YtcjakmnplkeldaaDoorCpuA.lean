/-
  What cpu's small functions compute.
-/
import Derived.Test.YtcjakmnplkeldaaDoorDec
import Derived.Test.YtcjakmnplkeldaaDoorMmuMem
namespace Go.Proofs.YtcjakmnplkeldaaDoor
open Go.RowKit
set_option linter.unusedVariables false
set_option linter.unusedSimpArgs false
/-- a number with a sign -/
def sg (b : Nat) : Int := if b < 2147483648 then b else (b : Int) - 4294967296
/-- what an operation of three registers makes of two numbers -/
def thrR (op b c : Nat) : Nat :=
  if op = 1 then (b + c) % 4294967296
  else if op = 2 then (b + (4294967296 - c)) % 4294967296
  else if op = 3 then b * c % 4294967296
  else if op = 4 then (if c = 0 then 4294967295 else b / c)
  else if op = 5 then (if c = 0 then b else b % c)
  else if op = 6 then b &&& c
  else if op = 7 then b ||| c
  else if op = 8 then b ^^^ c
  else if op = 9 then b * 2 ^ (c % 32) % 4294967296
  else if op = 10 then b / 2 ^ (c % 32)
  else if op = 11 then ((sg b / 2 ^ (c % 32)) % 4294967296).toNat
  else if op = 12 then (if sg b < sg c then 1 else 0)
  else (if b < c then 1 else 0)
theorem and31 (c : Nat) (h : c < 4294967296) : bits .and .u32 (c : Int) 31 = ((c % 32 : Nat) : Int) := by
  rw [show (31 : Int) = ((31 : Nat) : Int) by rfl, u32_and_nat _ _ h (by omega), show (31 : Nat) = 2 ^ 5 - 1 by rfl, Nat.and_two_pow_sub_one_eq_mod]
theorem wrap32_sg (b : Nat) (h : b < 4294967296) : wrap32 (b : Int) = sg b := by
  unfold wrap32 sg
  split <;> omega
theorem truth_t (w : World) : Calls Tryd.prog 55 #[.bool true] w fun e w' => e = .returned (.int .u32 1) ∧ w = w' := by
  go_enter Tryd.func55, Tryd.ntmps55
  go_wp2
  go_ret
  exact ⟨rfl, rfl⟩
theorem truth_f (w : World) : Calls Tryd.prog 55 #[.bool false] w fun e w' => e = .returned (.int .u32 0) ∧ w = w' := by
  go_enter Tryd.func55, Tryd.ntmps55
  go_wp2
  go_ret
  exact ⟨rfl, rfl⟩
theorem truth_any (b : Bool) (w : World) : Calls Tryd.prog 55 #[.bool b] w fun e w' => e = .returned (.int .u32 ((if b then 1 else 0 : Nat) : Int)) ∧ w = w' := by
  cases b
  · exact truth_f w
  · exact truth_t w
theorem less_any (b c : Nat) (w : World) (hb : b < 4294967296) (hc : c < 4294967296) : Calls Tryd.prog 56 #[.int .u32 b, .int .u32 c] w fun e w' => e = .returned (.bool (decide (sg b < sg c))) ∧ w = w' := by
  have H1 := Lib.hid (wrap32_sg b hb)
  have H2 := Lib.hid (wrap32_sg c hc)
  go_enter Tryd.func56, Tryd.ntmps56
  go_wp2
  go_ret
  exact ⟨ret_bool (by rw [H1.out, H2.out]), rfl⟩
theorem rk1 (b c : Nat) (w : World) (hb : b < 4294967296) (hc : c < 4294967296) : Calls Tryd.prog 43 #[.int .u32 b, .int .u32 c] w fun e w' => e = .returned (.int .u32 (thrR 1 b c : Nat)) ∧ w = w' := by
  go_enter Tryd.func43, Tryd.ntmps43
  go_wp2
  go_ret
  exact ⟨ret_int (by show _ = (((b + c) % 4294967296 : Nat) : Int); omega), rfl⟩
theorem rk2 (b c : Nat) (w : World) (hb : b < 4294967296) (hc : c < 4294967296) : Calls Tryd.prog 44 #[.int .u32 b, .int .u32 c] w fun e w' => e = .returned (.int .u32 (thrR 2 b c : Nat)) ∧ w = w' := by
  go_enter Tryd.func44, Tryd.ntmps44
  go_wp2
  go_ret
  exact ⟨ret_int (by show _ = (((b + (4294967296 - c)) % 4294967296 : Nat) : Int); omega), rfl⟩
theorem rk3 (b c : Nat) (w : World) (hb : b < 4294967296) (hc : c < 4294967296) : Calls Tryd.prog 45 #[.int .u32 b, .int .u32 c] w fun e w' => e = .returned (.int .u32 (thrR 3 b c : Nat)) ∧ w = w' := by
  go_enter Tryd.func45, Tryd.ntmps45
  go_wp2
  go_ret
  exact ⟨ret_int (by show _ = ((b * c % 4294967296 : Nat) : Int); simp), rfl⟩
theorem rk4 (b c : Nat) (w : World) (hb : b < 4294967296) (hc : c < 4294967296) : Calls Tryd.prog 48 #[.int .u32 b, .int .u32 c] w fun e w' => e = .returned (.int .u32 (thrR 6 b c : Nat)) ∧ w = w' := by
  go_enter Tryd.func48, Tryd.ntmps48
  go_wp2
  go_ret
  exact ⟨ret_int (by rw [u32_and_nat _ _ hb hc]; rfl), rfl⟩
theorem rk5 (b c : Nat) (w : World) (hb : b < 4294967296) (hc : c < 4294967296) : Calls Tryd.prog 49 #[.int .u32 b, .int .u32 c] w fun e w' => e = .returned (.int .u32 (thrR 7 b c : Nat)) ∧ w = w' := by
  go_enter Tryd.func49, Tryd.ntmps49
  go_wp2
  go_ret
  exact ⟨ret_int (by rw [u32_or_nat _ _ hb hc]; rfl), rfl⟩
theorem rk6 (b c : Nat) (w : World) (hb : b < 4294967296) (hc : c < 4294967296) : Calls Tryd.prog 50 #[.int .u32 b, .int .u32 c] w fun e w' => e = .returned (.int .u32 (thrR 8 b c : Nat)) ∧ w = w' := by
  go_enter Tryd.func50, Tryd.ntmps50
  go_wp2
  go_ret
  exact ⟨ret_int (by rw [u32_xor_nat _ _ hb hc]; rfl), rfl⟩
theorem rk7 (b c : Nat) (w : World) (hb : b < 4294967296) (hc : c < 4294967296) : Calls Tryd.prog 51 #[.int .u32 b, .int .u32 c] w fun e w' => e = .returned (.int .u32 (thrR 9 b c : Nat)) ∧ w = w' := by
  have h31 := and31 c hc
  have h32 : ((c % 32 : Nat) : Int) < 32 := by omega
  go_enter Tryd.func51, Tryd.ntmps51
  go_wp2
  go_ret
  exact ⟨ret_int (by show _ = ((b * 2 ^ (c % 32) % 4294967296 : Nat) : Int); simp), rfl⟩
theorem rk8 (b c : Nat) (w : World) (hb : b < 4294967296) (hc : c < 4294967296) : Calls Tryd.prog 52 #[.int .u32 b, .int .u32 c] w fun e w' => e = .returned (.int .u32 (thrR 10 b c : Nat)) ∧ w = w' := by
  have h31 := and31 c hc
  have h32 : ((c % 32 : Nat) : Int) < 32 := by omega
  go_enter Tryd.func52, Tryd.ntmps52
  go_wp2
  go_ret
  exact ⟨ret_int (by show _ = ((b / 2 ^ (c % 32) : Nat) : Int); simp), rfl⟩
theorem rk9 (b c : Nat) (w : World) (hb : b < 4294967296) (hc : c < 4294967296) : Calls Tryd.prog 53 #[.int .u32 b, .int .u32 c] w fun e w' => e = .returned (.int .u32 (thrR 11 b c : Nat)) ∧ w = w' := by
  have h31 := and31 c hc
  have h32 : ((c % 32 : Nat) : Int) < 32 := by omega
  have HS := Lib.hid (wrap32_sg b hb)
  go_enter Tryd.func53, Tryd.ntmps53
  go_wp2
  go_ret
  exact ⟨ret_int (by rw [HS.out]; show _ = (((sg b / 2 ^ (c % 32)) % 4294967296).toNat : Int); rw [Int.toNat_of_nonneg (Int.emod_nonneg _ (by decide))]), rfl⟩
theorem rk10 (b c : Nat) (w : World) (hb : b < 4294967296) (hc : c < 4294967296) : Calls Tryd.prog 54 #[.int .u32 b, .int .u32 c] w fun e w' => e = .returned (.int .u32 (thrR 12 b c : Nat)) ∧ w = w' := by
  go_enter Tryd.func54, Tryd.ntmps54
  go_wp2_with fail
  refine (less_any b c _ hb hc).mono ?_
  rintro e w' ⟨rfl, rfl⟩
  go_wp2_with fail
  refine (truth_any _ _).mono ?_
  rintro e w' ⟨rfl, rfl⟩
  by_cases h : sg b < sg c
  all_goals
    simp only [h, decide_true, decide_false, if_true, if_false, Bool.false_eq_true]
    go_wp2
    go_ret
    refine ⟨ret_int ?_, rfl⟩
    show _ = ((if sg b < sg c then 1 else 0 : Nat) : Int)
    first | (rw [if_pos h]; done) | (rw [if_pos h]; rfl) | (rw [if_neg (Int.not_lt.2 h)]; rfl)
theorem rk11 (b c : Nat) (w : World) (hb : b < 4294967296) (hc : c < 4294967296) : Calls Tryd.prog 57 #[.int .u32 b, .int .u32 c] w fun e w' => e = .returned (.int .u32 (thrR 13 b c : Nat)) ∧ w = w' := by
  have hn : ((b : Int) < (c : Int)) = (b < c) := by simp
  go_enter Tryd.func57, Tryd.ntmps57
  go_wp2_with fail
  refine (truth_any _ _).mono ?_
  rintro e w' ⟨rfl, rfl⟩
  by_cases h : b < c
  all_goals
    simp only [h, decide_true, decide_false, if_true, if_false, Bool.false_eq_true]
    go_wp2
    go_ret
    refine ⟨ret_int ?_, rfl⟩
    show _ = ((if b < c then 1 else 0 : Nat) : Int)
    simp [h]
theorem div_any (b c : Nat) (w : World) (hb : b < 4294967296) (hc : c < 4294967296) : Calls Tryd.prog 46 #[.int .u32 b, .int .u32 c] w fun e w' => e = .returned (.int .u32 (thrR 4 b c : Nat)) ∧ w = w' := by
  by_cases h : c = 0
  · subst h
    go_enter Tryd.func46, Tryd.ntmps46
    go_wp2
    go_ret
    exact ⟨rfl, rfl⟩
  · have h0 : ((c : Int) == 0) = false := by simp; omega
    have h1 : (1 : Int) ≤ (c : Int) := by omega
    go_enter Tryd.func46, Tryd.ntmps46
    go_wp2
    go_ret
    refine ⟨ret_int ?_, rfl⟩
    show _ = ((if c = 0 then 4294967295 else b / c : Nat) : Int)
    rw [if_neg h]
    have hle := Nat.div_le_self b c
    have e : (b : Int) / (c : Int) = ((b / c : Nat) : Int) := by simp
    rw [e]
    generalize b / c = q at *
    omega
theorem rest_any (b c : Nat) (w : World) (hb : b < 4294967296) (hc : c < 4294967296) : Calls Tryd.prog 47 #[.int .u32 b, .int .u32 c] w fun e w' => e = .returned (.int .u32 (thrR 5 b c : Nat)) ∧ w = w' := by
  by_cases h : c = 0
  · subst h
    go_enter Tryd.func47, Tryd.ntmps47
    go_wp2
    go_ret
    exact ⟨rfl, rfl⟩
  · have h0 : ((c : Int) == 0) = false := by simp; omega
    have h1 : (1 : Int) ≤ (c : Int) := by omega
    go_enter Tryd.func47, Tryd.ntmps47
    go_wp2
    go_ret
    refine ⟨ret_int ?_, rfl⟩
    show _ = ((if c = 0 then b else b % c : Nat) : Int)
    rw [if_neg h]; simp
theorem reckon_1 (w : World) : Calls Tryd.prog 24 #[.int .u8 1] w fun e w' => e = .returned (.func (.func 43) #[] #[]) ∧ w = w' := by
  go_enter Tryd.func24, Tryd.ntmps24
  go_wp2
  go_ret
  exact ⟨rfl, rfl⟩
theorem reckon_2 (w : World) : Calls Tryd.prog 24 #[.int .u8 2] w fun e w' => e = .returned (.func (.func 44) #[] #[]) ∧ w = w' := by
  go_enter Tryd.func24, Tryd.ntmps24
  go_wp2
  go_ret
  exact ⟨rfl, rfl⟩
theorem reckon_3 (w : World) : Calls Tryd.prog 24 #[.int .u8 3] w fun e w' => e = .returned (.func (.func 45) #[] #[]) ∧ w = w' := by
  go_enter Tryd.func24, Tryd.ntmps24
  go_wp2
  go_ret
  exact ⟨rfl, rfl⟩
theorem reckon_4 (w : World) : Calls Tryd.prog 24 #[.int .u8 4] w fun e w' => e = .returned (.func (.func 46) #[] #[]) ∧ w = w' := by
  go_enter Tryd.func24, Tryd.ntmps24
  go_wp2
  go_ret
  exact ⟨rfl, rfl⟩
theorem reckon_5 (w : World) : Calls Tryd.prog 24 #[.int .u8 5] w fun e w' => e = .returned (.func (.func 47) #[] #[]) ∧ w = w' := by
  go_enter Tryd.func24, Tryd.ntmps24
  go_wp2
  go_ret
  exact ⟨rfl, rfl⟩
theorem reckon_6 (w : World) : Calls Tryd.prog 24 #[.int .u8 6] w fun e w' => e = .returned (.func (.func 48) #[] #[]) ∧ w = w' := by
  go_enter Tryd.func24, Tryd.ntmps24
  go_wp2
  go_ret
  exact ⟨rfl, rfl⟩
theorem reckon_7 (w : World) : Calls Tryd.prog 24 #[.int .u8 7] w fun e w' => e = .returned (.func (.func 49) #[] #[]) ∧ w = w' := by
  go_enter Tryd.func24, Tryd.ntmps24
  go_wp2
  go_ret
  exact ⟨rfl, rfl⟩
theorem reckon_8 (w : World) : Calls Tryd.prog 24 #[.int .u8 8] w fun e w' => e = .returned (.func (.func 50) #[] #[]) ∧ w = w' := by
  go_enter Tryd.func24, Tryd.ntmps24
  go_wp2
  go_ret
  exact ⟨rfl, rfl⟩
theorem reckon_9 (w : World) : Calls Tryd.prog 24 #[.int .u8 9] w fun e w' => e = .returned (.func (.func 51) #[] #[]) ∧ w = w' := by
  go_enter Tryd.func24, Tryd.ntmps24
  go_wp2
  go_ret
  exact ⟨rfl, rfl⟩
theorem reckon_10 (w : World) : Calls Tryd.prog 24 #[.int .u8 10] w fun e w' => e = .returned (.func (.func 52) #[] #[]) ∧ w = w' := by
  go_enter Tryd.func24, Tryd.ntmps24
  go_wp2
  go_ret
  exact ⟨rfl, rfl⟩
theorem reckon_11 (w : World) : Calls Tryd.prog 24 #[.int .u8 11] w fun e w' => e = .returned (.func (.func 53) #[] #[]) ∧ w = w' := by
  go_enter Tryd.func24, Tryd.ntmps24
  go_wp2
  go_ret
  exact ⟨rfl, rfl⟩
theorem reckon_12 (w : World) : Calls Tryd.prog 24 #[.int .u8 12] w fun e w' => e = .returned (.func (.func 54) #[] #[]) ∧ w = w' := by
  go_enter Tryd.func24, Tryd.ntmps24
  go_wp2
  go_ret
  exact ⟨rfl, rfl⟩
theorem reckon_13 (w : World) : Calls Tryd.prog 24 #[.int .u8 13] w fun e w' => e = .returned (.func (.func 57) #[] #[]) ∧ w = w' := by
  go_enter Tryd.func24, Tryd.ntmps24
  go_wp2
  go_ret
  exact ⟨rfl, rfl⟩
end Go.Proofs.YtcjakmnplkeldaaDoor
