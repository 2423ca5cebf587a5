/-
  What the small functions of the document's layer 14 compute.
-/
import Derived.Test.YtcjakmnplkeldaaDoorCpuB
namespace Go.Proofs.YtcjakmnplkeldaaDoor
open Go.RowKit
set_option linter.unusedVariables false
set_option linter.unusedSimpArgs false
set_option maxRecDepth 100000
theorem rnumber_any (n : Int) (w : World) : Calls Tryd.prog 30 #[.int .i32 n] w fun e w' => e = .returned (.int .u32 (n % 4294967296)) ∧ w = w' := by
  go_enter Tryd.func30, Tryd.ntmps30
  go_wp2
  go_ret
  exact ⟨ret_int (by go_num), rfl⟩
theorem rtruth_t (w : World) : Calls Tryd.prog 63 #[.bool true] w fun e w' => e = .returned (.int .u32 1) ∧ w = w' := by
  go_enter Tryd.func63, Tryd.ntmps63
  go_wp2
  go_ret
  exact ⟨rfl, rfl⟩
theorem rtruth_f (w : World) : Calls Tryd.prog 63 #[.bool false] w fun e w' => e = .returned (.int .u32 0) ∧ w = w' := by
  go_enter Tryd.func63, Tryd.ntmps63
  go_wp2
  go_ret
  exact ⟨rfl, rfl⟩
theorem rtruth_any (b : Bool) (w : World) : Calls Tryd.prog 63 #[.bool b] w fun e w' => e = .returned (.int .u32 ((if b then 1 else 0 : Nat) : Int)) ∧ w = w' := by
  cases b
  · exact rtruth_f w
  · exact rtruth_t w
theorem rsigned_any (b : Nat) (w : World) (hb : b < 4294967296) : Calls Tryd.prog 62 #[.int .u32 b] w fun e w' => e = .returned (.int .i64 (sg b)) ∧ w = w' := by
  have hb' : (b : Int) < 4294967296 := by omega
  by_cases h : b < 2147483648
  · have h1 : ¬ (2147483648 : Int) ≤ (b : Int) := by omega
    have HS : Hid (sg b = b) := by show _ = _; unfold sg; rw [if_pos h]
    clear h hb
    go_enter Tryd.func62, Tryd.ntmps62
    go_wp2
    go_ret
    exact ⟨ret_int HS.out.symm, rfl⟩
  · have h1 : (2147483648 : Int) ≤ (b : Int) := by omega
    have HS : Hid (sg b = (b : Int) - 4294967296) := by show _ = _; unfold sg; rw [if_neg h]
    clear h hb
    go_enter Tryd.func62, Tryd.ntmps62
    go_wp2
    go_ret
    exact ⟨ret_int HS.out.symm, rfl⟩
theorem rless_any (b c : Nat) (w : World) (hb : b < 4294967296) (hc : c < 4294967296) : Calls Tryd.prog 64 #[.int .u32 b, .int .u32 c] w fun e w' => e = .returned (.bool (decide (sg b < sg c))) ∧ w = w' := by
  have CA := Lib.hid (fun w => rsigned_any b w hb)
  have CB := Lib.hid (fun w => rsigned_any c w hc)
  generalize sg b = x at *
  generalize sg c = y at *
  go_enter Tryd.func64, Tryd.ntmps64
  go_wp2_with fail
  refine (CA.out _).mono ?_
  rintro e w' ⟨rfl, rfl⟩
  go_wp2_with fail
  refine (CB.out _).mono ?_
  rintro e w' ⟨rfl, rfl⟩
  go_wp2
  go_ret
  exact ⟨rfl, rfl⟩
theorem rpower_any : ∀ (n : Nat) (w : World), n ≤ 32 → Calls Tryd.prog 61 #[.int .u32 n] w fun e w' => e = .returned (.int .u64 ((2 ^ n : Nat) : Int)) ∧ w = w'
  | 0, w, _ => by
    go_enter Tryd.func61, Tryd.ntmps61
    go_wp2
    go_ret
    exact ⟨rfl, rfl⟩
  | n + 1, w, h => by
    have CA := Lib.hid (fun w => rpower_any n w (by omega))
    have hp : 2 ^ n ≤ 2 ^ 31 := Nat.pow_le_pow_right (by omega) (by omega)
    have HS : Hid (2 ^ (n + 1) = 2 * 2 ^ n) := by show _ = _; rw [Nat.pow_succ, Nat.mul_comm]
    rw [HS.out]
    generalize 2 ^ n = p at *
    have h1 : (p : Int) ≤ 2147483648 := by omega
    have h2 : ((n : Int) + 1 == 0) = false := by simp; omega
    have h3 : (n : Int) ≤ 31 := by omega
    clear HS hp h
    go_enter Tryd.func61, Tryd.ntmps61
    go_wp2_with fail
    refine (CA.out _).mono ?_
    rintro e w' ⟨rfl, rfl⟩
    go_wp2
    go_ret
    exact ⟨ret_int (by go_num), rfl⟩
theorem rthree1 (b c : Nat) (w : World) (hb : b < 4294967296) (hc : c < 4294967296) : Calls Tryd.prog 32 #[.int .u8 1, .int .u32 b, .int .u32 c] w fun e w' => e = .returned (.int .u32 (thrR 1 b c : Nat)) ∧ w = w' := by
  go_enter Tryd.func32, Tryd.ntmps32
  go_wp2
  go_ret
  exact ⟨ret_int (by show _ = (((b + c) % 4294967296 : Nat) : Int); omega), rfl⟩
theorem rthree2 (b c : Nat) (w : World) (hb : b < 4294967296) (hc : c < 4294967296) : Calls Tryd.prog 32 #[.int .u8 2, .int .u32 b, .int .u32 c] w fun e w' => e = .returned (.int .u32 (thrR 2 b c : Nat)) ∧ w = w' := by
  go_enter Tryd.func32, Tryd.ntmps32
  go_wp2
  go_ret
  exact ⟨ret_int (by show _ = (((b + (4294967296 - c)) % 4294967296 : Nat) : Int); omega), rfl⟩
theorem rthree3 (b c : Nat) (w : World) (hb : b < 4294967296) (hc : c < 4294967296) : Calls Tryd.prog 32 #[.int .u8 3, .int .u32 b, .int .u32 c] w fun e w' => e = .returned (.int .u32 (thrR 3 b c : Nat)) ∧ w = w' := by
  go_enter Tryd.func32, Tryd.ntmps32
  go_wp2
  go_ret
  exact ⟨ret_int (by show _ = ((b * c % 4294967296 : Nat) : Int); simp), rfl⟩
theorem rthree4 (b c : Nat) (w : World) (hb : b < 4294967296) (hc : c < 4294967296) : Calls Tryd.prog 32 #[.int .u8 4, .int .u32 b, .int .u32 c] w fun e w' => e = .returned (.int .u32 (thrR 4 b c : Nat)) ∧ w = w' := by
  by_cases h : c = 0
  · subst h
    go_enter Tryd.func32, Tryd.ntmps32
    go_wp2
    go_ret
    exact ⟨rfl, rfl⟩
  · have h0 : ((c : Int) == 0) = false := by simp; omega
    have h1 : (1 : Int) ≤ (c : Int) := by omega
    go_enter Tryd.func32, Tryd.ntmps32
    go_wp2
    go_ret
    refine ⟨ret_int ?_, rfl⟩
    show _ = ((if c = 0 then 4294967295 else b / c : Nat) : Int)
    rw [if_neg h]
    have hle := Nat.div_le_self b c
    have e : (b : Int) / (c : Int) = ((b / c : Nat) : Int) := by simp
    rw [e]
    generalize b / c = q at *
    omega
theorem rthree5 (b c : Nat) (w : World) (hb : b < 4294967296) (hc : c < 4294967296) : Calls Tryd.prog 32 #[.int .u8 5, .int .u32 b, .int .u32 c] w fun e w' => e = .returned (.int .u32 (thrR 5 b c : Nat)) ∧ w = w' := by
  by_cases h : c = 0
  · subst h
    go_enter Tryd.func32, Tryd.ntmps32
    go_wp2
    go_ret
    exact ⟨rfl, rfl⟩
  · have h0 : ((c : Int) == 0) = false := by simp; omega
    have h1 : (1 : Int) ≤ (c : Int) := by omega
    go_enter Tryd.func32, Tryd.ntmps32
    go_wp2
    go_ret
    refine ⟨ret_int ?_, rfl⟩
    show _ = ((if c = 0 then b else b % c : Nat) : Int)
    rw [if_neg h]; simp
theorem rthree6 (b c : Nat) (w : World) (hb : b < 4294967296) (hc : c < 4294967296) : Calls Tryd.prog 32 #[.int .u8 6, .int .u32 b, .int .u32 c] w fun e w' => e = .returned (.int .u32 (thrR 6 b c : Nat)) ∧ w = w' := by
  go_enter Tryd.func32, Tryd.ntmps32
  go_wp2
  go_ret
  exact ⟨ret_int (by rw [u32_and_nat _ _ hb hc]; rfl), rfl⟩
theorem rthree7 (b c : Nat) (w : World) (hb : b < 4294967296) (hc : c < 4294967296) : Calls Tryd.prog 32 #[.int .u8 7, .int .u32 b, .int .u32 c] w fun e w' => e = .returned (.int .u32 (thrR 7 b c : Nat)) ∧ w = w' := by
  go_enter Tryd.func32, Tryd.ntmps32
  go_wp2
  go_ret
  exact ⟨ret_int (by rw [u32_or_nat _ _ hb hc]; rfl), rfl⟩
theorem rthree8 (b c : Nat) (w : World) (hb : b < 4294967296) (hc : c < 4294967296) : Calls Tryd.prog 32 #[.int .u8 8, .int .u32 b, .int .u32 c] w fun e w' => e = .returned (.int .u32 (thrR 8 b c : Nat)) ∧ w = w' := by
  go_enter Tryd.func32, Tryd.ntmps32
  go_wp2
  go_ret
  exact ⟨ret_int (by rw [u32_xor_nat _ _ hb hc]; rfl), rfl⟩
theorem rthree9 (b c : Nat) (w : World) (hb : b < 4294967296) (hc : c < 4294967296) : Calls Tryd.prog 32 #[.int .u8 9, .int .u32 b, .int .u32 c] w fun e w' => e = .returned (.int .u32 (thrR 9 b c : Nat)) ∧ w = w' := by
  have CA := Lib.hid (fun w => rpower_any (c % 32) w (by omega))
  have p0 : 0 < 2 ^ (c % 32) := Nat.pow_pos (by omega)
  have p1 : 2 ^ (c % 32) ≤ 2 ^ 31 := Nat.pow_le_pow_right (by omega) (by omega)
  have HT : Hid (thrR 9 b c = b * 2 ^ (c % 32) % 4294967296) := rfl
  generalize 2 ^ (c % 32) = p at *
  have hb1 : (b : Int) < 4294967296 := by omega
  have q0 : (0 : Int) < (p : Int) := by omega
  have q1 : (p : Int) ≤ 2147483648 := by omega
  have hm : b * p ≤ 4294967295 * 2147483648 := Nat.mul_le_mul (by omega) (by omega)
  have hm1 : (b : Int) * (p : Int) ≤ 9223372034707292160 := by rw [← Int.natCast_mul]; omega
  have hm0 : (0 : Int) ≤ (b : Int) * (p : Int) := by rw [← Int.natCast_mul]; omega
  clear p0 p1 hm
  go_enter Tryd.func32, Tryd.ntmps32
  go_wp2_with fail
  refine (CA.out _).mono ?_
  rintro e w' ⟨rfl, rfl⟩
  go_wp2
  go_ret
  exact ⟨ret_int (by rw [HT.out]; go_num), rfl⟩
theorem rthree10 (b c : Nat) (w : World) (hb : b < 4294967296) (hc : c < 4294967296) : Calls Tryd.prog 32 #[.int .u8 10, .int .u32 b, .int .u32 c] w fun e w' => e = .returned (.int .u32 (thrR 10 b c : Nat)) ∧ w = w' := by
  have CA := Lib.hid (fun w => rpower_any (c % 32) w (by omega))
  have p0 : 0 < 2 ^ (c % 32) := Nat.pow_pos (by omega)
  have p1 : 2 ^ (c % 32) ≤ 2 ^ 31 := Nat.pow_le_pow_right (by omega) (by omega)
  have HT : Hid (thrR 10 b c = b / 2 ^ (c % 32)) := rfl
  generalize 2 ^ (c % 32) = p at *
  have hb1 : (b : Int) < 4294967296 := by omega
  have q0 : (0 : Int) < (p : Int) := by omega
  have q00 : (1 : Int) ≤ (p : Int) := by omega
  have q1 : (p : Int) ≤ 2147483648 := by omega
  have hd := Nat.div_le_self b p
  have q2 : (b : Int) / (p : Int) < 4294967296 := by rw [← Int.natCast_ediv]; omega
  have q3 : (0 : Int) ≤ (b : Int) / (p : Int) := Int.ediv_nonneg (by omega) (by omega)
  clear p0 p1 hd
  go_enter Tryd.func32, Tryd.ntmps32
  go_wp2_with fail
  refine (CA.out _).mono ?_
  rintro e w' ⟨rfl, rfl⟩
  go_wp2
  go_ret
  exact ⟨ret_int (by rw [HT.out]; first | (simp; done) | (simp; omega)), rfl⟩
theorem sar_neg {b P Q : Nat} (hb : b < 4294967296) (h2 : ¬ b < 2147483648) (hP : 0 < P) (hPQ : P * Q = 4294967296) : ((sg b / (P : Int)) % 4294967296).toNat = (b / P + (4294967296 - Q)) % 4294967296 := by
  have h1 : sg b = (b : Int) - 4294967296 := by unfold sg; rw [if_neg h2]
  have h3 : (4294967296 : Int) = (Q : Int) * (P : Int) := by rw [← Int.natCast_mul, Nat.mul_comm, hPQ]; rfl
  have h4 : sg b / (P : Int) = ((b / P : Nat) : Int) - Q := by
    rw [h1, h3, show (b : Int) - (Q : Int) * (P : Int) = (b : Int) + (-(Q : Int)) * (P : Int) by rw [Int.neg_mul]; omega, Int.add_mul_ediv_right _ _ (by omega)]
    simp; omega
  have h5 := Nat.div_le_self b P
  have h6 : Q ≤ 4294967296 := by rw [← hPQ]; exact Nat.le_mul_of_pos_left _ hP
  rw [h4]
  generalize b / P = d at *
  omega
set_option maxHeartbeats 1000000 in
theorem rthree11 (b c : Nat) (w : World) (hb : b < 4294967296) (hc : c < 4294967296) : Calls Tryd.prog 32 #[.int .u8 11, .int .u32 b, .int .u32 c] w fun e w' => e = .returned (.int .u32 (thrR 11 b c : Nat)) ∧ w = w' := by
  have CA := Lib.hid (fun w => rpower_any (c % 32) w (by omega))
  have p0 : 0 < 2 ^ (c % 32) := Nat.pow_pos (by omega)
  have p1 : 2 ^ (c % 32) ≤ 2 ^ 31 := Nat.pow_le_pow_right (by omega) (by omega)
  have CB0 := (fun w => rpower_any (32 - c % 32) w (by omega))
  rw [show ((32 - c % 32 : Nat) : Int) = 32 - (c : Int) % 32 by omega] at CB0
  have CB := Lib.hid CB0
  clear CB0
  have CS := Lib.hid (fun w => rsigned_any b w hb)
  have hb1 : (b : Int) < 4294967296 := by omega
  by_cases h2 : b < 2147483648
  · have HT : Hid (thrR 11 b c = b / 2 ^ (c % 32)) := by
      show ((sg b / 2 ^ (c % 32)) % 4294967296).toNat = _
      have e : sg b = (b : Int) := by unfold sg; rw [if_pos h2]
      have hd := Nat.div_le_self b (2 ^ (c % 32))
      rw [e, show ((2 : Int) ^ (c % 32)) = ((2 ^ (c % 32) : Nat) : Int) by simp, ← Int.natCast_ediv]
      generalize b / 2 ^ (c % 32) = d at *
      omega
    have hs0 : ¬ sg b < 0 := by unfold sg; rw [if_pos h2]; omega
    generalize 2 ^ (c % 32) = p at *
    generalize sg b = sb at *
    have q0 : (0 : Int) < (p : Int) := by omega
    have q00 : (1 : Int) ≤ (p : Int) := by omega
    have q1 : (p : Int) ≤ 2147483648 := by omega
    have hd := Nat.div_le_self b p
    have q2 : (b : Int) / (p : Int) < 4294967296 := by rw [← Int.natCast_ediv]; omega
    have q3 : (0 : Int) ≤ (b : Int) / (p : Int) := Int.ediv_nonneg (by omega) (by omega)
    have hs1 : decide (sb < 0) = false := by simp; omega
    clear p0 p1 hd h2 CB hs0
    go_enter Tryd.func32, Tryd.ntmps32
    go_wp2_with fail
    refine (CA.out _).mono ?_
    rintro e w' ⟨rfl, rfl⟩
    go_wp2_with fail
    refine (CS.out _).mono ?_
    rintro e w' ⟨rfl, rfl⟩
    go_wp2
    go_ret
    exact ⟨ret_int (by rw [HT.out]; first | (simp; done) | (simp; omega)), rfl⟩
  · have hPQ : 2 ^ (c % 32) * 2 ^ (32 - c % 32) = 4294967296 := by
      rw [← Nat.pow_add, show c % 32 + (32 - c % 32) = 32 by omega]
    have HT : Hid (thrR 11 b c = (b / 2 ^ (c % 32) + (4294967296 - 2 ^ (32 - c % 32))) % 4294967296) := by
      show ((sg b / 2 ^ (c % 32)) % 4294967296).toNat = _
      rw [show ((2 : Int) ^ (c % 32)) = ((2 ^ (c % 32) : Nat) : Int) by simp]
      exact sar_neg hb h2 p0 hPQ
    have hs0 : sg b < 0 := by unfold sg; rw [if_neg h2]; omega
    have r1 : 2 ^ (32 - c % 32) ≤ 2 ^ 32 := Nat.pow_le_pow_right (by omega) (by omega)
    have hc32 : ((32 : Int) - (c : Int) % 32) % 4294967296 = ((32 - c % 32 : Nat) : Int) := by omega
    generalize 2 ^ (c % 32) = p at *
    generalize 2 ^ (32 - c % 32) = r at *
    generalize sg b = sb at *
    have q0 : (0 : Int) < (p : Int) := by omega
    have q00 : (1 : Int) ≤ (p : Int) := by omega
    have q1 : (p : Int) ≤ 2147483648 := by omega
    have r2 : (r : Int) ≤ 4294967296 := by omega
    have hd := Nat.div_le_self b p
    have q2 : (b : Int) / (p : Int) < 4294967296 := by rw [← Int.natCast_ediv]; omega
    have q3 : (0 : Int) ≤ (b : Int) / (p : Int) := Int.ediv_nonneg (by omega) (by omega)
    clear p0 p1 hd h2 hPQ r1
    go_enter Tryd.func32, Tryd.ntmps32
    go_wp2_with fail
    refine (CA.out _).mono ?_
    rintro e w' ⟨rfl, rfl⟩
    go_wp2_with fail
    refine (CS.out _).mono ?_
    rintro e w' ⟨rfl, rfl⟩
    go_wp2_with fail
    refine (CB.out _).mono ?_
    rintro e w' ⟨rfl, rfl⟩
    go_wp2
    go_ret
    exact ⟨ret_int (by rw [HT.out]; first | (simp; done) | (simp; omega)), rfl⟩
theorem rthree12 (b c : Nat) (w : World) (hb : b < 4294967296) (hc : c < 4294967296) : Calls Tryd.prog 32 #[.int .u8 12, .int .u32 b, .int .u32 c] w fun e w' => e = .returned (.int .u32 (thrR 12 b c : Nat)) ∧ w = w' := by
  go_enter Tryd.func32, Tryd.ntmps32
  go_wp2_with fail
  refine (rless_any b c _ hb hc).mono ?_
  rintro e w' ⟨rfl, rfl⟩
  go_wp2_with fail
  refine (rtruth_any _ _).mono ?_
  rintro e w' ⟨rfl, rfl⟩
  by_cases h : sg b < sg c
  all_goals
    simp only [h, decide_true, decide_false, if_true, if_false, Bool.false_eq_true]
    go_wp2
    go_ret
    refine ⟨ret_int ?_, rfl⟩
    show _ = ((if sg b < sg c then 1 else 0 : Nat) : Int)
    first | (rw [if_pos h]; done) | (rw [if_pos h]; rfl) | (rw [if_neg (Int.not_lt.2 h)]; rfl)
theorem rthree13 (b c : Nat) (w : World) (hb : b < 4294967296) (hc : c < 4294967296) : Calls Tryd.prog 32 #[.int .u8 13, .int .u32 b, .int .u32 c] w fun e w' => e = .returned (.int .u32 (thrR 13 b c : Nat)) ∧ w = w' := by
  have hn : ((b : Int) < (c : Int)) = (b < c) := by simp
  go_enter Tryd.func32, Tryd.ntmps32
  go_wp2_with fail
  refine (rtruth_any _ _).mono ?_
  rintro e w' ⟨rfl, rfl⟩
  by_cases h : b < c
  all_goals
    simp only [h, decide_true, decide_false, if_true, if_false, Bool.false_eq_true]
    go_wp2
    go_ret
    refine ⟨ret_int ?_, rfl⟩
    show _ = ((if b < c then 1 else 0 : Nat) : Int)
    simp [h]
theorem rthree_any (op b c : Nat) (w : World) (h1 : 1 ≤ op) (h2 : op ≤ 13) (hb : b < 4294967296) (hc : c < 4294967296) : Calls Tryd.prog 32 #[.int .u8 op, .int .u32 b, .int .u32 c] w fun e w' => e = .returned (.int .u32 (thrR op b c : Nat)) ∧ w = w' := by
  rcases ops13 h1 h2 with rfl | rfl | rfl | rfl | rfl | rfl | rfl | rfl | rfl | rfl | rfl | rfl | rfl
  · exact rthree1 b c w hb hc
  · exact rthree2 b c w hb hc
  · exact rthree3 b c w hb hc
  · exact rthree4 b c w hb hc
  · exact rthree5 b c w hb hc
  · exact rthree6 b c w hb hc
  · exact rthree7 b c w hb hc
  · exact rthree8 b c w hb hc
  · exact rthree9 b c w hb hc
  · exact rthree10 b c w hb hc
  · exact rthree11 b c w hb hc
  · exact rthree12 b c w hb hc
  · exact rthree13 b c w hb hc
end Go.Proofs.YtcjakmnplkeldaaDoor
