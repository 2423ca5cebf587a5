/-
  The walk of the law IsaOp.
-/
import Derived.Test.YtnaknooefjiahaaDoorIsaAlive
import Derived.Test.YtnaknooefjiahaaDoorIsaOp
namespace Go.Proofs.YtnaknooefjiahaaDoor
open Go.RowKit
set_option linter.unusedVariables false
set_option linter.unusedSimpArgs false
theorem enc_zero (n : Nat) : ((encR ⟨n, 0, 0, 0, 0⟩).2 == 0) = decide (1 ≤ n ∧ n ≤ 31) := by
  unfold encR
  by_cases h : fOk n = false
  · rw [if_pos h]
    simp only [fOk, decide_eq_false_iff_not] at h
    rw [decide_eq_false h]; rfl
  · rw [if_neg h, if_neg (by simp), if_neg (by simp [viol]), if_neg (by
      rintro ⟨_, h2⟩
      unfold fits at h2
      split at h2 <;> simp at h2)]
    have : 1 ≤ n ∧ n ≤ 31 := by simpa [fOk] using h
    rw [decide_eq_true this]; rfl
set_option maxHeartbeats 1000000 in
theorem law_op (s : ByteArray) (n : Nat) (w : World) (hl : Laid w) (hs : s.size ≤ 9223372036854775807) (hn : n < 256) :
    Calls Tryd.prog 9 #[.string s, .int .u8 n] w fun e w' => e = .returned (.bool true) ∧ Below w.heap.size w w' := by
  have L := Lib.hid hl
  have HN := Lib.hid hn
  have hz := enc_zero n
  cases hr : encR ⟨n, 0, 0, 0, 0⟩ with | mk v en
  rw [hr] at hz
  dsimp only at hz
  have HR := Lib.hid hr
  have HZ := Lib.hid hz
  clear hl hr hz
  go_enter Tryd.func9, Tryd.ntmps9
  go_wp2_with fail
  refine (alive_any _ L.out).mono ?_
  rintro e w1 ⟨rfl, hb1⟩
  have B := Lib.hid hb1
  clear hb1
  by_cases h1 : 50 < s.size
  · go_wp2
    go_ret
    exact ⟨rfl, B.out⟩
  go_wp2_with fail
  refine (op_any s _ (L.out.later B.out)).mono ?_
  rintro e w2 ⟨m, hm, hm31, rfl, hb2⟩
  have B := Lib.hid (B.out.trans (hb2.mono B.out.size))
  have HM := Lib.hid hm
  clear hb2 hm
  go_wp2_with fail
  refine (rop_any s _).mono ?_
  rintro e w3 ⟨m2, hm2, _, rfl, hb3⟩
  obtain rfl := HM.out.det hm2
  have B := Lib.hid (B.out.trans (hb3.mono B.out.size))
  clear hb3 hm2
  go_wp2_with fail
  refine (enc_any ⟨n, 0, 0, 0, 0⟩ _ HN.out).mono ?_
  rintro e w4 ⟨rfl, hb4⟩
  have B := Lib.hid ((B.out.alloc B.out.size _).trans (hb4.mono (by have := B.out.size; simp; omega)))
  clear hb4
  rw [HR.out]; unfold encE
  by_cases h2 : 1 ≤ n
  · by_cases h3 : n ≤ 31
    · have h4 : (en == 0) = true := by rw [HZ.out]; simp; omega
      have h5 : (1 : Int) ≤ (n : Int) := by omega
      have h6 : decide ((n : Int) ≤ 31) = true := by simp; omega
      go_wp2
      go_ret
      exact ⟨rfl, B.out⟩
    · have h4 : (en == 0) = false := by rw [HZ.out]; simp; omega
      have h5 : (1 : Int) ≤ (n : Int) := by omega
      have h6 : decide ((n : Int) ≤ 31) = false := by simp; omega
      go_wp2
      go_ret
      exact ⟨rfl, B.out⟩
  · have h4 : (en == 0) = false := by rw [HZ.out]; simp; omega
    have h5 : decide ((1 : Int) ≤ (n : Int)) = false := by simp; omega
    go_wp2
    go_ret
    exact ⟨rfl, B.out⟩
end Go.Proofs.YtnaknooefjiahaaDoor
