/-
  Plain laws of CpuArith: an instruction of registers, or of a register and a number, that stands in a page.
-/
import Derived.Test.YtcjakmnplkeldaaDoorCpuPlain
namespace Go.Proofs.YtcjakmnplkeldaaDoor
set_option linter.unusedVariables false
set_option linter.unusedSimpArgs false
def arV (x : Ins) (R : List Nat) : Nat :=
  if x.op ≤ 13 then thrR x.op ((R.set 0 0).getD x.b 0) ((R.set 0 0).getD x.c 0)
  else if x.op ≤ 18 then thrR (wnR x.op) ((R.set 0 0).getD x.b 0) (x.imm % 4294967296).toNat
  else (x.imm % 4294967296).toNat * 65536 % 4294967296
def arR (x : Ins) (R : List Nat) : List Nat := ((R.set 0 0).set x.a (arV x R)).set 0 0
theorem ar_step {x : Ins} {R : List Nat} (z : ByteArray) (he : (encR x).2 = 0) (h19 : x.op ≤ 19) :
    stepR R 0 onePages [pgB [(encR x).1], z] = ⟨arR x R, 4, [pgB [(encR x).1], z], 0, 0⟩ := by
  have hl : loadR [pgB [(encR x).1], z] onePages 0 4 = some (encR x).1 := load_page (ws := [(encR x).1]) (j := 0) z (by decide) (encR_lt _)
  rw [step_of hl he]
  unfold stDo arR arV
  try dsimp only
  by_cases h13 : x.op ≤ 13
  · rw [if_pos h13, if_pos h13]
  · rw [if_neg h13, if_neg h13]
    by_cases h18 : x.op ≤ 18
    · rw [if_pos h18, if_pos h18]
    · rw [if_neg h18, if_neg h18, if_pos (by omega)]
theorem arR_len {x : Ins} {R : List Nat} (h : R.length = 16) : (arR x R).length = 16 := by unfold arR; simp [h]
theorem arR_zero {x : Ins} {R : List Nat} (h : R.length = 16) : (arR x R).getD 0 0 = 0 := by
  unfold arR; simp [List.getD_eq_getElem?_getD, List.getElem?_set, h]
theorem arR_a {x : Ins} {R : List Nat} (h : R.length = 16) (ha : x.a ≤ 15) (h0 : x.a ≠ 0) : (arR x R).getD x.a 0 = arV x R := by
  unfold arR
  simp [List.getD_eq_getElem?_getD, List.getElem?_set, h, Ne.symm h0, show x.a < 16 by omega]
theorem ar_1 {b v : Nat} (hb : b < 4294967296) (hv : v < 4294967296) : ((thrR 1 b v : Nat) - (v : Int)) % 4294967296 = b := by
  show (((b + v) % 4294967296 : Nat) - (v : Int)) % 4294967296 = b
  omega
theorem ar_4 {b v : Nat} (hv : v ≠ 0) : thrR 4 b v * v ≤ b ∧ b < thrR 4 b v * v + v := by
  have e : thrR 4 b v = b / v := by show (if v = 0 then _ else b / v) = _; rw [if_neg hv]
  rw [e]
  have h1 := Nat.div_mul_le_self b v
  have h2 := Nat.lt_div_mul_add (a := b) (b := v) (by omega)
  exact ⟨h1, h2⟩
end Go.Proofs.YtcjakmnplkeldaaDoor
