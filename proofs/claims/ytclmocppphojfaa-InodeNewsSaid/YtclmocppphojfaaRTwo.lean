/-
  What the document's two of layer 18 computes.
-/
import Derived.Test.YtclmocppphojfaaRFits
import Derived.Test.YtclmocppphojfaaBlkOps
namespace Go.Proofs.Ytclmocppphojfaa
open Go.RowKit
set_option linter.unusedVariables false
set_option linter.unusedSimpArgs false
set_option maxRecDepth 100000
theorem putL_two (n : Nat) : putL n 2 = [UInt8.ofNat (n % 256), UInt8.ofNat (n / 256 % 256)] := by
  rw [putL_succ, putL_succ]; rfl
set_option maxHeartbeats 1000000 in
theorem two_any (n : Nat) (w : World) (h : n < 9223372036854775808) : Calls Try.prog 70 #[.int .i64 n] w fun e w' => e = .returned (.string ⟨(putL n 2).toArray⟩) ∧ Below w.heap.size w w' := by
  obtain ⟨a, ha⟩ : ∃ a, n % 256 = a := ⟨_, rfl⟩
  obtain ⟨b, hb⟩ : ∃ b, n / 256 % 256 = b := ⟨_, rfl⟩
  have HS : Hid ((⟨(putL n 2).toArray⟩ : ByteArray) = ⟨#[UInt8.ofNat a, UInt8.ofNat b]⟩) := by show _ = _; rw [putL_two, ha, hb]
  have t1 : (n : Int).tmod 256 = (n : Int) % 256 := Int.tmod_eq_emod_of_nonneg (by omega)
  have t2 : (n : Int).tdiv 256 = (n : Int) / 256 := Int.tdiv_eq_ediv_of_nonneg (by omega)
  have t3 : ((n : Int) / 256).tmod 256 = (n : Int) / 256 % 256 := Int.tmod_eq_emod_of_nonneg (by omega)
  have u1 : IntKind.u8.wrap ((n : Int) % 256) = (a : Int) := by simp [IntKind.wrap, IntKind.bits, IntKind.signed]; omega
  have u2 : IntKind.u8.wrap ((n : Int) / 256 % 256) = (b : Int) := by simp [IntKind.wrap, IntKind.bits, IntKind.signed]; omega
  have hcv := conv_blk (P := Try.prog) (w := w.alloc (.cells #[.int .u8 (a : Int), .int .u8 (b : Int)] 5)) (g := w.heap.size) (t := 5) (st := ⟨#[UInt8.ofNat a, UInt8.ofNat b]⟩) 2 (by
    have e1 : (UInt8.ofNat a).toNat = a := by rw [UInt8.toNat_ofNat']; exact Nat.mod_eq_of_lt (by omega)
    have e2 : (UInt8.ofNat b).toNat = b := by rw [UInt8.toNat_ofNat']; exact Nat.mod_eq_of_lt (by omega)
    have := Blk.new w 5 #[.int .u8 (a : Int), .int .u8 (b : Int)]
    rw [show ((⟨#[UInt8.ofNat a, UInt8.ofNat b]⟩ : ByteArray).data.toList.map fun x => Value.int .u8 (x.toNat : Int)).toArray = #[.int .u8 (a : Int), .int .u8 (b : Int)] by simp [e1, e2]]
    exact this) rfl 2 Try.underlying62 Try.underlying5 Try.underlying9
  clear ha hb
  go_enter Try.func70, Try.ntmps70
  go_wp2
  go_ret
  exact ⟨by rw [HS.out]; rfl, (Below.refl _ _).alloc (Nat.le_refl _) _⟩
end Go.Proofs.Ytclmocppphojfaa
