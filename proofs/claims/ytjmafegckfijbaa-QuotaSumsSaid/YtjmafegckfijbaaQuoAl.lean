/-
  The example of chapter 22, in plain words: reckoned out.
-/
import Derived.Test.YtjmafegckfijbaaQuoA
namespace Go.Proofs.Ytjmafegckfijbaa
set_option linter.unusedVariables false
set_option linter.unusedSimpArgs false
def alV : List ByteArray := putV (fmtV 24 8) 1 (newL 1 3)
def alD : List UInt8 := [48, 49, 50, 51, 52, 53, 54, 55, 56, 57, 48, 49, 50, 51, 52, 53, 54, 55, 56, 57, 48, 49, 50, 51, 52, 53, 54, 55, 56, 57, 48, 49, 50, 51, 52, 53, 54, 55, 56, 57]
def alS : Option (List ByteArray × List Nat) := wriG noK alV 8 (newL 1 3) 100 alD
def alX : List ByteArray := match alS with
  | some s => putV s.1 1 s.2
  | none => []
theorem al_free : freeI (fmtV 24 8) 8 = some 1 := by kernel_rfl
theorem al_some : alS.isSome = true := by kernel_rfl
theorem al_all : allR alX 8 = [1] := by kernel_rfl
theorem al_cnt : countX alX 8 (inoR (blkL alX (blkN 1)) (atN 1)) = 2 := by kernel_rfl
theorem al_own : (inoR (blkL alX (blkN 1)) (atN 1)).getD 2 0 = 3 := by kernel_rfl
theorem al_lim : numAt (blkL (layX alX 1 6 (putL 2 2)) 1) 6 2 = 2 := by kernel_rfl
end Go.Proofs.Ytjmafegckfijbaa
