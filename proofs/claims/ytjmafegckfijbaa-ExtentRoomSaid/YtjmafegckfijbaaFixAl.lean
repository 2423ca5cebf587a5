/-
  The concrete run of law19's fixed: plain words.
-/
import Derived.Test.YtjmafegckfijbaaQuoA
namespace Go.Proofs.Ytjmafegckfijbaa

def fxV : List ByteArray := putV (fmtV 24 4) 1 (newL 1 0)
def fxD : List UInt8 := [120]
def fxS : Option (List ByteArray × List Nat) := wriG noK fxV 4 (newL 1 0) 300 fxD
def fxX : List ByteArray := match fxS with | none => [] | some s => putV s.1 1 s.2
theorem fx_free : freeI (fmtV 24 4) 4 = some 1 := by kernel_rfl
theorem fx_some : fxS.isSome = true := by kernel_rfl
theorem fx_inoB : blocksX fxX 4 (inoR (blkL fxX (blkN 1)) (atN 1)) = [-1, -1, 5] := by kernel_rfl
theorem fx_cnt : countX fxX 4 (inoR (blkL fxX (blkN 1)) (atN 1)) = 1 := by kernel_rfl
end Go.Proofs.Ytjmafegckfijbaa
