/-
  A volume without anything has free inodes alone (plain).
-/
import Derived.Test.YtoanladhikdcaaaGreatInoPl
import Derived.Test.YtoanladhikdcaaaGreatGeomF
namespace Go.Proofs.YtoanladhikdcaaaGreat
set_option linter.unusedVariables false
set_option linter.unusedSimpArgs false
set_option maxRecDepth 100000
theorem leN_zeros : ∀ n, leN (List.replicate n 0) = 0
  | 0 => rfl
  | n + 1 => by rw [List.replicate_succ, leN, leN_zeros n]; rfl
theorem numAt_zeros (n p k : Nat) : numAt (List.replicate n 0) p k = 0 := by
  unfold numAt
  rw [List.drop_replicate, List.take_replicate, leN_zeros]
theorem fmt_blk {b m n : Nat} (h : planE b m = 0) (h1 : 1 ≤ n) (h2 : n ≤ m) : blkL (fmtV b m) (blkN n) = List.replicate 128 0 := by
  have hp := planE_iff.1 h
  have hb := blk_at h1 h2
  unfold blkL
  rw [fmtV_get b m _ (by omega), if_neg (by omega), if_neg (by omega), if_pos (by omega), zerosB_list]
theorem fmt_kind {b m n : Nat} (h : planE b m = 0) (h1 : 1 ≤ n) (h2 : n ≤ m) : kindR (fmtV b m) n = 0 := by
  unfold kindR; rw [fmt_blk h h1 h2, numAt_zeros]
theorem new_24 : newO (fmtV 24 8) 1 3 = (putV (fmtV 24 8) 1 (newL 1 3), 1, 0) := by
  have hp : planE (24 : Nat) (8 : Nat) = 0 := by decide
  unfold newO
  rw [ofR_some.2 (fmtV_vol hp)]
  dsimp only
  rw [if_neg (by decide), freeI_some.2 ⟨Nat.le_refl 1, (by decide : 1 ≤ 8), fmt_kind hp (by decide) (by decide), fun j a b => by omega⟩]
  rfl
end Go.Proofs.YtoanladhikdcaaaGreat
