/-
  The chapter's example (law18's alive); a volume without anything has free inodes alone.
-/
import Derived.Test.YtclmocppphojfaaLaw18
namespace Go.Proofs.Ytclmocppphojfaa
open Go.RowKit
set_option linter.unusedVariables false
set_option linter.unusedSimpArgs false
set_option maxRecDepth 100000
theorem leN_zeros : ∀ n, leN (List.replicate n 0) = 0
  | 0 => rfl
  | n + 1 => by rw [List.replicate_succ, leN, leN_zeros n]; rfl
theorem numAt_zeros (n p k : Nat) : numAt (List.replicate n 0) p k = 0 := by
  unfold numAt
  rw [List.drop_replicate, List.take_replicate, leN_zeros]
theorem fmt_blk {b m n : Nat} (h : planE b m = 0) (h1 : 1 ≤ n) (h2 : n ≤ m) : blkL (fmtV b m) (blkN n) = List.replicate 128 0 := by
  have hp := planE_iff.1 h
  have hb := blk_at h1 h2
  unfold blkL
  rw [fmtV_get b m _ (by omega), if_neg (by omega), if_neg (by omega), if_pos (by omega), zerosB_list]
theorem fmt_kind {b m n : Nat} (h : planE b m = 0) (h1 : 1 ≤ n) (h2 : n ≤ m) : kindR (fmtV b m) n = 0 := by
  unfold kindR; rw [fmt_blk h h1 h2, numAt_zeros]
theorem new_24 : newO (fmtV 24 8) 1 3 = (putV (fmtV 24 8) 1 (newL 1 3), 1, 0) := by
  have hp : planE (24 : Nat) (8 : Nat) = 0 := by decide
  unfold newO
  rw [ofR_some.2 (fmtV_vol hp)]
  dsimp only
  rw [if_neg (by decide), freeI_some.2 ⟨Nat.le_refl 1, (by decide : 1 ≤ 8), fmt_kind hp (by decide) (by decide), fun j a b => by omega⟩]
  rfl
set_option maxHeartbeats 2000000 in
theorem alive18_any (w : World) : Calls Try.prog 33 #[] w fun e w' => e = .returned (.bool true) ∧ Below w.heap.size w w' := by
  have hp : planE (24 : Nat) (8 : Nat) = 0 := by decide
  have C2 : Hid (∀ w, Calls Try.prog 17 #[.int .i64 24, .int .i64 8] w fun e w' => (∃ v, e = .returned (.tuple #[v, .int .i64 0]) ∧ NewRow (fmtV 24 8) w v w') ∧ Below w.heap.size w w') := fun w => (format_any 24 8 w).mono fun e w' h => by
    unfold FmtPost at h
    rw [if_pos (show planE 24 8 = 0 by decide)] at h
    exact ⟨h.2, h.1⟩
  have C3 : Hid (∀ A c w, RowAt w w.heap.size A ((fmtV 24 8).map .string) → Calls Try.prog 35 #[.slice A (fmtV 24 8).length c, .int .i64 1, .int .i64 3] w fun e w' => (∃ v, e = .returned (.tuple #[v, .int .i64 1, .int .i64 0]) ∧ OwnRow (putV (fmtV 24 8) 1 (newL 1 3)) w v w') ∧ Below w.heap.size w w') := fun A c w hr => by
    have := new_ino A c (fmtV 24 8) 1 3 w (by rw [fmtV_length]; decide) hr
    rw [new_24] at this
    exact this
  have HL : Hid ((putV (fmtV 24 8) 1 (newL 1 3)).length = 24 ∧ (fmtV 24 8).length = 24) := ⟨by rw [putV_length, fmtV_length], fmtV_length _ _⟩
  have C4 : Hid (∀ A c w, RowAt w w.heap.size A ((putV (fmtV 24 8) 1 (newL 1 3)).map .string) → Calls Try.prog 38 #[.slice A (putV (fmtV 24 8) 1 (newL 1 3)).length c, .int .i64 1] w fun e w' => e = .returned (.tuple #[inoA 1 1 3 0 0 0 0 0 0 0 0 0, .int .i64 0]) ∧ Below w.heap.size w w') := fun A c w hr => by
    have := get_ino A c (putV (fmtV 24 8) 1 (newL 1 3)) 1 w (by rw [HL.out.1]; decide) hr
    have e1 : inoE (putV (fmtV 24 8) 1 (newL 1 3)) 1 = 0 := inoE_zero ((fmtV_vol hp).putI (by decide) (by decide) _) (n := 1) (by decide) (by decide)
    have e2 : getR (putV (fmtV 24 8) 1 (newL 1 3)) 1 = newL 1 3 := get_put_same (fmtV_vol hp) (n := 1) (by decide) (by decide) (newL_fit (by decide) (by decide))
    rw [e1, e2] at this
    exact this
  have q1 := fun w => ino_eql 1 1 3 0 0 0 0 0 0 0 0 0 w
  unfold inoA at q1 C4
  clear hp
  generalize fmtV 24 8 = f at *
  generalize putV f 1 (newL 1 3) = g at *
  go_enter Try.func33, Try.ntmps33
  go_wp2_with fail
  refine (C2.out _).mono ?_
  rintro e w1 ⟨⟨v, rfl, hn⟩, hb1⟩
  obtain ⟨A1, c1, rfl, hr1⟩ := hn.read
  have B1 := Lib.hid hb1
  have R1 := Lib.hid hr1
  clear hn hb1 hr1
  go_wp2_with fail
  refine (C3.out _ _ _ R1.out).mono ?_
  rintro e w2 ⟨⟨v, rfl, hn⟩, hb2⟩
  obtain ⟨A2, c2, rfl, hr2⟩ := hn.read
  have B2 := Lib.hid (B1.out.trans (hb2.mono B1.out.size))
  have R2 := Lib.hid hr2
  clear hn hb2 hr2
  go_wp2_with fail
  refine (C4.out _ _ _ R2.out).mono ?_
  rintro e w3 ⟨rfl, hb3⟩
  have B3 := Lib.hid (B2.out.trans (hb3.mono B2.out.size))
  have hz3 := B3.out.size
  clear hb3
  go_wp2
  go_ret
  exact ⟨rfl, B3.out.alloc hz3 _⟩
end Go.Proofs.Ytclmocppphojfaa
