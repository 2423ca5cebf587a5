/-
  The chapter's examples (geomAlive), and two plans held against each other.
-/
import Derived.Test.YtclmocppphojfaaRGeomF
import Derived.Test.YtclmocppphojfaaSame
namespace Go.Proofs.Ytclmocppphojfaa
open Go.RowKit
set_option linter.unusedVariables false
set_option linter.unusedSimpArgs false
set_option maxRecDepth 100000
theorem fmt_of {b m : Nat} (h : planE b m = 0) : ofR (fmtV b m) = some m := ofR_some.2 (fmtV_vol h)
theorem fmt_map {b m : Nat} (h : planE b m = 0) : blkL (fmtV b m) 2 = mapN (dataN m) := by
  have := planE_iff.1 h
  unfold blkL
  rw [fmtV_get b m 2 (by omega), if_pos rfl, mapB_list]
theorem plan_24 : planE 24 8 = 0 := by decide
theorem free_24 : freeR (fmtV 24 8) 8 = some 7 := by
  have hp : planE (24 : Nat) (8 : Nat) = 0 := plan_24
  have hd : dataN 8 = 7 := rfl
  refine (freeR_some (by rw [fmtV_length, hd]; decide)).2 ⟨by rw [hd]; decide, by rw [fmtV_length]; decide, ?_, fun j a b => ?_⟩
  · rw [fmt_map hp, hd, bitL_map _ _ (by decide)]; rfl
  · rw [hd] at a; omega
theorem used_24 : usedR (fmtV 24 8) 7 = false := by
  have hp : planE (24 : Nat) (8 : Nat) = 0 := plan_24
  unfold usedR
  rw [fmt_of hp]
  dsimp only
  rw [fmt_map hp, show dataN 8 = 7 from rfl, show (7 : Int).toNat = 7 from rfl, bitL_map _ _ (by decide)]
  simp
theorem taken_24 : usedR (takeV (fmtV 24 8) 7) 7 = true := by
  have hp : planE (24 : Nat) (8 : Nat) = 0 := plan_24
  have hd : dataN 8 = 7 := rfl
  have hv := (fmtV_vol hp).take (i := 7) (by rw [hd]; decide) (by rw [fmtV_length]; decide)
  unfold usedR
  rw [ofR_some.2 hv]
  dsimp only
  rw [takeV_map (by decide) (by rw [fmtV_length]; decide), fmt_map hp, hd, takeV_length, fmtV_length, show (7 : Int).toNat = 7 from rfl, bitL_turn _ _ _ (by rw [mapN_length]; decide), bitL_map _ _ (by decide)]
  simp
theorem room_24 : roomR (fmtV 24 8) = 17 := by
  have hp : planE (24 : Nat) (8 : Nat) = 0 := plan_24
  rw [fmtV_room hp]; rfl
set_option maxHeartbeats 2000000 in
theorem alive_any (w : World) : Calls Try.prog 14 #[] w fun e w' => e = .returned (.bool true) ∧ Below w.heap.size w w' := by
  have hp : planE (24 : Nat) (8 : Nat) = 0 := plan_24
  have C1 : Hid (∀ w, Calls Try.prog 15 #[.int .i64 24, .int .i64 8] w fun e w' => e = .returned (.tuple #[.agg #[.int .i64 24, .int .i64 8, .int .i64 1, .int .i64 2, .int .i64 3, .int .i64 7], .int .i64 0]) ∧ Below w.heap.size w w') := fun w => (plan_any 24 8 w).mono fun e w' h => ⟨h.1.trans (by rw [plan_24]; unfold planC; rw [if_pos plan_24]; rfl), h.2⟩
  have C2 : Hid (∀ w, Calls Try.prog 17 #[.int .i64 24, .int .i64 8] w fun e w' => (∃ v, e = .returned (.tuple #[v, .int .i64 0]) ∧ NewRow (fmtV 24 8) w v w') ∧ Below w.heap.size w w') := fun w => (format_any 24 8 w).mono fun e w' h => by
    unfold FmtPost at h
    rw [if_pos plan_24] at h
    exact ⟨h.2, h.1⟩
  have C3 : Hid (∀ A c w, RowAt w w.heap.size A ((fmtV 24 8).map .string) → Calls Try.prog 27 #[.slice A 24 c] w fun e w' => (∃ v, e = .returned (.tuple #[v, .int .i64 7, .int .i64 0]) ∧ NewRow (takeV (fmtV 24 8) 7) w v w') ∧ Below w.heap.size w w') := fun A c w hr => (take_any A c (fmtV 24 8) w (by rw [fmtV_length]; decide) hr).mono fun e w' h => by
    unfold TakePost at h
    rw [fmt_of hp] at h
    dsimp only at h
    rw [free_24] at h
    exact ⟨h.2, h.1⟩
  have C4 : Hid (∀ A c w, RowAt w w.heap.size A ((fmtV 24 8).map .string) → Calls Try.prog 21 #[.slice A 24 c] w fun e w' => e = .returned (.int .i64 17) ∧ Below w.heap.size w w') := fun A c w hr => (room_any A c (fmtV 24 8) w (by rw [fmtV_length]; decide) hr).mono fun e w' h => ⟨h.1.trans (by rw [room_24]; rfl), h.2⟩
  have C5 : Hid (∀ A c w, RowAt w w.heap.size A ((fmtV 24 8).map .string) → Calls Try.prog 24 #[.slice A 24 c, .int .i64 7] w fun e w' => e = .returned (.bool false) ∧ Below w.heap.size w w') := fun A c w hr => (used_any A c (fmtV 24 8) 7 w (by rw [fmtV_length]; decide) hr).mono fun e w' h => ⟨h.1.trans (by rw [used_24]), h.2⟩
  have C6 : Hid (∀ A c w, RowAt w w.heap.size A ((takeV (fmtV 24 8) 7).map .string) → Calls Try.prog 24 #[.slice A 24 c, .int .i64 7] w fun e w' => e = .returned (.bool true) ∧ Below w.heap.size w w') := fun A c w hr => by
    have := used_any A c (takeV (fmtV 24 8) 7) 7 w (by rw [takeV_length, fmtV_length]; decide) hr
    rw [takeV_length, fmtV_length] at this
    exact this.mono fun e w' h => ⟨h.1.trans (by rw [taken_24]), h.2⟩
  have HL1 : Hid ((fmtV 24 8).length = 24) := fmtV_length 24 8
  have HL2 : Hid ((takeV (fmtV 24 8) 7).length = 24) := by show _ = _; rw [takeV_length, fmtV_length]
  clear hp
  generalize fmtV 24 8 = xs at *
  generalize takeV xs 7 = ys at *
  go_enter Try.func14, Try.ntmps14
  go_wp2_with fail
  refine (C1.out _).mono ?_
  rintro e w1 ⟨rfl, hb1⟩
  have B1 := Lib.hid hb1
  have hz1 := hb1.size
  clear hb1
  go_wp2_with fail
  refine (C2.out _).mono ?_
  rintro e w2 ⟨⟨v, rfl, ⟨g, rfl, hg, hn⟩⟩, hb2⟩
  rw [HL1.out]
  have G := Lib.hid ((Blk.new w1 24 #[.int .i64 24, .int .i64 8, .int .i64 1, .int .i64 2, .int .i64 3, .int .i64 7]).below hb2 (by simp))
  have B2 := Lib.hid ((B1.out.alloc hz1 _).trans (hb2.mono (by simp; omega)))
  have N := Lib.hid hn.row
  clear hb2 hn hg
  go_wp2_with fail
  refine (C3.out _ _ _ N.out).mono ?_
  rintro e w3 ⟨⟨v, rfl, ⟨g2, rfl, hg, hn⟩⟩, hb3⟩
  rw [HL2.out]
  have G := Lib.hid (G.out.below hb3 G.out.lt)
  have B3 := Lib.hid (B2.out.trans (hb3.mono B2.out.size))
  have N := Lib.hid ((N.out.below hb3).mono hb3.size)
  have M := Lib.hid hn.row
  clear hb3 hn hg
  have y5 : w3.cell? ⟨w1.heap.size, 5, none⟩ = some (.int .i64 7) := G.out.cell 5 rfl
  go_wp2_with fail
  refine (C4.out _ _ _ N.out).mono ?_
  rintro e w4 ⟨rfl, hb4⟩
  have B4 := Lib.hid (B3.out.trans (hb4.mono B3.out.size))
  have N := Lib.hid ((N.out.below hb4).mono hb4.size)
  have M := Lib.hid ((M.out.below hb4).mono hb4.size)
  clear hb4 y5
  go_wp2_with fail
  refine (C6.out _ _ _ M.out).mono ?_
  rintro e w5 ⟨rfl, hb5⟩
  have B5 := Lib.hid (B4.out.trans (hb5.mono B4.out.size))
  have N := Lib.hid ((N.out.below hb5).mono hb5.size)
  clear hb5
  go_wp2_with fail
  refine (C5.out _ _ _ N.out).mono ?_
  rintro e w6 ⟨rfl, hb6⟩
  have B6 := Lib.hid (B5.out.trans (hb6.mono B5.out.size))
  clear hb6
  go_wp2
  go_ret
  exact ⟨rfl, B6.out⟩
theorem geomTy : Try.prog.underlying 24 = some (.struct (Try.prog.fieldsOf 24)) := by kernel_rfl
theorem geomH : Try.prog.stoodInHeld 24 = false := by kernel_rfl
theorem geom_equal (a b c d e f : Int) (w : World) : (Op.equalIn 10000 24 (.agg #[.int .i64 a, .int .i64 b, .int .i64 c, .int .i64 d, .int .i64 e, .int .i64 f]) (.agg #[.int .i64 a, .int .i64 b, .int .i64 c, .int .i64 d, .int .i64 e, .int .i64 f])).run Try.prog w = .ok true w := by
  rw [run_equalIn_agg _ _ _ _ _ geomTy geomH]
  simp [go_sem]
theorem geom_eql (a b c d e f : Int) (w : World) : (binOp .eql 24 (.agg #[.int .i64 a, .int .i64 b, .int .i64 c, .int .i64 d, .int .i64 e, .int .i64 f]) (.agg #[.int .i64 a, .int .i64 b, .int .i64 c, .int .i64 d, .int .i64 e, .int .i64 f])).run Try.prog w = .ok (.bool true) w := by
  rw [run_eql_struct, geom_equal]; rfl
theorem geom_neq (a b c d e f : Int) (w : World) : (binOp .neq 24 (.agg #[.int .i64 a, .int .i64 b, .int .i64 c, .int .i64 d, .int .i64 e, .int .i64 f]) (.agg #[.int .i64 a, .int .i64 b, .int .i64 c, .int .i64 d, .int .i64 e, .int .i64 f])).run Try.prog w = .ok (.bool false) w := by
  rw [run_neq_struct, geom_equal]; rfl
end Go.Proofs.Ytclmocppphojfaa
