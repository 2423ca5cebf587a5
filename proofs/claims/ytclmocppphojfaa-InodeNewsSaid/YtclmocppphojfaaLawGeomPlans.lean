/-
  GeomPlans: the walk.
-/
import Derived.Test.YtclmocppphojfaaGeomAlive
import Derived.Test.YtclmocppphojfaaShell
namespace Go.Proofs.Ytclmocppphojfaa
open Go.RowKit
set_option linter.unusedVariables false
set_option linter.unusedSimpArgs false
set_option maxRecDepth 100000
theorem same_below (A B : Option Addr) (c d : Nat) (xs ys : List ByteArray) (w : World) (hx : xs.length ≤ maxLen) (hy : ys.length ≤ maxLen)
   (ha : RowAt w w.heap.size A (xs.map .string)) (hb : RowAt w w.heap.size B (ys.map .string)) :
    Calls Try.prog 19 #[.slice A xs.length c, .slice B ys.length d] w fun e w' => e = .returned (.bool (eqL xs ys)) ∧ Below w.heap.size w w' :=
  (same_any A B c d xs ys w hx hy ha hb).mono fun e w' ⟨h, k, hk⟩ => ⟨h, hk ▸ below_drewN (Below.refl _ _) k⟩
set_option maxHeartbeats 4000000 in
theorem law_plans (b m : Int) (w : World) : Calls Try.prog 3 #[.int .i64 b, .int .i64 m] w fun e w' => e = .returned (.bool true) ∧ Below w.heap.size w w' := by
  by_cases hp : planE b m = 0
  case neg =>
    obtain ⟨pe, hpe⟩ : ∃ e, planE b m = e := ⟨_, rfl⟩
    have C1 : Hid (∀ w, Calls Try.prog 15 #[.int .i64 b, .int .i64 m] w fun e w' => e = .returned (.tuple #[.agg #[.int .i64 0, .int .i64 0, .int .i64 0, .int .i64 0, .int .i64 0, .int .i64 0], .int .i64 pe]) ∧ Below w.heap.size w w') := fun w => (plan_any b m w).mono fun e w' h => ⟨h.1.trans (by unfold planC; rw [if_neg hp, hpe]; rfl), h.2⟩
    have C2 : Hid (∀ w, Calls Try.prog 16 #[.int .i64 b, .int .i64 m] w fun e w' => e = .returned (.tuple #[.agg #[.int .i64 0, .int .i64 0, .int .i64 0, .int .i64 0, .int .i64 0, .int .i64 0], .int .i64 pe]) ∧ Below w.heap.size w w') := fun w => (rplan_any b m w).mono fun e w' h => ⟨h.1.trans (by unfold planC; rw [if_neg hp, hpe]; rfl), h.2⟩
    have C3 : Hid (∀ w, Calls Try.prog 17 #[.int .i64 b, .int .i64 m] w fun e w' => e = .returned (.tuple #[.slice none 0 0, .int .i64 pe]) ∧ Below w.heap.size w w') := fun w => (format_any b m w).mono fun e w' h => by
      unfold FmtPost at h; rw [if_neg hp, hpe] at h; exact ⟨h.2, h.1⟩
    have C4 : Hid (∀ w, Calls Try.prog 18 #[.int .i64 b, .int .i64 m] w fun e w' => e = .returned (.tuple #[.slice none 0 0, .int .i64 pe]) ∧ Below w.heap.size w w') := fun w => (rformat_any b m w).mono fun e w' h => by
      unfold RFmtPost at h; rw [if_neg hp, hpe] at h; exact ⟨h.2, h.1⟩
    have C5 : Hid (∀ w, Calls Try.prog 19 #[.slice none 0 0, .slice none 0 0] w fun e w' => e = .returned (.bool true) ∧ Below w.heap.size w w') := fun w => same_below none none 0 0 [] [] w (by decide) (by decide) RowAt.nil RowAt.nil
    have C6 : Hid (∀ w, Calls Try.prog 20 #[.slice none 0 0] w fun e w' => e = .returned (.tuple #[.agg #[.int .i64 0, .int .i64 0, .int .i64 0, .int .i64 0, .int .i64 0, .int .i64 0], .int .i64 3]) ∧ Below w.heap.size w w') := fun w => (of_any none 0 [] w (by decide) RowAt.nil).mono fun e w' h => ⟨h.1.trans (by rw [show ofR [] = none from ofR_none.2 fun hv => by have := hv.len; simp at this]; rfl), h.2⟩
    have h1 : (pe != 0) = true := by rw [hpe] at hp; simpa using hp
    have h1' : ¬ pe = 0 := by rw [hpe] at hp; exact hp
    have n1 := fun w => geom_neq 0 0 0 0 0 0 w
    clear hp hpe
    go_enter Try.func3, Try.ntmps3
    go_wp2_with fail
    refine (alive_any _).mono ?_
    rintro e w0 ⟨rfl, hb0⟩
    have B0 := Lib.hid hb0
    have hz0 := hb0.size
    clear hb0
    go_wp2_with fail
    refine (C1.out _).mono ?_
    rintro e w1 ⟨rfl, hb1⟩
    have B1 := Lib.hid (B0.out.trans (hb1.mono B0.out.size))
    have hz1 := B1.out.size
    clear hb1
    go_wp2_with fail
    refine (C2.out _).mono ?_
    rintro e w2 ⟨rfl, hb2⟩
    have G1 := Lib.hid ((Blk.new w1 24 #[.int .i64 0, .int .i64 0, .int .i64 0, .int .i64 0, .int .i64 0, .int .i64 0]).below hb2 (by simp))
    have B2 := Lib.hid ((B1.out.alloc hz1 _).trans (hb2.mono (by simp; omega)))
    have hz2 := B2.out.size
    clear hb2
    go_wp2_with fail
    refine (C3.out _).mono ?_
    rintro e w3 ⟨rfl, hb3⟩
    have G1 := Lib.hid ((G1.out.alloc _).below hb3 (G1.out.alloc _).lt)
    have G2 := Lib.hid ((Blk.new w2 24 #[.int .i64 0, .int .i64 0, .int .i64 0, .int .i64 0, .int .i64 0, .int .i64 0]).below hb3 (by simp))
    have B3 := Lib.hid ((B2.out.alloc hz2 _).trans (hb3.mono (by simp; omega)))
    clear hb3
    go_wp2_with fail
    refine (C4.out _).mono ?_
    rintro e w4 ⟨rfl, hb4⟩
    have G1 := Lib.hid (G1.out.below hb4 G1.out.lt)
    have G2 := Lib.hid (G2.out.below hb4 G2.out.lt)
    have B4 := Lib.hid (B3.out.trans (hb4.mono B3.out.size))
    clear hb4
    have p0 : w4.cell? ⟨w1.heap.size, 0, none⟩ = some (.int .i64 0) := G1.out.cell 0 rfl
    have p1 : w4.cell? ⟨w1.heap.size, 1, none⟩ = some (.int .i64 0) := G1.out.cell 1 rfl
    have p2 : w4.cell? ⟨w1.heap.size, 2, none⟩ = some (.int .i64 0) := G1.out.cell 2 rfl
    have p3 : w4.cell? ⟨w1.heap.size, 3, none⟩ = some (.int .i64 0) := G1.out.cell 3 rfl
    have p4 : w4.cell? ⟨w1.heap.size, 4, none⟩ = some (.int .i64 0) := G1.out.cell 4 rfl
    have p5 : w4.cell? ⟨w1.heap.size, 5, none⟩ = some (.int .i64 0) := G1.out.cell 5 rfl
    have q0 : w4.cell? ⟨w2.heap.size, 0, none⟩ = some (.int .i64 0) := G2.out.cell 0 rfl
    have q1 : w4.cell? ⟨w2.heap.size, 1, none⟩ = some (.int .i64 0) := G2.out.cell 1 rfl
    have q2 : w4.cell? ⟨w2.heap.size, 2, none⟩ = some (.int .i64 0) := G2.out.cell 2 rfl
    have q3 : w4.cell? ⟨w2.heap.size, 3, none⟩ = some (.int .i64 0) := G2.out.cell 3 rfl
    have q4 : w4.cell? ⟨w2.heap.size, 4, none⟩ = some (.int .i64 0) := G2.out.cell 4 rfl
    have q5 : w4.cell? ⟨w2.heap.size, 5, none⟩ = some (.int .i64 0) := G2.out.cell 5 rfl
    go_wp2_with fail
    refine (C5.out _).mono ?_
    rintro e w5 ⟨rfl, hb5⟩
    have G1 := Lib.hid (G1.out.below hb5 G1.out.lt)
    have B5 := Lib.hid (B4.out.trans (hb5.mono B4.out.size))
    clear hb5 p0 q0 p1 q1 p2 q2 p3 q3 p4 q4 p5 q5
    go_wp2_with fail
    refine (C6.out _).mono ?_
    rintro e w6 ⟨rfl, hb6⟩
    have B6 := Lib.hid (B5.out.trans (hb6.mono B5.out.size))
    clear hb6
    go_upto_region 10 with fail
    generalize hw7 : w6.alloc _ = w7
    have B7 : Hid (Below w.heap.size w w7) := hw7 ▸ B6.out.alloc B6.out.size _
    clear hw7
    refine wp_region_ext (by kernel_rfl) (by kernel_rfl) ?_
    repeat (go_big_quiet_step (fail))
    refine wpQuiet_nil ?_
    rintro _ ⟨u, rfl⟩
    have B8 := Lib.hid (B7.out.trans (u.below.mono B7.out.size))
    generalize u.val = w8 at B8
    go_wp2
    go_ret
    exact ⟨rfl, B8.out⟩
  case pos =>
    obtain ⟨b, rfl⟩ := Int.eq_ofNat_of_zero_le (show 0 ≤ b by have := planE_ok hp; omega)
    obtain ⟨m, rfl⟩ := Int.eq_ofNat_of_zero_le (show 0 ≤ m by have := planE_ok hp; omega)
    have hpl := planE_iff.1 hp
    obtain ⟨d, hd⟩ : ∃ d : Nat, dataN m = d := ⟨_, rfl⟩
    have hdi : (3 : Int) + ((m : Int) + 1) / 2 = (d : Int) := by unfold dataN at hd; omega
    have C1 : Hid (∀ w, Calls Try.prog 15 #[.int .i64 b, .int .i64 m] w fun e w' => e = .returned (.tuple #[.agg #[.int .i64 b, .int .i64 m, .int .i64 1, .int .i64 2, .int .i64 3, .int .i64 d], .int .i64 0]) ∧ Below w.heap.size w w') := fun w => (plan_any b m w).mono fun e w' h => ⟨h.1.trans (by unfold planC geomC; rw [if_pos hp, hp, hdi]), h.2⟩
    have C2 : Hid (∀ w, Calls Try.prog 16 #[.int .i64 b, .int .i64 m] w fun e w' => e = .returned (.tuple #[.agg #[.int .i64 b, .int .i64 m, .int .i64 1, .int .i64 2, .int .i64 3, .int .i64 d], .int .i64 0]) ∧ Below w.heap.size w w') := fun w => (rplan_any b m w).mono fun e w' h => ⟨h.1.trans (by unfold planC geomC; rw [if_pos hp, hp, hdi]), h.2⟩
    have C3 : Hid (∀ w, Calls Try.prog 17 #[.int .i64 b, .int .i64 m] w fun e w' => (∃ A c, e = .returned (.tuple #[.slice A b c, .int .i64 0]) ∧ RowAt w' w'.heap.size A ((fmtV b m).map .string)) ∧ Below w.heap.size w w') := fun w => (format_any b m w).mono fun e w' h => by
      unfold FmtPost at h
      rw [if_pos hp, Int.toNat_natCast, Int.toNat_natCast] at h
      obtain ⟨hb, v, he, g, hv, hg, hn⟩ := h
      rw [fmtV_length] at hv
      exact ⟨⟨_, _, by rw [he, hv], hn.row⟩, hb⟩
    have C4 : Hid (∀ w, Calls Try.prog 18 #[.int .i64 b, .int .i64 m] w fun e w' => (∃ A c, e = .returned (.tuple #[.slice A b c, .int .i64 0]) ∧ RowAt w' w'.heap.size A ((fmtV b m).map .string)) ∧ Below w.heap.size w w') := fun w => (rformat_any b m w).mono fun e w' h => by
      unfold RFmtPost at h
      rw [if_pos hp, Int.toNat_natCast, Int.toNat_natCast] at h
      obtain ⟨hb, v, he, hn⟩ := h
      obtain ⟨A, c, hv, hr⟩ := hn.read
      rw [fmtV_length] at hv
      exact ⟨⟨_, _, by rw [he, hv], hr⟩, hb⟩
    have hlm : (fmtV b m).length ≤ maxLen := by rw [fmtV_length]; unfold maxLen; omega
    have C5 : Hid (∀ A c B d w, RowAt w w.heap.size A ((fmtV b m).map .string) → RowAt w w.heap.size B ((fmtV b m).map .string) → Calls Try.prog 19 #[.slice A b c, .slice B b d] w fun e w' => e = .returned (.bool true) ∧ Below w.heap.size w w') := fun A c B d w h1 h2 => by
      have := same_below A B c d _ _ w hlm hlm h1 h2
      rw [fmtV_length] at this
      exact this.mono fun e w' h => ⟨h.1.trans (by unfold eqL; simp), h.2⟩
    have C6 : Hid (∀ A c w, RowAt w w.heap.size A ((fmtV b m).map .string) → Calls Try.prog 20 #[.slice A b c] w fun e w' => e = .returned (.tuple #[.agg #[.int .i64 b, .int .i64 m, .int .i64 1, .int .i64 2, .int .i64 3, .int .i64 d], .int .i64 0]) ∧ Below w.heap.size w w') := fun A c w h1 => by
      have := of_any A c (fmtV b m) w (by rw [fmtV_length]; omega) h1
      rw [fmtV_length] at this
      exact this.mono fun e w' h => ⟨h.1.trans (by rw [fmt_of hp]; unfold ofE; dsimp only; rw [fmtV_length, hd]), h.2⟩
    have C7 : Hid (∀ A c w, RowAt w w.heap.size A ((fmtV b m).map .string) → Calls Try.prog 21 #[.slice A b c] w fun e w' => e = .returned (.int .i64 ((b : Int) - (d : Int))) ∧ Below w.heap.size w w') := fun A c w h1 => by
      have := room_any A c (fmtV b m) w (by rw [fmtV_length]; omega) h1
      rw [fmtV_length] at this
      exact this.mono fun e w' h => ⟨h.1.trans (ret_int (by rw [fmtV_room hp, hd]; omega)), h.2⟩
    have n1 := fun w => geom_neq b m 1 2 3 d w
    have n2 := fun w => geom_eql b m 1 2 3 d w
    have wr : IntKind.i64.wrap ((b : Int) - (d : Int)) = (b : Int) - (d : Int) := IntWalk.i64_in _ (by omega)
    clear hp hpl hd hdi hlm
    generalize (fmtV b m).map Value.string = vs at *
    go_enter Try.func3, Try.ntmps3
    go_wp2_with fail
    refine (alive_any _).mono ?_
    rintro e w0 ⟨rfl, hb0⟩
    have B0 := Lib.hid hb0
    have hz0 := hb0.size
    clear hb0
    go_wp2_with fail
    refine (C1.out _).mono ?_
    rintro e w1 ⟨rfl, hb1⟩
    have B1 := Lib.hid (B0.out.trans (hb1.mono B0.out.size))
    have hz1 := B1.out.size
    clear hb1
    go_wp2_with fail
    refine (C2.out _).mono ?_
    rintro e w2 ⟨rfl, hb2⟩
    have G1 := Lib.hid ((Blk.new w1 24 #[.int .i64 b, .int .i64 m, .int .i64 1, .int .i64 2, .int .i64 3, .int .i64 d]).below hb2 (by simp))
    have B2 := Lib.hid ((B1.out.alloc hz1 _).trans (hb2.mono (by simp; omega)))
    have hz2 := B2.out.size
    clear hb2
    go_wp2_with fail
    refine (C3.out _).mono ?_
    rintro e w3 ⟨⟨A1, c1, rfl, hr1⟩, hb3⟩
    have R1 := Lib.hid hr1
    have G1 := Lib.hid ((G1.out.alloc _).below hb3 (G1.out.alloc _).lt)
    have G2 := Lib.hid ((Blk.new w2 24 #[.int .i64 b, .int .i64 m, .int .i64 1, .int .i64 2, .int .i64 3, .int .i64 d]).below hb3 (by simp))
    have B3 := Lib.hid ((B2.out.alloc hz2 _).trans (hb3.mono (by simp; omega)))
    clear hb3 hr1
    go_wp2_with fail
    refine (C4.out _).mono ?_
    rintro e w4 ⟨⟨A2, c2, rfl, hr2⟩, hb4⟩
    have R2 := Lib.hid hr2
    have R1 := Lib.hid ((R1.out.below hb4).mono hb4.size)
    have G1 := Lib.hid (G1.out.below hb4 G1.out.lt)
    have G2 := Lib.hid (G2.out.below hb4 G2.out.lt)
    have B4 := Lib.hid (B3.out.trans (hb4.mono B3.out.size))
    clear hb4 hr2
    have p0 : w4.cell? ⟨w1.heap.size, 0, none⟩ = some (.int .i64 b) := G1.out.cell 0 rfl
    have p1 : w4.cell? ⟨w1.heap.size, 1, none⟩ = some (.int .i64 m) := G1.out.cell 1 rfl
    have p2 : w4.cell? ⟨w1.heap.size, 2, none⟩ = some (.int .i64 1) := G1.out.cell 2 rfl
    have p3 : w4.cell? ⟨w1.heap.size, 3, none⟩ = some (.int .i64 2) := G1.out.cell 3 rfl
    have p4 : w4.cell? ⟨w1.heap.size, 4, none⟩ = some (.int .i64 3) := G1.out.cell 4 rfl
    have p5 : w4.cell? ⟨w1.heap.size, 5, none⟩ = some (.int .i64 d) := G1.out.cell 5 rfl
    have q0 : w4.cell? ⟨w2.heap.size, 0, none⟩ = some (.int .i64 b) := G2.out.cell 0 rfl
    have q1 : w4.cell? ⟨w2.heap.size, 1, none⟩ = some (.int .i64 m) := G2.out.cell 1 rfl
    have q2 : w4.cell? ⟨w2.heap.size, 2, none⟩ = some (.int .i64 1) := G2.out.cell 2 rfl
    have q3 : w4.cell? ⟨w2.heap.size, 3, none⟩ = some (.int .i64 2) := G2.out.cell 3 rfl
    have q4 : w4.cell? ⟨w2.heap.size, 4, none⟩ = some (.int .i64 3) := G2.out.cell 4 rfl
    have q5 : w4.cell? ⟨w2.heap.size, 5, none⟩ = some (.int .i64 d) := G2.out.cell 5 rfl
    go_wp2_with fail
    refine (C5.out _ _ _ _ _ R1.out R2.out).mono ?_
    rintro e w5 ⟨rfl, hb5⟩
    have G1 := Lib.hid (G1.out.below hb5 G1.out.lt)
    have R1 := Lib.hid ((R1.out.below hb5).mono hb5.size)
    have B5 := Lib.hid (B4.out.trans (hb5.mono B4.out.size))
    clear hb5 p0 q0 p1 q1 p2 q2 p3 q3 p4 q4 p5 q5
    go_wp2_with fail
    refine (C6.out _ _ _ R1.out).mono ?_
    rintro e w6 ⟨rfl, hb6⟩
    have G1 := Lib.hid (G1.out.below hb6 G1.out.lt)
    have R1 := Lib.hid ((R1.out.below hb6).mono hb6.size)
    have B6 := Lib.hid (B5.out.trans (hb6.mono B5.out.size))
    clear hb6
    go_upto_region 10 with fail
    have G3 := Lib.hid (Blk.new w6 24 #[.int .i64 b, .int .i64 m, .int .i64 1, .int .i64 2, .int .i64 3, .int .i64 d])
    generalize hw7 : w6.alloc _ = w7 at *
    have B7 : Hid (Below w.heap.size w w7) := hw7 ▸ B6.out.alloc B6.out.size _
    have G1 : Hid (Blk w7 w1.heap.size 24 #[.int .i64 b, .int .i64 m, .int .i64 1, .int .i64 2, .int .i64 3, .int .i64 d]) := hw7 ▸ G1.out.alloc _
    have R1 : Hid (RowAt w7 w7.heap.size A1 vs) := by
      have hb7 : Below w6.heap.size w6 w7 := hw7 ▸ (Below.refl w6.heap.size w6).alloc (Nat.le_refl _) _
      exact (R1.out.below hb7).mono hb7.size
    clear hw7
    have C8 : Hid (∀ u : Ext w7, Calls Try.prog 21 #[.slice A1 b c1] u.val fun e w' => e = .returned (.int .i64 ((b : Int) - (d : Int))) ∧ Below u.val.heap.size u.val w') := fun u => C7.out A1 c1 u.val ((R1.out.below u.below).mono u.below.size)
    have x0 : ∀ u : Ext w7, u.val.cell? ⟨w1.heap.size, 0, none⟩ = some (.int .i64 b) := fun u => u.cell (G1.out.cell 0 rfl)
    have y0 : ∀ u : Ext w7, u.val.cell? ⟨w6.heap.size, 0, none⟩ = some (.int .i64 b) := fun u => u.cell (G3.out.cell 0 rfl)
    have x1 : ∀ u : Ext w7, u.val.cell? ⟨w1.heap.size, 1, none⟩ = some (.int .i64 m) := fun u => u.cell (G1.out.cell 1 rfl)
    have y1 : ∀ u : Ext w7, u.val.cell? ⟨w6.heap.size, 1, none⟩ = some (.int .i64 m) := fun u => u.cell (G3.out.cell 1 rfl)
    have x2 : ∀ u : Ext w7, u.val.cell? ⟨w1.heap.size, 2, none⟩ = some (.int .i64 1) := fun u => u.cell (G1.out.cell 2 rfl)
    have y2 : ∀ u : Ext w7, u.val.cell? ⟨w6.heap.size, 2, none⟩ = some (.int .i64 1) := fun u => u.cell (G3.out.cell 2 rfl)
    have x3 : ∀ u : Ext w7, u.val.cell? ⟨w1.heap.size, 3, none⟩ = some (.int .i64 2) := fun u => u.cell (G1.out.cell 3 rfl)
    have y3 : ∀ u : Ext w7, u.val.cell? ⟨w6.heap.size, 3, none⟩ = some (.int .i64 2) := fun u => u.cell (G3.out.cell 3 rfl)
    have x4 : ∀ u : Ext w7, u.val.cell? ⟨w1.heap.size, 4, none⟩ = some (.int .i64 3) := fun u => u.cell (G1.out.cell 4 rfl)
    have y4 : ∀ u : Ext w7, u.val.cell? ⟨w6.heap.size, 4, none⟩ = some (.int .i64 3) := fun u => u.cell (G3.out.cell 4 rfl)
    have x5 : ∀ u : Ext w7, u.val.cell? ⟨w1.heap.size, 5, none⟩ = some (.int .i64 d) := fun u => u.cell (G1.out.cell 5 rfl)
    have y5 : ∀ u : Ext w7, u.val.cell? ⟨w6.heap.size, 5, none⟩ = some (.int .i64 d) := fun u => u.cell (G3.out.cell 5 rfl)
    refine wp_region_ext (by kernel_rfl) (by kernel_rfl) ?_
    repeat (go_big_quiet_step (first
      | (go_at_call 21; with_reducible exact Ext.call (C8.out _))))
    refine wpQuiet_nil ?_
    rintro _ ⟨u, rfl⟩
    have B8 := Lib.hid (B7.out.trans (u.below.mono B7.out.size))
    clear x0 y0 x1 y1 x2 y2 x3 y3 x4 y4 x5 y5
    generalize u.val = w8 at B8
    go_wp2
    go_ret
    exact ⟨rfl, B8.out⟩
end Go.Proofs.Ytclmocppphojfaa
