/-
  The walk of the law IsaFields.
-/
import Derived.Test.YtnaknooefjiahaaDoorIsaAlive
import Derived.Test.YtnaknooefjiahaaDoorIsaFieldsPlain
import Derived.Deep.RegionHeld3
import Derived.Deep.DeepCutAuto
namespace Go.Proofs.YtnaknooefjiahaaDoor
open Go.RowKit
set_option linter.unusedVariables false
set_option linter.unusedSimpArgs false
set_option maxRecDepth 100000
set_option maxHeartbeats 8000000 in
theorem law_fields (op a b c : Nat) (imm : Int) (ya yb yc : Nat) (yi : Int) (w : World) (hl : Laid w) (ho : op < 256) (hi1 : -2147483648 ≤ imm) (hi2 : imm < 2147483648) (h1 : ya < 256) (h2 : yb < 256) (h3 : yc < 256) (h4 : -2147483648 ≤ yi) (h5 : yi < 2147483648) :
    Calls Tryd.prog 7 #[.agg #[.int .u8 op, .int .u8 a, .int .u8 b, .int .u8 c, .int .i32 imm], .int .u8 ya, .int .u8 yb, .int .u8 yc, .int .i32 yi] w fun e w' => e = .returned (.bool true) ∧ Below w.heap.size w w' := by
  have L := Lib.hid hl
  have HO := Lib.hid ho
  cases hr : encR ⟨op, a, b, c, imm⟩ with | mk v en
  have HR := Lib.hid hr
  clear hl ho hr hi1 hi2
  go_enter Tryd.func7, Tryd.ntmps7
  go_wp2_with fail
  refine (alive_any _ (L.out.later ((Below.refl _ _).alloc (Nat.le_refl _) _))).mono ?_
  rintro e w1 ⟨rfl, hb1⟩
  have G : Hid (Blk w1 w.heap.size 23 #[.int .u8 op, .int .u8 a, .int .u8 b, .int .u8 c, .int .i32 imm]) := (Blk.new w _ _).below hb1 (by simp)
  have B : Hid (Below w.heap.size w w1) := ((Below.refl _ _).alloc (Nat.le_refl _) _).trans (hb1.mono (by simp))
  clear hb1
  have q0 : w1.cell? ⟨w.heap.size, 0, none⟩ = some (.int .u8 op) := G.out.cell 0 rfl
  have q1 : w1.cell? ⟨w.heap.size, 1, none⟩ = some (.int .u8 a) := G.out.cell 1 rfl
  have q2 : w1.cell? ⟨w.heap.size, 2, none⟩ = some (.int .u8 b) := G.out.cell 2 rfl
  have q3 : w1.cell? ⟨w.heap.size, 3, none⟩ = some (.int .u8 c) := G.out.cell 3 rfl
  have q4 : w1.cell? ⟨w.heap.size, 4, none⟩ = some (.int .i32 imm) := G.out.cell 4 rfl
  go_wp2_with fail
  refine (enc_any ⟨op, a, b, c, imm⟩ _ HO.out).mono ?_
  rintro e w2 ⟨rfl, hb2⟩
  rw [HR.out]; unfold encE
  have G := Lib.hid (G.out.below hb2 G.out.lt)
  have B := Lib.hid (B.out.trans (hb2.mono B.out.size))
  clear hb2 q0 q1 q2 q3 q4
  by_cases h0 : en = 0
  case neg =>
    have h1 : (en != 0) = true := by simpa using h0
    clear h0
    go_wp2
    go_ret
    exact ⟨rfl, B.out⟩
  subst h0
  have HA := Lib.hid (fields_a (x := ⟨op, a, b, c, imm⟩) (by rw [HR.out]) ya)
  have HB := Lib.hid (fields_b (x := ⟨op, a, b, c, imm⟩) (by rw [HR.out]) yb)
  have HC := Lib.hid (fields_c (x := ⟨op, a, b, c, imm⟩) (by rw [HR.out]) yc)
  have HI := Lib.hid (fields_i (x := ⟨op, a, b, c, imm⟩) (by rw [HR.out]) yi)
  rw [HR.out] at HA HB HC HI
  obtain ⟨r0, e0, hr0⟩ : ∃ r e, encR ⟨op, ya, b, c, imm⟩ = (r, e) := ⟨_, _, rfl⟩
  have HR0 := Lib.hid hr0
  rw [HR0.out] at HA
  clear hr0
  obtain ⟨r1, e1, hr1⟩ : ∃ r e, encR ⟨op, a, yb, c, imm⟩ = (r, e) := ⟨_, _, rfl⟩
  have HR1 := Lib.hid hr1
  rw [HR1.out] at HB
  clear hr1
  obtain ⟨r2, e2, hr2⟩ : ∃ r e, encR ⟨op, a, b, yc, imm⟩ = (r, e) := ⟨_, _, rfl⟩
  have HR2 := Lib.hid hr2
  rw [HR2.out] at HC
  clear hr2
  obtain ⟨r3, e3, hr3⟩ : ∃ r e, encR ⟨op, a, b, c, yi⟩ = (r, e) := ⟨_, _, rfl⟩
  have HR3 := Lib.hid hr3
  rw [HR3.out] at HI
  clear hr3
  have q0 : w2.cell? ⟨w.heap.size, 0, none⟩ = some (.int .u8 op) := G.out.cell 0 rfl
  have q1 : w2.cell? ⟨w.heap.size, 1, none⟩ = some (.int .u8 a) := G.out.cell 1 rfl
  have q2 : w2.cell? ⟨w.heap.size, 2, none⟩ = some (.int .u8 b) := G.out.cell 2 rfl
  have q3 : w2.cell? ⟨w.heap.size, 3, none⟩ = some (.int .u8 c) := G.out.cell 3 rfl
  have q4 : w2.cell? ⟨w.heap.size, 4, none⟩ = some (.int .i32 imm) := G.out.cell 4 rfl
  have hz := B.out.size
  have hg := G.out.lt
  have KS : Hid (∀ w', Below w2.heap.size w2 w' → (w'.cell? ⟨w.heap.size, 0, none⟩ = some (.int .u8 op) ∧ w'.cell? ⟨w.heap.size, 1, none⟩ = some (.int .u8 a) ∧ w'.cell? ⟨w.heap.size, 2, none⟩ = some (.int .u8 b) ∧ w'.cell? ⟨w.heap.size, 3, none⟩ = some (.int .u8 c) ∧ w'.cell? ⟨w.heap.size, 4, none⟩ = some (.int .i32 imm))) := fun w' hb => by
    have G' := G.out.below hb G.out.lt
    exact ⟨G'.cell 0 rfl, G'.cell 1 rfl, G'.cell 2 rfl, G'.cell 3 rfl, G'.cell 4 rfl⟩
  have X1 : Hid (Blk (((((w2.alloc (.cells #[.int .u8 op, .int .u8 a, .int .u8 b, .int .u8 c, .int .i32 imm] 23)).alloc (.cells #[.int .u8 op, .int .u8 a, .int .u8 b, .int .u8 c, .int .i32 imm] 23)).alloc (.cells #[.int .u8 op, .int .u8 a, .int .u8 b, .int .u8 c, .int .i32 imm] 23)).alloc (.cells #[.int .u8 op, .int .u8 a, .int .u8 b, .int .u8 c, .int .i32 imm] 23)).drew) w2.heap.size 23 #[.int .u8 op, .int .u8 a, .int .u8 b, .int .u8 c, .int .i32 imm]) := ((((Blk.new w2 _ _).alloc _).alloc _).alloc _).drew
  have X2 : Hid (Blk (((((w2.alloc (.cells #[.int .u8 op, .int .u8 a, .int .u8 b, .int .u8 c, .int .i32 imm] 23)).alloc (.cells #[.int .u8 op, .int .u8 a, .int .u8 b, .int .u8 c, .int .i32 imm] 23)).alloc (.cells #[.int .u8 op, .int .u8 a, .int .u8 b, .int .u8 c, .int .i32 imm] 23)).alloc (.cells #[.int .u8 op, .int .u8 a, .int .u8 b, .int .u8 c, .int .i32 imm] 23)).drew) (w2.heap.size + 1) 23 #[.int .u8 op, .int .u8 a, .int .u8 b, .int .u8 c, .int .i32 imm]) := by
    have := (((Blk.new (w2.alloc (.cells #[.int .u8 op, .int .u8 a, .int .u8 b, .int .u8 c, .int .i32 imm] 23)) 23 #[.int .u8 op, .int .u8 a, .int .u8 b, .int .u8 c, .int .i32 imm]).alloc (.cells #[.int .u8 op, .int .u8 a, .int .u8 b, .int .u8 c, .int .i32 imm] 23)).alloc (.cells #[.int .u8 op, .int .u8 a, .int .u8 b, .int .u8 c, .int .i32 imm] 23)).drew
    show Blk _ _ _ _
    simpa using this
  have X3 : Hid (Blk (((((w2.alloc (.cells #[.int .u8 op, .int .u8 a, .int .u8 b, .int .u8 c, .int .i32 imm] 23)).alloc (.cells #[.int .u8 op, .int .u8 a, .int .u8 b, .int .u8 c, .int .i32 imm] 23)).alloc (.cells #[.int .u8 op, .int .u8 a, .int .u8 b, .int .u8 c, .int .i32 imm] 23)).alloc (.cells #[.int .u8 op, .int .u8 a, .int .u8 b, .int .u8 c, .int .i32 imm] 23)).drew) (w2.heap.size + 1 + 1) 23 #[.int .u8 op, .int .u8 a, .int .u8 b, .int .u8 c, .int .i32 imm]) := by
    have := ((Blk.new ((w2.alloc (.cells #[.int .u8 op, .int .u8 a, .int .u8 b, .int .u8 c, .int .i32 imm] 23)).alloc (.cells #[.int .u8 op, .int .u8 a, .int .u8 b, .int .u8 c, .int .i32 imm] 23)) 23 #[.int .u8 op, .int .u8 a, .int .u8 b, .int .u8 c, .int .i32 imm]).alloc (.cells #[.int .u8 op, .int .u8 a, .int .u8 b, .int .u8 c, .int .i32 imm] 23)).drew
    show Blk _ _ _ _
    simpa using this
  have X4 : Hid (Blk (((((w2.alloc (.cells #[.int .u8 op, .int .u8 a, .int .u8 b, .int .u8 c, .int .i32 imm] 23)).alloc (.cells #[.int .u8 op, .int .u8 a, .int .u8 b, .int .u8 c, .int .i32 imm] 23)).alloc (.cells #[.int .u8 op, .int .u8 a, .int .u8 b, .int .u8 c, .int .i32 imm] 23)).alloc (.cells #[.int .u8 op, .int .u8 a, .int .u8 b, .int .u8 c, .int .i32 imm] 23)).drew) (w2.heap.size + 1 + 1 + 1) 23 #[.int .u8 op, .int .u8 a, .int .u8 b, .int .u8 c, .int .i32 imm]) := by
    have := (Blk.new (((w2.alloc (.cells #[.int .u8 op, .int .u8 a, .int .u8 b, .int .u8 c, .int .i32 imm] 23)).alloc (.cells #[.int .u8 op, .int .u8 a, .int .u8 b, .int .u8 c, .int .i32 imm] 23)).alloc (.cells #[.int .u8 op, .int .u8 a, .int .u8 b, .int .u8 c, .int .i32 imm] 23)) 23 #[.int .u8 op, .int .u8 a, .int .u8 b, .int .u8 c, .int .i32 imm]).drew
    show Blk _ _ _ _
    simpa using this
  have XB : Hid (Below w2.heap.size w2 (((((w2.alloc (.cells #[.int .u8 op, .int .u8 a, .int .u8 b, .int .u8 c, .int .i32 imm] 23)).alloc (.cells #[.int .u8 op, .int .u8 a, .int .u8 b, .int .u8 c, .int .i32 imm] 23)).alloc (.cells #[.int .u8 op, .int .u8 a, .int .u8 b, .int .u8 c, .int .i32 imm] 23)).alloc (.cells #[.int .u8 op, .int .u8 a, .int .u8 b, .int .u8 c, .int .i32 imm] 23)).drew)) := (((((Below.refl _ _).alloc (Nat.le_refl _) _).alloc (by simp) _).alloc (by simp; omega) _).alloc (by simp; omega) _).drew
  have n0 := World.new_ne w2 ⟨w.heap.size, 0, none⟩ q0
  go_upto_region 6 with fail
  go_cut [13, 14, 15, 16] (fun s13 s14 s15 s16 wx => ∃ g1 g2 g3 g4 : Nat, s13 = .pointer (some ⟨g1, 0, none⟩) ∧ s14 = .pointer (some ⟨g2, 0, none⟩) ∧ s15 = .pointer (some ⟨g3, 0, none⟩) ∧ s16 = .pointer (some ⟨g4, 0, none⟩) ∧
    Hid (g1 ≠ g2 ∧ g1 ≠ g3 ∧ g1 ≠ g4 ∧ g2 ≠ g3 ∧ g2 ≠ g4 ∧ g3 ≠ g4 ∧ w2.heap.size ≤ g1 ∧ w2.heap.size ≤ g2 ∧ w2.heap.size ≤ g3 ∧ w2.heap.size ≤ g4) ∧
    Hid (Blk wx g1 23 #[.int .u8 op, .int .u8 a, .int .u8 b, .int .u8 c, .int .i32 imm]) ∧ Hid (Blk wx g2 23 #[.int .u8 op, .int .u8 a, .int .u8 b, .int .u8 c, .int .i32 imm]) ∧
    Hid (Blk wx g3 23 #[.int .u8 op, .int .u8 a, .int .u8 b, .int .u8 c, .int .i32 imm]) ∧ Hid (Blk wx g4 23 #[.int .u8 op, .int .u8 a, .int .u8 b, .int .u8 c, .int .i32 imm]) ∧ Hid (Below w2.heap.size w2 wx))
  case first =>
    go_region_held3 (fun w' => w'.cell? ⟨w.heap.size, 0, none⟩ = some (.int .u8 op) ∧ w'.cell? ⟨w.heap.size, 1, none⟩ = some (.int .u8 a) ∧ w'.cell? ⟨w.heap.size, 2, none⟩ = some (.int .u8 b) ∧ w'.cell? ⟨w.heap.size, 3, none⟩ = some (.int .u8 c) ∧ w'.cell? ⟨w.heap.size, 4, none⟩ = some (.int .i32 imm)) (first | (refine KS.out _ ?_; repeat (first | exact Below.refl _ _ | refine Below.drew ?_ | refine Below.setCell ?_ (by first | omega | (simp; done) | (simp; omega)) _ | refine Below.alloc ?_ (by first | exact Nat.le_refl _ | (simp; done) | (simp; omega)) _)) | go_keep) (fail)
    all_goals (go_wp2_with fail; go_meet; exact ⟨_, _, _, _, rfl, rfl, rfl, rfl, Lib.hid (by omega), (by first | exact X1 | exact X2 | exact X3 | exact X4), (by first | exact X1 | exact X2 | exact X3 | exact X4), (by first | exact X1 | exact X2 | exact X3 | exact X4), (by first | exact X1 | exact X2 | exact X3 | exact X4), XB⟩)
  case rest =>
    clear X1 X2 X3 X4 XB KS n0
    obtain ⟨g1, g2, g3, g4, rfl, rfl, rfl, rfl, HD, X1, X2, X3, X4, HW⟩ := hcut
    have c1 : wc.cell? ⟨g1, 1, none⟩ = some (.int .u8 a) := X1.out.cell 1 rfl
    have c2 : wc.cell? ⟨g2, 2, none⟩ = some (.int .u8 b) := X2.out.cell 2 rfl
    have c3 : wc.cell? ⟨g3, 3, none⟩ = some (.int .u8 c) := X3.out.cell 3 rfl
    have c4 : wc.cell? ⟨g4, 4, none⟩ = some (.int .i32 imm) := X4.out.cell 4 rfl
    have f1 := X1.out.frozen 1
    have f2 := X2.out.frozen 2
    have f3 := X3.out.frozen 3
    have f4 := X4.out.frozen 4
    have B := Lib.hid (B.out.trans (HW.out.mono B.out.size))
    clear q0 q1 q2 q3 q4 hz hg HW
    go_upto_region 8 with fail
    obtain ⟨d12, d13, d14, d23, d24, d34, l1, l2, l3, l4⟩ := HD.out
    obtain ⟨w5, hw5⟩ : ∃ w5, ((((wc.setCell ⟨g1, 1, none⟩ (.int .u8 ya)).setCell ⟨g2, 2, none⟩ (.int .u8 yb)).setCell ⟨g3, 3, none⟩ (.int .u8 yc)).setCell ⟨g4, 4, none⟩ (.int .i32 yi)) = w5 := ⟨_, rfl⟩
    have Y1 : Hid (Blk w5 g1 23 #[.int .u8 op, .int .u8 ya, .int .u8 b, .int .u8 c, .int .i32 imm]) := hw5 ▸ ((((X1.out.set_ 1 (.int .u8 ya)).far (p := ⟨g2, 2, none⟩) d12 _).far (p := ⟨g3, 3, none⟩) d13 _).far (p := ⟨g4, 4, none⟩) d14 _)
    have Y2 : Hid (Blk w5 g2 23 #[.int .u8 op, .int .u8 a, .int .u8 yb, .int .u8 c, .int .i32 imm]) := hw5 ▸ ((((X2.out.far (p := ⟨g1, 1, none⟩) d12.symm _).set_ 2 (.int .u8 yb)).far (p := ⟨g3, 3, none⟩) d23 _).far (p := ⟨g4, 4, none⟩) d24 _)
    have Y3 : Hid (Blk w5 g3 23 #[.int .u8 op, .int .u8 a, .int .u8 b, .int .u8 yc, .int .i32 imm]) := hw5 ▸ ((((X3.out.far (p := ⟨g1, 1, none⟩) d13.symm _).far (p := ⟨g2, 2, none⟩) d23.symm _).set_ 3 (.int .u8 yc)).far (p := ⟨g4, 4, none⟩) d34 _)
    have Y4 : Hid (Blk w5 g4 23 #[.int .u8 op, .int .u8 a, .int .u8 b, .int .u8 c, .int .i32 yi]) := hw5 ▸ ((((X4.out.far (p := ⟨g1, 1, none⟩) d14.symm _).far (p := ⟨g2, 2, none⟩) d24.symm _).far (p := ⟨g3, 3, none⟩) d34.symm _).set_ 4 (.int .i32 yi))
    have hz2 := (show w.heap.size ≤ w2.heap.size by have := G.out.lt; omega)
    have B : Hid (Below w.heap.size w w5) := hw5 ▸ ((((B.out.setCell (p := ⟨g1, 1, none⟩) (Nat.le_trans hz2 l1) _).setCell (p := ⟨g2, 2, none⟩) (Nat.le_trans hz2 l2) _).setCell (p := ⟨g3, 3, none⟩) (Nat.le_trans hz2 l3) _).setCell (p := ⟨g4, 4, none⟩) (Nat.le_trans hz2 l4) _)
    rw [hw5]
    clear hw5 c1 c2 c3 c4 f1 f2 f3 f4 X1 X2 X3 X4 HD d12 d13 d14 d23 d24 d34 l1 l2 l3 l4 hz2
    have q0 : w5.cell? ⟨g1, 0, none⟩ = some (.int .u8 op) := Y1.out.cell 0 rfl
    have q1 : w5.cell? ⟨g1, 1, none⟩ = some (.int .u8 ya) := Y1.out.cell 1 rfl
    have q2 : w5.cell? ⟨g1, 2, none⟩ = some (.int .u8 b) := Y1.out.cell 2 rfl
    have q3 : w5.cell? ⟨g1, 3, none⟩ = some (.int .u8 c) := Y1.out.cell 3 rfl
    have q4 : w5.cell? ⟨g1, 4, none⟩ = some (.int .i32 imm) := Y1.out.cell 4 rfl
    go_wp2_with fail
    refine (enc_any ⟨op, ya, b, c, imm⟩ _ HO.out).mono ?_
    rintro e w6 ⟨rfl, hb⟩
    rw [HR0.out]
    unfold encE
    dsimp only
    have Y2 := Lib.hid (Y2.out.below hb Y2.out.lt)
    have Y3 := Lib.hid (Y3.out.below hb Y3.out.lt)
    have Y4 := Lib.hid (Y4.out.below hb Y4.out.lt)
    have B := Lib.hid (B.out.trans (hb.mono B.out.size))
    clear hb q0 q1 q2 q3 q4
    have q0 : w6.cell? ⟨g2, 0, none⟩ = some (.int .u8 op) := Y2.out.cell 0 rfl
    have q1 : w6.cell? ⟨g2, 1, none⟩ = some (.int .u8 a) := Y2.out.cell 1 rfl
    have q2 : w6.cell? ⟨g2, 2, none⟩ = some (.int .u8 yb) := Y2.out.cell 2 rfl
    have q3 : w6.cell? ⟨g2, 3, none⟩ = some (.int .u8 c) := Y2.out.cell 3 rfl
    have q4 : w6.cell? ⟨g2, 4, none⟩ = some (.int .i32 imm) := Y2.out.cell 4 rfl
    go_wp2_with fail
    refine (enc_any ⟨op, a, yb, c, imm⟩ _ HO.out).mono ?_
    rintro e w7 ⟨rfl, hb⟩
    rw [HR1.out]
    unfold encE
    dsimp only
    have Y3 := Lib.hid (Y3.out.below hb Y3.out.lt)
    have Y4 := Lib.hid (Y4.out.below hb Y4.out.lt)
    have B := Lib.hid (B.out.trans (hb.mono B.out.size))
    clear hb q0 q1 q2 q3 q4
    have q0 : w7.cell? ⟨g3, 0, none⟩ = some (.int .u8 op) := Y3.out.cell 0 rfl
    have q1 : w7.cell? ⟨g3, 1, none⟩ = some (.int .u8 a) := Y3.out.cell 1 rfl
    have q2 : w7.cell? ⟨g3, 2, none⟩ = some (.int .u8 b) := Y3.out.cell 2 rfl
    have q3 : w7.cell? ⟨g3, 3, none⟩ = some (.int .u8 yc) := Y3.out.cell 3 rfl
    have q4 : w7.cell? ⟨g3, 4, none⟩ = some (.int .i32 imm) := Y3.out.cell 4 rfl
    go_wp2_with fail
    refine (enc_any ⟨op, a, b, yc, imm⟩ _ HO.out).mono ?_
    rintro e w8 ⟨rfl, hb⟩
    rw [HR2.out]
    unfold encE
    dsimp only
    have Y4 := Lib.hid (Y4.out.below hb Y4.out.lt)
    have B := Lib.hid (B.out.trans (hb.mono B.out.size))
    clear hb q0 q1 q2 q3 q4
    have q0 : w8.cell? ⟨g4, 0, none⟩ = some (.int .u8 op) := Y4.out.cell 0 rfl
    have q1 : w8.cell? ⟨g4, 1, none⟩ = some (.int .u8 a) := Y4.out.cell 1 rfl
    have q2 : w8.cell? ⟨g4, 2, none⟩ = some (.int .u8 b) := Y4.out.cell 2 rfl
    have q3 : w8.cell? ⟨g4, 3, none⟩ = some (.int .u8 c) := Y4.out.cell 3 rfl
    have q4 : w8.cell? ⟨g4, 4, none⟩ = some (.int .i32 yi) := Y4.out.cell 4 rfl
    go_wp2_with fail
    refine (enc_any ⟨op, a, b, c, yi⟩ _ HO.out).mono ?_
    rintro e w9 ⟨rfl, hb⟩
    rw [HR3.out]
    unfold encE
    dsimp only
    have B := Lib.hid (B.out.trans (hb.mono B.out.size))
    clear hb q0 q1 q2 q3 q4
    have HA := HA.out
    have HB := HB.out
    have HC := HC.out
    have HI := HI.out
    clear L HO G Y4 HR h4 h5 HR0 HR1 HR2 HR3
    rcases HA with ha | ⟨ha, ha1, ha2⟩ <;> rcases HB with hb | ⟨hb, hb1, hb2⟩ <;> rcases HC with hc | ⟨hc, hc1⟩ <;> rcases HI with hi | ⟨hi, hi1⟩
    all_goals (go_wp2; go_ret; first | exact ⟨rfl, B.out⟩ | exact ⟨ret_bool hi1, B.out⟩)
end Go.Proofs.YtnaknooefjiahaaDoor
