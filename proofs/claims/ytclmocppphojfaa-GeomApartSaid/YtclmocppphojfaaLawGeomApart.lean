/-
  GeomApart: the walk.
-/
import Derived.Test.YtclmocppphojfaaApartPlain
namespace Go.Proofs.Ytclmocppphojfaa
open Go.RowKit
set_option linter.unusedVariables false
set_option linter.unusedSimpArgs false
set_option maxRecDepth 100000
theorem cell_ext {w : World} {A : Option Addr} {ys : List ByteArray} (h : RowAt w w.heap.size A (ys.map .string)) (k : Nat) (hk : k < ys.length) : ∃ b o, A = some ⟨b, o, none⟩ ∧ ∀ u : Ext w, u.val.cell? ⟨b, o + k, none⟩ = some (.string (ys.getD k ⟨#[]⟩)) := by
  obtain ⟨b, o, rfl, hb, hc⟩ := row_get h k hk
  exact ⟨b, o, rfl, fun u => u.cell hc⟩
set_option maxHeartbeats 8000000 in
theorem law_apart (a b : Nat) (A : Option Addr) (c : Nat) (acts : List Int) (fill : ByteArray) (w : World) (ha : a < 256) (hb : b < 256) (hr : ∀ x ∈ acts, -32768 ≤ x ∧ x < 32768) (h : RowAt w w.heap.size A (acts.map (.int .i16 ·))) (hfl : fill.size ≤ 9223372036854775807) :
    Calls Try.prog 6 #[.agg #[.int .u8 a, .int .u8 b], .slice A acts.length c, .string fill] w fun e w' => e = .returned (.bool true) ∧ Below w.heap.size w w' := by
  have HR := Lib.hid h
  have HA := Lib.hid hr
  clear h hr
  go_enter Try.func6, Try.ntmps6
  go_wp2_with fail
  refine (alive_any _).mono ?_
  rintro e w1 ⟨rfl, hb1⟩
  have B1 : Hid (Below w.heap.size w w1) := ((Below.refl w.heap.size w).alloc (Nat.le_refl _) _).trans (hb1.mono (by simp))
  have G1 := Lib.hid ((Blk.new w 39 #[.int .u8 a, .int .u8 b]).below hb1 (by simp))
  clear hb1
  by_cases h60 : acts.length ≤ 60
  case neg =>
    have h60' : (60 : Int) < (acts.length : Int) := by omega
    go_wp2
    go_ret
    exact ⟨rfl, B1.out⟩
  have h60' : ¬ (60 : Int) < (acts.length : Int) := by omega
  by_cases h128 : fill.size = 128
  case neg =>
    have e128 : ((fill.size : Int) != 128) = true := by simp; omega
    clear h128
    go_wp2
    go_ret
    exact ⟨rfl, B1.out⟩
  have e128 : ((fill.size : Int) != 128) = false := by simp; omega
  have H128 := Lib.hid h128
  clear h128
  have p0 : w1.cell? ⟨w.heap.size, 0, none⟩ = some (.int .u8 a) := G1.out.cell 0 rfl
  have p1 : w1.cell? ⟨w.heap.size, 1, none⟩ = some (.int .u8 b) := G1.out.cell 1 rfl
  go_wp2_with fail
  refine (volume_any a b A c acts _ ha hb (by omega) HA.out ((HR.out.below B1.out).mono B1.out.size)).mono ?_
  rintro e w2 ⟨⟨v, xs, m, rfl, hown, hvol⟩, hb2⟩
  have B2 := Lib.hid (B1.out.trans (hb2.mono B1.out.size))
  have O2 : Hid (OwnRow xs w v w2) := hown.base B1.out.size
  have V2 := Lib.hid hvol
  have hl := hvol.len
  obtain ⟨gv, cap, rfl⟩ := Go.Joins.ownsRow_form hown (by omega)
  obtain ⟨A2, c2, hA2, hr2⟩ := hown.read
  cases hA2
  have R2 := Lib.hid hr2
  clear hown hb2 hvol hr2 p0 p1 G1 e128
  have HOF := Lib.hid (ofR_some.2 V2.out)
  go_wp2_with fail
  refine (of_any _ _ xs _ (by omega) R2.out).mono ?_
  rintro e w3 ⟨rfl, hb3⟩
  rw [HOF.out]
  dsimp only [ofE]
  have B3 := Lib.hid (B2.out.trans (hb3.mono B2.out.size))
  have O3 := Lib.hid (own_keep O2.out hb3)
  clear hb3 R2 O2 B2 HOF
  have GB := Lib.hid (Blk.new w3 24 #[.int .i64 (xs.length : Int), .int .i64 (m : Int), .int .i64 1, .int .i64 2, .int .i64 3, .int .i64 (dataN m : Int)])
  have O4 : Hid (OwnRow xs w (.slice (some ⟨gv, 0, none⟩) xs.length cap) (w3.alloc (.cells #[.int .i64 (xs.length : Int), .int .i64 (m : Int), .int .i64 1, .int .i64 2, .int .i64 3, .int .i64 (dataN m : Int)] 24))) := World.ownsRow.alloc O3.out _
  have B4 := Lib.hid (B3.out.alloc B3.out.size (.cells #[.int .i64 (xs.length : Int), .int .i64 (m : Int), .int .i64 1, .int .i64 2, .int .i64 3, .int .i64 (dataN m : Int)] 24))
  have hgg : gv ≠ w3.heap.size := by have := (O3.out.lt gv rfl).2; omega
  have HGG := Lib.hid hgg
  have hwg : w.heap.size ≤ gv := (O3.out.lt gv rfl).1
  have HWG := Lib.hid hwg
  clear O3 B3 hgg hwg
  go_wp2
  generalize hw4 : World.alloc w3 _ = w4 at *
  generalize w3.heap.size = gb at *
  clear hw4
  go_loopw [10] (fun i wr => ∃ (k : Nat) (ys : List ByteArray), 3 ≤ k ∧ k ≤ xs.length ∧ i = .int .i64 k ∧ Hid (wr.ownsRow w.heap.size 9 1 (.slice (some ⟨gv, 0, none⟩) xs.length cap) xs.length (ys.map .string)) ∧ Hid (ys.length = xs.length) ∧ Hid (IsVol ys m) ∧ Hid (Blk wr gb 24 #[.int .i64 (xs.length : Int), .int .i64 (m : Int), .int .i64 1, .int .i64 2, .int .i64 3, .int .i64 (dataN m : Int)]) ∧ Hid (Below w.heap.size w wr)) (fun i _ => xs.length - (intOf i).toNat)
  case atStart => exact ⟨3, xs, by omega, by omega, rfl, O4, Lib.hid rfl, V2, GB, B4⟩
  case round =>
    obtain ⟨k, ys, h3k, hkN, rfl, OY, LY, VY, GY, BY⟩ := hrel
    have q0 : wr.cell? ⟨gb, 0, none⟩ = some (.int .i64 (xs.length : Int)) := GY.out.cell 0 rfl
    have q3 : wr.cell? ⟨gb, 3, none⟩ = some (.int .i64 2) := GY.out.cell 3 rfl
    by_cases hlt : k < xs.length
    · have ck : wr.cell? ⟨gv, k, none⟩ = some (.string (ys.getD k ⟨#[]⟩)) := by
        rw [OY.out.cellAt k (by omega), List.getElem?_map]
        simp only [List.getD]
        rw [List.getElem?_eq_getElem (by rw [LY.out]; omega)]; rfl
      have fk : wr.frozen? ⟨gv, k, none⟩ = false := OY.out.frozenAt k
      have hst := World.ownsRow.stored OY.out k (.string fill)
      have OZ := Lib.hid hst.1
      have GZ := Lib.hid (GY.out.grown hst.2 (by intro e; exact HGG.out (Option.some.inj e).symm))
      have BZ : Hid (Below w.heap.size w (wr.setCell ⟨gv, k, none⟩ (.string fill))) := BY.out.setCell HWG.out _
      have i1 : (0 : Int) ≤ (k : Int) := by omega
      have i2 : (k : Int) < (xs.length : Int) := by omega
      clear hst
      go_wp2
      go_roundw
      case rel => exact ⟨k + 1, ys.set k fill, by omega, by omega, by go_num, by
        have := OZ.out
        rw [← List.map_set] at this
        exact this, (List.length_set).trans LY.out, VY.out.set h3k H128.out, GZ, BZ⟩
      case measure => simp [intOf]; omega
    · clear q3
      have hl2 := VY.out.len
      have hyl := LY.out
      have RY : Hid (RowAt wr wr.heap.size (some ⟨gv, 0, none⟩) (ys.map .string)) := RowAt.of_own OY.out
      have TK := Lib.hid (take_any (some ⟨gv, 0, none⟩) cap ys)
      rw [hyl] at TK
      have LY' := Lib.hid hyl
      clear hyl
      go_wp2_with fail
      refine (TK.out _ (by omega) RY.out).mono ?_
      rintro e w5 ⟨hb5, hq⟩
      rw [ofR_some.2 VY.out] at hq
      dsimp only at hq
      have B5 := Lib.hid (BY.out.trans (hb5.mono BY.out.size))
      have R5 := Lib.hid ((RY.out.below hb5).mono hb5.size)
      have G5 := Lib.hid (GY.out.below hb5 GY.out.lt)
      clear TK q0
      cases hf : freeR ys m with
      | none =>
        rw [hf] at hq
        subst hq
        have RM := Lib.hid (room_full VY.out hf)
        have RR := Lib.hid (room_any (some ⟨gv, 0, none⟩) cap ys)
        rw [RM.out, LY'.out] at RR
        clear hb5 hf RM
        go_wp2_with fail
        refine (RR.out _ (by omega) R5.out).mono ?_
        rintro e w6 ⟨rfl, hb6⟩
        have B6 := Lib.hid (B5.out.trans (hb6.mono B5.out.size))
        clear hb6
        go_wp2
        go_ret
        exact ⟨rfl, B6.out⟩
      | some n =>
        rw [hf] at hq
        obtain ⟨v5, rfl, hn5⟩ := hq
        obtain ⟨h1, h2, h3, h4⟩ := (freeR_some (by omega)).1 hf
        have AP := Lib.hid (Apart.mk' VY.out hf)
        have VW := Lib.hid (VY.out.take h1 h2)
        have hbit : bitL (blkL (takeV ys n) 2) n = true := by rw [bit_take VY.out hf]; simp
        have HB := Lib.hid hbit
        obtain ⟨A6, c6, rfl, hr6⟩ := hn5.read
        have R6 := Lib.hid hr6
        have HL1 : Hid ((takeV ys n).length = xs.length) := AP.out.len1.trans LY'.out
        have HL2 : Hid ((turnV (takeV ys n) n).length = xs.length) := AP.out.len2.trans LY'.out
        have GV := Lib.hid (give_any A6 c6 (takeV ys n) n)
        rw [HL1.out] at GV
        rw [HL1.out]
        have hnx : n < xs.length := by have := LY'.out; omega
        clear hb5 hf hn5 hr6 h4 h3 hbit
        go_wp2_with fail
        refine (GV.out _ (by omega) R6.out).mono ?_
        rintro e w6 ⟨hb6, hq⟩
        rw [ofR_some.2 VW.out] at hq
        dsimp only at hq
        rw [if_neg (by rw [AP.out.len1]; omega), Int.toNat_natCast, if_neg (by rw [HB.out]; simp)] at hq
        obtain ⟨v6, rfl, hn6⟩ := hq
        obtain ⟨A7, c7, rfl, hr7⟩ := hn6.read
        rw [HL2.out]
        have B6 := Lib.hid (B5.out.trans (hb6.mono B5.out.size))
        have RW := Lib.hid ((R6.out.below hb6).mono hb6.size)
        have RV := Lib.hid ((R5.out.below hb6).mono hb6.size)
        have RX := Lib.hid hr7
        have G6 := Lib.hid (G5.out.below hb6 G5.out.lt)
        clear hb6 hn6 hr7 GV G5 R5 R6 B5
        have CU : Hid (∀ (i : Nat) (u : World), Below w6.heap.size w6 u → Calls Try.prog 24 #[.slice A6 xs.length c6, .int .i64 i] u fun e w' => e = .returned (.bool (usedR ys i || decide (i = n))) ∧ Below u.heap.size u w') := fun i u hu => by
          rw [← AP.out.used i, ← HL1.out]
          exact used_any A6 c6 (takeV ys n) i u (by rw [HL1.out]; omega) ((RW.out.below hu).mono hu.size)
        have CV : Hid (∀ (i : Nat) (u : World), Below w6.heap.size w6 u → Calls Try.prog 24 #[.slice (some ⟨gv, 0, none⟩) xs.length cap, .int .i64 i] u fun e w' => e = .returned (.bool (usedR ys i)) ∧ Below u.heap.size u w') := fun i u hu => by
          rw [← LY'.out]
          exact used_any _ cap ys i u (by omega) ((RV.out.below hu).mono hu.size)
        have CX : Hid (∀ u : Ext w6, Calls Try.prog 24 #[.slice A7 xs.length c7, .int .i64 n] u.val fun e w' => e = .returned (.bool false) ∧ Below u.val.heap.size u.val w') := fun u => by
          rw [← AP.out.gone, ← HL2.out]
          exact used_any A7 c7 (turnV (takeV ys n) n) n u.val (by rw [HL2.out]; omega) ((RX.out.below u.below).mono u.below.size)
        have CZ : Hid (∀ u : Ext w6, Calls Try.prog 32 #[.int .i64 128] u.val fun e w' => e = .returned (.string (zerosB 128)) ∧ u.val = w') := fun u => rzeros_any 128 u.val (by omega)
        obtain ⟨b6, o6, rfl, cw⟩ := cell_ext RW.out n (by rw [HL1.out]; omega)
        obtain ⟨b7, o7, rfl, cx⟩ := cell_ext RX.out n (by rw [HL2.out]; omega)
        obtain ⟨b7', o7', hA7, cx2⟩ := cell_ext RX.out 2 (by rw [HL2.out]; omega)
        cases hA7
        obtain ⟨b8', o8', hA8, cv2⟩ := cell_ext RV.out 2 (by omega)
        cases hA8
        rw [AP.out.zero] at cw
        rw [AP.out.back] at cx
        rw [AP.out.map_] at cx2
        generalize ys.getD 2 ⟨#[]⟩ = s2 at cx2 cv2
        have g3 : ∀ u : Ext w6, u.val.cell? ⟨gb, 3, none⟩ = some (.int .i64 2) := fun u => u.cell (G6.out.cell 3 rfl)
        have i0 : (0 : Int) ≤ (n : Int) := by omega
        have i1 : (n : Int) < (xs.length : Int) := by omega
        have i2 : (2 : Int) < (xs.length : Int) := by omega
        go_wp2_with fail
        refine wp_region_ext (by kernel_rfl) (by kernel_rfl) ?_
        repeat (go_big_quiet_step (first
          | (go_at_call 24; with_reducible exact Ext.call (CX.out _))
          | (go_at_call 32; with_reducible exact Ext.call_same (CZ.out _))))
        refine wpQuiet_nil ?_
        rintro _ ⟨u, rfl⟩
        clear cw cx cx2 cv2 g3 CX CZ
        have BU := Lib.hid u.below
        generalize u.val = w7 at *
        go_wp2
        go_loopw [16, 128] (fun i j wr => ∃ (k : Nat), k ≤ xs.length ∧ j = .int .i64 k ∧ Hid (Below w6.heap.size w6 wr)) (fun _ j _ => xs.length - (intOf j).toNat)
        case atStart => exact ⟨0, by omega, rfl, BU⟩
        case round =>
          obtain ⟨k, hk, rfl, BQ⟩ := hrel
          by_cases hlt : k < xs.length
          · have RW1 := Lib.hid ((RW.out.below BQ.out).mono BQ.out.size)
            have RV1 := Lib.hid ((RV.out.below BQ.out).mono BQ.out.size)
            have RX1 := Lib.hid ((RX.out.below BQ.out).mono BQ.out.size)
            have g3 : ∀ u : Ext wr, u.val.cell? ⟨gb, 3, none⟩ = some (.int .i64 2) := fun u => u.cell ((G6.out.below BQ.out G6.out.lt).cell 3 rfl)
            have C1 : Hid (∀ u : Ext wr, Calls Try.prog 24 #[.slice (some ⟨b6, o6, none⟩) xs.length c6, .int .i64 k] u.val fun e w' => e = .returned (.bool (usedR ys k || decide (k = n))) ∧ Below u.val.heap.size u.val w') := fun u => CU.out k u.val (BQ.out.trans (u.below.mono BQ.out.size))
            have C2 : Hid (∀ u : Ext wr, Calls Try.prog 24 #[.slice (some ⟨gv, 0, none⟩) xs.length cap, .int .i64 k] u.val fun e w' => e = .returned (.bool (usedR ys k)) ∧ Below u.val.heap.size u.val w') := fun u => CV.out k u.val (BQ.out.trans (u.below.mono BQ.out.size))
            have j0 : (0 : Int) ≤ (k : Int) := by omega
            have j1 : (k : Int) < (xs.length : Int) := by omega
            have hsame : k ≠ 2 → k ≠ n → (takeV ys n).getD k ⟨#[]⟩ = ys.getD k ⟨#[]⟩ ∧ (turnV (takeV ys n) n).getD k ⟨#[]⟩ = ys.getD k ⟨#[]⟩ := fun a b => ⟨AP.out.oth1 k a b, AP.out.oth2 k a b⟩
            have HSM := Lib.hid hsame
            obtain ⟨b6', o6', hA6, cw⟩ := cell_ext RW1.out k (by rw [HL1.out]; omega)
            cases hA6
            obtain ⟨b7'', o7'', hA7', cx⟩ := cell_ext RX1.out k (by rw [HL2.out]; omega)
            cases hA7'
            obtain ⟨b8'', o8'', hA8', cv⟩ := cell_ext RV1.out k (by rw [LY'.out]; omega)
            cases hA8'
            clear hsame
            obtain ⟨ub, hub⟩ : ∃ ub, usedR ys k = ub := ⟨_, rfl⟩
            rw [hub] at C1 C2
            clear hub
            by_cases hk2 : k = 2
            · subst hk2
              have hn2 : decide (2 = n) = false := by simp; omega
              rw [hn2] at C1
              have e1 : ((2 : Int) == (n : Int)) = false := by simp; omega
              have e2 : ((2 : Int) != (n : Int)) = true := by simp; omega
              clear cw cx cv hn2
              cases ub
              all_goals
                simp only [Bool.or_false, Bool.true_or, Bool.false_or] at C1
                go_wp2_with fail
                refine wp_region_ext (by kernel_rfl) (by kernel_rfl) ?_
                repeat (go_big_quiet_step (first
                  | (go_at_call 24; with_reducible exact Ext.call (C1.out _))
                  | (go_at_call 24; with_reducible exact Ext.call (C2.out _))))
                refine wpQuiet_nil ?_
                rintro _ ⟨u, rfl⟩
                have BN := Lib.hid (BQ.out.trans (u.below.mono BQ.out.size))
                generalize u.val = w9 at *
                clear C1 C2 g3
                go_wp2
                go_roundw
                case rel => exact ⟨2 + 1, by omega, by go_num, BN⟩
                case measure => simp [intOf]; omega
            · have m1 : ((k : Int) == 2) = false := by simp; omega
              have m2 : ((k : Int) != 2) = true := by simp; omega
              by_cases hkn : k = n
              · subst hkn
                rw [show decide (k = k) = true by simp] at C1
                clear cw cx cv
                cases ub
                all_goals
                  simp only [Bool.or_true, Bool.true_or, Bool.false_or] at C1
                  go_wp2_with fail
                  refine wp_region_ext (by kernel_rfl) (by kernel_rfl) ?_
                  repeat (go_big_quiet_step (first
                    | (go_at_call 24; with_reducible exact Ext.call (C1.out _))
                    | (go_at_call 24; with_reducible exact Ext.call (C2.out _))))
                  refine wpQuiet_nil ?_
                  rintro _ ⟨u, rfl⟩
                  have BN := Lib.hid (BQ.out.trans (u.below.mono BQ.out.size))
                  generalize u.val = w9 at *
                  clear C1 C2 g3
                  go_wp2
                  go_roundw
                  case rel => exact ⟨k + 1, by omega, by go_num, BN⟩
                  case measure => simp [intOf]; omega
              · rw [show decide (k = n) = false by simp [hkn]] at C1
                have e1 : ((k : Int) == (n : Int)) = false := by simp; omega
                have e2 : ((k : Int) != (n : Int)) = true := by simp; omega
                rw [(HSM.out hk2 hkn).1] at cw
                rw [(HSM.out hk2 hkn).2] at cx
                generalize ys.getD k ⟨#[]⟩ = sk at cw cx cv
                simp only [Nat.zero_add] at cv
                clear hk2 hkn
                cases ub
                all_goals
                  simp only [Bool.or_false, Bool.true_or, Bool.false_or] at C1
                  go_wp2_with fail
                  refine wp_region_ext (by kernel_rfl) (by kernel_rfl) ?_
                  repeat (go_big_quiet_step (first
                    | (go_at_call 24; with_reducible exact Ext.call (C1.out _))
                    | (go_at_call 24; with_reducible exact Ext.call (C2.out _))))
                  refine wpQuiet_nil ?_
                  rintro _ ⟨u, rfl⟩
                  have BN := Lib.hid (BQ.out.trans (u.below.mono BQ.out.size))
                  generalize u.val = w9 at *
                  clear C1 C2 g3 cw cx cv
                  go_wp2
                  go_roundw
                  case rel => exact ⟨k + 1, by omega, by go_num, BN⟩
                  case measure => simp [intOf]; omega
          · go_wp2
            go_ret
            exact ⟨rfl, B6.out.trans (BQ.out.mono B6.out.size)⟩
end Go.Proofs.Ytclmocppphojfaa
