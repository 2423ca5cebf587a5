/-
  What geom.Of computes.
-/
import Derived.Test.YtoanladhikdcaaaGreatGeomB
import Derived.Deep.RegionHeld3
import Derived.Deep.DeepCutAuto
namespace Go.Proofs.YtoanladhikdcaaaGreat
open Go.RowKit
set_option linter.unusedVariables false
set_option linter.unusedSimpArgs false
set_option maxRecDepth 100000
/-- the number of blocks that block 0 tells -/
def bloN (xs : List ByteArray) : Nat := leN (((blkL xs 0).drop 4).take 2)
theorem leN_two (l : List UInt8) : leN (l.take 2) < 65536 := by
  have h := leN_lt (l.take 2)
  have h2 : (l.take 2).length ≤ 2 := by simp; omega
  have h3 : 256 ^ (l.take 2).length ≤ 256 ^ 2 := Nat.pow_le_pow_right (by omega) h2
  omega
theorem vol_blo {xs : List ByteArray} {m : Nat} (h : IsVol xs m) : bloN xs = xs.length := by
  have hl := h.len
  unfold bloN blkL
  rw [h.2.2.1]
  show leN (((headL xs.length m).toArray.toList.drop 4).take 2) = _
  rw [List.toList_toArray, head_blocks _ _ (by omega)]
theorem get_two (s : ByteArray) (k : Nat) (w : World) (hk : k + 2 ≤ s.size) (hs : s.size ≤ 1000000) : Calls Tryz.prog 62 #[.string (s.extract k (k + 2))] w fun e w' => e = .returned (.int .u64 (leN ((s.data.toList.drop k).take 2))) ∧ w = w' := by
  refine (get_any _ w (by simp [ByteArray.size_extract]; omega)).mono ?_
  rintro e w' ⟨rfl, rfl⟩
  refine ⟨?_, rfl⟩
  rw [Lib.extract_data, show k + 2 - k = 2 by omega, List.take_take]; rfl
theorem or_bad {xs : List ByteArray} {i : Nat} (hi : i < 1024) (h : i < dataN (inoN xs) ∧ bitL (blkL xs 2) i = false ∨ xs.length ≤ i ∧ bitL (blkL xs 2) i = true) : ofR xs = none := by
  apply ofR_none.2
  intro hv
  have := bitsOk_iff.1 hv.2.2.2 i hi
  rcases h with ⟨a, b⟩ | ⟨a, b⟩
  · rw [this.1 a] at b; cases b
  · rw [this.2 a] at b; cases b
set_option maxHeartbeats 8000000 in
theorem of_good (A : Option Addr) (c : Nat) (xs : List ByteArray) (w : World) (hx : xs.length ≤ 1000000) (h : RowAt w w.heap.size A (xs.map .string)) (hn : ∀ s ∈ xs, s.size = 128) :
    Calls Tryz.prog 58 #[.slice A xs.length c] w (OfPost xs w) := by
  have HR := Lib.hid h
  have HN := Lib.hid hn
  have HS : Hid (∀ j (hj : j < xs.length), xs[j].size = 128) := fun j hj => HN.out _ (List.getElem_mem hj)
  have HB := Lib.hid (fun (o : Obj) => (Below.refl w.heap.size w).alloc (Nat.le_refl _) o)
  clear h hn
  go_enter Tryz.func58, Tryz.ntmps58
  go_wp2
  go_loop [12] (fun i => ∃ k : Nat, k ≤ xs.length ∧ i = .int .i64 k) (fun i => xs.length - (intOf i).toNat)
  case atStart => exact ⟨0, Nat.zero_le _, rfl⟩
  case round =>
    obtain ⟨k, hk, rfl⟩ := hrel
    by_cases hlt : k < xs.length
    · obtain ⟨b, o, rfl, hb, hc⟩ := row_get HR.out k hlt
      rw [getD_eq xs k hlt] at hc
      have hc1 : (w.alloc (.cells #[.int .i64 0, .int .i64 0, .int .i64 0, .int .i64 0, .int .i64 0, .int .i64 0] 54)).cell? ⟨b, o + k, none⟩ = some (.string xs[k]) := ((HB.out _).cell (p := ⟨b, o + k, none⟩) hb).trans hc
      have h1 : ((xs[k].size : Int) != 128) = false := by simp [HS.out k hlt]
      clear hc
      go_wp2
      go_round
      case rel => exact ⟨k + 1, by omega, by go_num⟩
      case measure => simp [intOf]; omega
    · generalize hw1 : w.alloc _ = w1
      have G2 : Hid (Blk w1 w.heap.size 54 #[.int .i64 0, .int .i64 0, .int .i64 0, .int .i64 0, .int .i64 0, .int .i64 0]) := hw1 ▸ Blk.new _ _ _
      have B : Hid (Below w.heap.size w w1) := hw1 ▸ HB.out _
      clear hw1 HB
      by_cases h16 : xs.length < 16
      · have HO := Lib.hid (show ofR xs = none from ofR_none.2 fun hv => by have := hv.len; omega)
        have h16' : (xs.length : Int) < 16 := by omega
        have p0 : w1.cell? ⟨w.heap.size, 0, none⟩ = some (.int .i64 0) := G2.out.cell 0 rfl
        have f0 : w1.frozen? ⟨w.heap.size, 0, none⟩ = false := G2.out.frozen 0
        have p1 : w1.cell? ⟨w.heap.size, 1, none⟩ = some (.int .i64 0) := G2.out.cell 1 rfl
        have f1 : w1.frozen? ⟨w.heap.size, 1, none⟩ = false := G2.out.frozen 1
        have p2 : w1.cell? ⟨w.heap.size, 2, none⟩ = some (.int .i64 0) := G2.out.cell 2 rfl
        have f2 : w1.frozen? ⟨w.heap.size, 2, none⟩ = false := G2.out.frozen 2
        have p3 : w1.cell? ⟨w.heap.size, 3, none⟩ = some (.int .i64 0) := G2.out.cell 3 rfl
        have f3 : w1.frozen? ⟨w.heap.size, 3, none⟩ = false := G2.out.frozen 3
        have p4 : w1.cell? ⟨w.heap.size, 4, none⟩ = some (.int .i64 0) := G2.out.cell 4 rfl
        have f4 : w1.frozen? ⟨w.heap.size, 4, none⟩ = false := G2.out.frozen 4
        have p5 : w1.cell? ⟨w.heap.size, 5, none⟩ = some (.int .i64 0) := G2.out.cell 5 rfl
        have f5 : w1.frozen? ⟨w.heap.size, 5, none⟩ = false := G2.out.frozen 5
        go_wp2
        refine bodyPost_ret (results_ct rfl rfl rfl ((((((G2.out.set_ 0 _).set_ 1 _).set_ 2 _).set_ 3 _).set_ 4 _).set_ 5 _) Tryz.underlying54 rfl (by kernel_rfl)) rfl ?_
        exact of_none HO.out (((((((B.out.setCell (Nat.le_refl _) _).setCell (Nat.le_refl _) _).setCell (Nat.le_refl _) _).setCell (Nat.le_refl _) _).setCell (Nat.le_refl _) _).setCell (Nat.le_refl _) _))
      · have h16' : ¬ (xs.length : Int) < 16 := by omega
        obtain ⟨b, o, rfl, hb, hc0⟩ := row_get HR.out 0 (by omega)
        obtain ⟨_, _, e2, _, hc2⟩ := row_get HR.out 2 (by omega)
        cases e2
        have hS0 := HS.out 0 (by omega)
        have HE0 : Hid (blkL xs 0 = (xs.getD 0 ⟨#[]⟩).data.toList) := rfl
        rw [← getD_eq xs 0 (by omega)] at hS0
        generalize hs0 : xs.getD 0 ⟨#[]⟩ = s0 at hS0 hc0 HE0
        rw [Nat.add_zero] at hc0
        have HS0 := Lib.hid hs0
        have z0 : (6 : Int) ≤ (s0.size : Int) := by omega
        have z1 : (8 : Int) ≤ (s0.size : Int) := by omega
        have z2 : (0 : Int) < (xs.length : Int) := by omega
        have z3 : 0 < xs.length := by omega
        have z4 : ¬ xs = [] := by rintro rfl; simp at z3
        obtain ⟨bn, hbn⟩ : ∃ n, bloN xs = n := ⟨_, rfl⟩
        obtain ⟨mn, hmn⟩ : ∃ n, inoN xs = n := ⟨_, rfl⟩
        have c1 : ∀ w, Calls Tryz.prog 62 #[.string (s0.extract 4 6)] w fun e w' => e = .returned (.int .u64 bn) ∧ w = w' := fun w => by
          rw [← hbn]; unfold bloN; rw [HE0.out]; exact get_two s0 4 w (by omega) (by omega)
        have c2 : ∀ w, Calls Tryz.prog 62 #[.string (s0.extract 6 8)] w fun e w' => e = .returned (.int .u64 mn) ∧ w = w' := fun w => by
          rw [← hmn]; unfold inoN; rw [HE0.out]; exact get_two s0 6 w (by omega) (by omega)
        have hb6 : bn < 65536 := by rw [← hbn]; exact leN_two _
        have hm6 : mn < 65536 := by rw [← hmn]; exact leN_two _
        have wr1 : IntKind.i64.wrap (bn : Int) = (bn : Int) := IntWalk.i64_in _ (by omega)
        have wr2 : IntKind.i64.wrap (mn : Int) = (mn : Int) := IntWalk.i64_in _ (by omega)
        have HBN := Lib.hid hbn
        have HMN := Lib.hid hmn
        have C1 := Lib.hid c1
        have C2 := Lib.hid c2
        have hbw : b < w1.heap.size := Nat.lt_of_lt_of_le hb B.out.size
        have HC0 : Hid (w1.cell? ⟨b, o, none⟩ = some (.string s0)) := (B.out.cell (p := ⟨b, o, none⟩) hb).trans hc0
        have u0 : ∀ u : Ext w1, u.val.cell? ⟨b, o, none⟩ = some (.string s0) := fun u => u.cell HC0.out
        have KS : Hid (∀ w', Below w1.heap.size w1 w' → w'.cell? ⟨b, o, none⟩ = some (.string s0)) := fun w' hb' => (hb'.cell (p := ⟨b, o, none⟩) hbw).trans HC0.out
        have hcw := HC0.out
        clear c1 c2 hbn hmn hs0 hc0 hc2
        by_cases hpl : planE (bn : Int) (mn : Int) = 0
        case neg =>
          have HO := Lib.hid (show ofR xs = none from ofR_none.2 fun hv => hpl (by
            rw [← HBN.out, vol_blo hv, ← HMN.out]; exact hv.2.1))
          obtain ⟨pe, hpe⟩ : ∃ e, planE (bn : Int) (mn : Int) = e := ⟨_, rfl⟩
          have c3 : ∀ w, Calls Tryz.prog 55 #[.int .i64 bn, .int .i64 mn] w fun e w' => e = .returned (.tuple #[.agg #[.int .i64 0, .int .i64 0, .int .i64 0, .int .i64 0, .int .i64 0, .int .i64 0], .int .i64 pe]) ∧ Below w.heap.size w w' := fun w => by
            refine (plan_any bn mn w).mono ?_
            rintro e w' ⟨rfl, hb⟩
            refine ⟨?_, hb⟩
            unfold planC
            rw [if_neg hpl, hpe]; rfl
          have C3 := Lib.hid c3
          have hpe' : (pe != 0) = true := by rw [hpe] at hpl; simpa using hpl
          clear c3 hpe hpl
          go_upto_region 9 with fail
          go_cut [6, 7] (fun s6 s7 wx => ∃ g : Nat, s6 = .pointer (some ⟨g, 0, none⟩) ∧ s7 = .int .i64 pe ∧ Hid (Blk wx g 54 #[.int .i64 0, .int .i64 0, .int .i64 0, .int .i64 0, .int .i64 0, .int .i64 0]) ∧ Hid (Below w1.heap.size w1 wx))
          case first =>
            go_region_held3 (fun w' => w'.cell? ⟨b, o, none⟩ = some (.string s0)) (first | (with_reducible assumption) | (refine KS.out _ ?_; (repeat (first | (with_reducible exact Below.refl _ _) | (with_reducible exact KB.out) | (with_reducible refine Below.drew ?_) | ((with_reducible refine Below.setCell ?_ ?_ _); rotate_left; (first | exact Nat.le_refl _ | omega | (simp; done) | (simp; omega))) | ((with_reducible refine Below.alloc ?_ ?_ _); rotate_left; (first | exact Nat.le_refl _ | omega | (simp; done) | (simp; omega)))))))
              (first
                | (go_at_call 62; with_reducible refine (C1.out _).mono ?_; rintro e w' ⟨rfl, rfl⟩)
                | (go_at_call 62; with_reducible refine (C2.out _).mono ?_; rintro e w' ⟨rfl, rfl⟩)
                | (go_at_call 55; with_reducible refine (C3.out _).mono ?_; rintro e w6 ⟨rfl, hb6⟩; have kb : Below w1.heap.size w1 w6 := Below.trans (B := w1.heap.size) (by (repeat (first | (with_reducible exact Below.refl _ _) | (with_reducible exact KB.out) | (with_reducible refine Below.drew ?_) | ((with_reducible refine Below.setCell ?_ ?_ _); rotate_left; (first | exact Nat.le_refl _ | omega | (simp; done) | (simp; omega))) | ((with_reducible refine Below.alloc ?_ ?_ _); rotate_left; (first | exact Nat.le_refl _ | omega | (simp; done) | (simp; omega)))))) (hb6.mono (by first | exact Nat.le_refl _ | (simp; done) | (simp; omega))); have KB := Lib.hid kb; have hz6 : w1.heap.size ≤ w6.heap.size := kb.size; clear kb; have hS6 : w6.cell? ⟨b, o, none⟩ = some (.string s0) := KS.out _ KB.out; (try ((with_reducible have GB := Lib.hid (((Blk.new w1 54 #[.int .i64 0, .int .i64 0, .int .i64 0, .int .i64 0, .int .i64 0, .int .i64 0]).drew).below hb6 (by simp))); have p0 := GB.out.cell 0 (v := .int .i64 0) rfl; have p1 := GB.out.cell 1 (v := .int .i64 0) rfl; have p2 := GB.out.cell 2 (v := .int .i64 0) rfl; have p3 := GB.out.cell 3 (v := .int .i64 0) rfl; have p4 := GB.out.cell 4 (v := .int .i64 0) rfl; have p5 := GB.out.cell 5 (v := .int .i64 0) rfl; have f0 := GB.out.frozen 0; have f1 := GB.out.frozen 1; have f2 := GB.out.frozen 2; have f3 := GB.out.frozen 3; have f4 := GB.out.frozen 4; have f5 := GB.out.frozen 5)); clear hb6))
            all_goals (go_wp2_with fail; go_meet; first | exact ⟨w1.heap.size, rfl, rfl, Lib.hid ((((((GB.out.set_ 0 _).set_ 1 _).set_ 2 _).set_ 3 _).set_ 4 _).set_ 5 _), Lib.hid ((((((KB.out.setCell (Nat.le_refl _) _).setCell (Nat.le_refl _) _).setCell (Nat.le_refl _) _).setCell (Nat.le_refl _) _).setCell (Nat.le_refl _) _).setCell (Nat.le_refl _) _)⟩ | exact ⟨w6.heap.size, rfl, rfl, Lib.hid (Blk.new w6 _ _), Lib.hid (KB.out.alloc hz6 _)⟩)
          case rest =>
            obtain ⟨g6, rfl, rfl, G6, B6⟩ := hcut
            have G2 := Lib.hid (G2.out.below B6.out G2.out.lt)
            have B := Lib.hid (B.out.trans (B6.out.mono B.out.size))
            clear KS hcw u0 C1 C2 C3
            go_upto_region 10 with fail
            refine wp_region_ext (by kernel_rfl) (by kernel_rfl) ?_
            repeat (go_big_quiet_step (fail))
            refine wpQuiet_nil ?_
            rintro _ ⟨u, rfl⟩
            have G2 := Lib.hid (G2.out.below u.below G2.out.lt)
            have B := Lib.hid (B.out.trans (u.below.mono B.out.size))
            generalize u.val = w7 at G2 B
            have p0 : w7.cell? ⟨w.heap.size, 0, none⟩ = some (.int .i64 0) := G2.out.cell 0 rfl
            have f0 : w7.frozen? ⟨w.heap.size, 0, none⟩ = false := G2.out.frozen 0
            have p1 : w7.cell? ⟨w.heap.size, 1, none⟩ = some (.int .i64 0) := G2.out.cell 1 rfl
            have f1 : w7.frozen? ⟨w.heap.size, 1, none⟩ = false := G2.out.frozen 1
            have p2 : w7.cell? ⟨w.heap.size, 2, none⟩ = some (.int .i64 0) := G2.out.cell 2 rfl
            have f2 : w7.frozen? ⟨w.heap.size, 2, none⟩ = false := G2.out.frozen 2
            have p3 : w7.cell? ⟨w.heap.size, 3, none⟩ = some (.int .i64 0) := G2.out.cell 3 rfl
            have f3 : w7.frozen? ⟨w.heap.size, 3, none⟩ = false := G2.out.frozen 3
            have p4 : w7.cell? ⟨w.heap.size, 4, none⟩ = some (.int .i64 0) := G2.out.cell 4 rfl
            have f4 : w7.frozen? ⟨w.heap.size, 4, none⟩ = false := G2.out.frozen 4
            have p5 : w7.cell? ⟨w.heap.size, 5, none⟩ = some (.int .i64 0) := G2.out.cell 5 rfl
            have f5 : w7.frozen? ⟨w.heap.size, 5, none⟩ = false := G2.out.frozen 5
            go_wp2
            refine bodyPost_ret (results_ct rfl rfl rfl ((((((G2.out.set_ 0 _).set_ 1 _).set_ 2 _).set_ 3 _).set_ 4 _).set_ 5 _) Tryz.underlying54 rfl (by kernel_rfl)) rfl ?_
            exact of_none HO.out (((((((B.out.setCell (Nat.le_refl _) _).setCell (Nat.le_refl _) _).setCell (Nat.le_refl _) _).setCell (Nat.le_refl _) _).setCell (Nat.le_refl _) _).setCell (Nat.le_refl _) _))
        case pos =>
          have HPL := Lib.hid hpl
          have hp := planE_iff.1 hpl
          obtain ⟨d, hd⟩ : ∃ d : Nat, dataN mn = d := ⟨_, rfl⟩
          have hdi : (3 : Int) + ((mn : Int) + 1) / 2 = (d : Int) := by unfold dataN at hd; omega
          have c3 : ∀ w, Calls Tryz.prog 55 #[.int .i64 bn, .int .i64 mn] w fun e w' => e = .returned (.tuple #[.agg #[.int .i64 bn, .int .i64 mn, .int .i64 1, .int .i64 2, .int .i64 3, .int .i64 d], .int .i64 0]) ∧ Below w.heap.size w w' := fun w => by
            refine (plan_any bn mn w).mono ?_
            rintro e w' ⟨rfl, hb⟩
            refine ⟨?_, hb⟩
            unfold planC geomC
            rw [if_pos hpl, hpl, hdi]
          have C3 := Lib.hid c3
          have HD := Lib.hid hd
          rw [hd] at hp
          have HP := Lib.hid hp
          clear c3 hpl hd hdi hp
          go_upto_region 9 with fail
          go_cut [6, 7] (fun s6 s7 wx => ∃ g : Nat, s6 = .pointer (some ⟨g, 0, none⟩) ∧ s7 = .int .i64 0 ∧ Hid (Blk wx g 54 #[.int .i64 bn, .int .i64 mn, .int .i64 1, .int .i64 2, .int .i64 3, .int .i64 d]) ∧ Hid (Below w1.heap.size w1 wx))
          case first =>
            go_region_held3 (fun w' => w'.cell? ⟨b, o, none⟩ = some (.string s0)) (first | (with_reducible assumption) | (refine KS.out _ ?_; (repeat (first | (with_reducible exact Below.refl _ _) | (with_reducible exact KB.out) | (with_reducible refine Below.drew ?_) | ((with_reducible refine Below.setCell ?_ ?_ _); rotate_left; (first | exact Nat.le_refl _ | omega | (simp; done) | (simp; omega))) | ((with_reducible refine Below.alloc ?_ ?_ _); rotate_left; (first | exact Nat.le_refl _ | omega | (simp; done) | (simp; omega)))))))
              (first
                | (go_at_call 62; with_reducible refine (C1.out _).mono ?_; rintro e w' ⟨rfl, rfl⟩)
                | (go_at_call 62; with_reducible refine (C2.out _).mono ?_; rintro e w' ⟨rfl, rfl⟩)
                | (go_at_call 55; with_reducible refine (C3.out _).mono ?_; rintro e w6 ⟨rfl, hb6⟩; have kb : Below w1.heap.size w1 w6 := Below.trans (B := w1.heap.size) (by (repeat (first | (with_reducible exact Below.refl _ _) | (with_reducible exact KB.out) | (with_reducible refine Below.drew ?_) | ((with_reducible refine Below.setCell ?_ ?_ _); rotate_left; (first | exact Nat.le_refl _ | omega | (simp; done) | (simp; omega))) | ((with_reducible refine Below.alloc ?_ ?_ _); rotate_left; (first | exact Nat.le_refl _ | omega | (simp; done) | (simp; omega)))))) (hb6.mono (by first | exact Nat.le_refl _ | (simp; done) | (simp; omega))); have KB := Lib.hid kb; have hz6 : w1.heap.size ≤ w6.heap.size := kb.size; clear kb; have hS6 : w6.cell? ⟨b, o, none⟩ = some (.string s0) := KS.out _ KB.out; (try ((with_reducible have GB := Lib.hid (((Blk.new w1 54 #[.int .i64 0, .int .i64 0, .int .i64 0, .int .i64 0, .int .i64 0, .int .i64 0]).drew).below hb6 (by simp))); have p0 := GB.out.cell 0 (v := .int .i64 0) rfl; have p1 := GB.out.cell 1 (v := .int .i64 0) rfl; have p2 := GB.out.cell 2 (v := .int .i64 0) rfl; have p3 := GB.out.cell 3 (v := .int .i64 0) rfl; have p4 := GB.out.cell 4 (v := .int .i64 0) rfl; have p5 := GB.out.cell 5 (v := .int .i64 0) rfl; have f0 := GB.out.frozen 0; have f1 := GB.out.frozen 1; have f2 := GB.out.frozen 2; have f3 := GB.out.frozen 3; have f4 := GB.out.frozen 4; have f5 := GB.out.frozen 5)); clear hb6))
            all_goals (go_wp2_with fail; go_meet; first | exact ⟨w1.heap.size, rfl, rfl, Lib.hid ((((((GB.out.set_ 0 _).set_ 1 _).set_ 2 _).set_ 3 _).set_ 4 _).set_ 5 _), Lib.hid ((((((KB.out.setCell (Nat.le_refl _) _).setCell (Nat.le_refl _) _).setCell (Nat.le_refl _) _).setCell (Nat.le_refl _) _).setCell (Nat.le_refl _) _).setCell (Nat.le_refl _) _)⟩ | exact ⟨w6.heap.size, rfl, rfl, Lib.hid (Blk.new w6 _ _), Lib.hid (KB.out.alloc hz6 _)⟩)
          case rest =>
            obtain ⟨g6, rfl, rfl, G6, B6⟩ := hcut
            have G2 := Lib.hid (G2.out.below B6.out G2.out.lt)
            have B := Lib.hid (B.out.trans (B6.out.mono B.out.size))
            have HCW := Lib.hid (KS.out _ B6.out)
            have HR2 := Lib.hid ((HR.out.below B.out).mono B.out.size)
            clear KS hcw u0 C1 C2 C3
            have v0 : ∀ u : Ext wc, u.val.cell? ⟨b, o, none⟩ = some (.string s0) := fun u => u.cell HCW.out
            have x0 : ∀ u : Ext wc, u.val.cell? ⟨g6, 0, none⟩ = some (.int .i64 bn) := fun u => u.cell (G6.out.cell 0 rfl)
            have x1 : ∀ u : Ext wc, u.val.cell? ⟨g6, 1, none⟩ = some (.int .i64 mn) := fun u => u.cell (G6.out.cell 1 rfl)
            have x2 : ∀ u : Ext wc, u.val.cell? ⟨g6, 2, none⟩ = some (.int .i64 1) := fun u => u.cell (G6.out.cell 2 rfl)
            have x3 : ∀ u : Ext wc, u.val.cell? ⟨g6, 3, none⟩ = some (.int .i64 2) := fun u => u.cell (G6.out.cell 3 rfl)
            have x4 : ∀ u : Ext wc, u.val.cell? ⟨g6, 4, none⟩ = some (.int .i64 3) := fun u => u.cell (G6.out.cell 4 rfl)
            have x5 : ∀ u : Ext wc, u.val.cell? ⟨g6, 5, none⟩ = some (.int .i64 d) := fun u => u.cell (G6.out.cell 5 rfl)
            have C4 : Hid (∀ w, Calls Tryz.prog 57 #[.agg #[.int .i64 bn, .int .i64 mn, .int .i64 1, .int .i64 2, .int .i64 3, .int .i64 d]] w fun e w' => e = .returned (.string (headB bn mn)) ∧ Below w.heap.size w w') := fun w => first_any bn mn 1 2 3 d w (by omega) (by omega)
            by_cases hlen : bn = xs.length
            case neg =>
              have HO := Lib.hid (show ofR xs = none from ofR_none.2 fun hv => hlen (by rw [← HBN.out, vol_blo hv]))
              have t1 : ((bn : Int) != (xs.length : Int)) = true := by simp; omega
              clear hlen
              go_upto_region 10 with fail
              refine wp_region_ext (by kernel_rfl) (by kernel_rfl) ?_
              repeat (go_big_quiet_step (fail))
              refine wpQuiet_nil ?_
              rintro _ ⟨u, rfl⟩
              have G2 := Lib.hid (G2.out.below u.below G2.out.lt)
              have B := Lib.hid (B.out.trans (u.below.mono B.out.size))
              clear v0 x0 x1 x2 x3 x4 x5
              generalize u.val = w7 at G2 B
              have p0 : w7.cell? ⟨w.heap.size, 0, none⟩ = some (.int .i64 0) := G2.out.cell 0 rfl
              have f0 : w7.frozen? ⟨w.heap.size, 0, none⟩ = false := G2.out.frozen 0
              have p1 : w7.cell? ⟨w.heap.size, 1, none⟩ = some (.int .i64 0) := G2.out.cell 1 rfl
              have f1 : w7.frozen? ⟨w.heap.size, 1, none⟩ = false := G2.out.frozen 1
              have p2 : w7.cell? ⟨w.heap.size, 2, none⟩ = some (.int .i64 0) := G2.out.cell 2 rfl
              have f2 : w7.frozen? ⟨w.heap.size, 2, none⟩ = false := G2.out.frozen 2
              have p3 : w7.cell? ⟨w.heap.size, 3, none⟩ = some (.int .i64 0) := G2.out.cell 3 rfl
              have f3 : w7.frozen? ⟨w.heap.size, 3, none⟩ = false := G2.out.frozen 3
              have p4 : w7.cell? ⟨w.heap.size, 4, none⟩ = some (.int .i64 0) := G2.out.cell 4 rfl
              have f4 : w7.frozen? ⟨w.heap.size, 4, none⟩ = false := G2.out.frozen 4
              have p5 : w7.cell? ⟨w.heap.size, 5, none⟩ = some (.int .i64 0) := G2.out.cell 5 rfl
              have f5 : w7.frozen? ⟨w.heap.size, 5, none⟩ = false := G2.out.frozen 5
              go_wp2
              refine bodyPost_ret (results_ct rfl rfl rfl ((((((G2.out.set_ 0 _).set_ 1 _).set_ 2 _).set_ 3 _).set_ 4 _).set_ 5 _) Tryz.underlying54 rfl (by kernel_rfl)) rfl ?_
              exact of_none HO.out (((((((B.out.setCell (Nat.le_refl _) _).setCell (Nat.le_refl _) _).setCell (Nat.le_refl _) _).setCell (Nat.le_refl _) _).setCell (Nat.le_refl _) _).setCell (Nat.le_refl _) _))
            have HLEN := Lib.hid hlen
            have t1 : ((bn : Int) != (xs.length : Int)) = false := by simp; omega
            clear hlen
            by_cases hfi : s0 = headB bn mn
            case neg =>
              have HO := Lib.hid (show ofR xs = none from ofR_none.2 fun hv => hfi (by rw [← HS0.out, hv.2.2.1, HMN.out, HLEN.out]))
              have t2 := str_ne hfi
              clear hfi
              go_upto_region 10 with fail
              refine wp_region_ext (by kernel_rfl) (by kernel_rfl) ?_
              repeat (go_big_quiet_step (first
                | (go_at_call 57; with_reducible exact Ext.call (C4.out _))))
              refine wpQuiet_nil ?_
              rintro _ ⟨u, rfl⟩
              have G2 := Lib.hid (G2.out.below u.below G2.out.lt)
              have B := Lib.hid (B.out.trans (u.below.mono B.out.size))
              clear v0 x0 x1 x2 x3 x4 x5
              generalize u.val = w7 at G2 B
              have p0 : w7.cell? ⟨w.heap.size, 0, none⟩ = some (.int .i64 0) := G2.out.cell 0 rfl
              have f0 : w7.frozen? ⟨w.heap.size, 0, none⟩ = false := G2.out.frozen 0
              have p1 : w7.cell? ⟨w.heap.size, 1, none⟩ = some (.int .i64 0) := G2.out.cell 1 rfl
              have f1 : w7.frozen? ⟨w.heap.size, 1, none⟩ = false := G2.out.frozen 1
              have p2 : w7.cell? ⟨w.heap.size, 2, none⟩ = some (.int .i64 0) := G2.out.cell 2 rfl
              have f2 : w7.frozen? ⟨w.heap.size, 2, none⟩ = false := G2.out.frozen 2
              have p3 : w7.cell? ⟨w.heap.size, 3, none⟩ = some (.int .i64 0) := G2.out.cell 3 rfl
              have f3 : w7.frozen? ⟨w.heap.size, 3, none⟩ = false := G2.out.frozen 3
              have p4 : w7.cell? ⟨w.heap.size, 4, none⟩ = some (.int .i64 0) := G2.out.cell 4 rfl
              have f4 : w7.frozen? ⟨w.heap.size, 4, none⟩ = false := G2.out.frozen 4
              have p5 : w7.cell? ⟨w.heap.size, 5, none⟩ = some (.int .i64 0) := G2.out.cell 5 rfl
              have f5 : w7.frozen? ⟨w.heap.size, 5, none⟩ = false := G2.out.frozen 5
              go_wp2
              refine bodyPost_ret (results_ct rfl rfl rfl ((((((G2.out.set_ 0 _).set_ 1 _).set_ 2 _).set_ 3 _).set_ 4 _).set_ 5 _) Tryz.underlying54 rfl (by kernel_rfl)) rfl ?_
              exact of_none HO.out (((((((B.out.setCell (Nat.le_refl _) _).setCell (Nat.le_refl _) _).setCell (Nat.le_refl _) _).setCell (Nat.le_refl _) _).setCell (Nat.le_refl _) _).setCell (Nat.le_refl _) _))
            have HFI := Lib.hid hfi
            have t2 : (!s0.toList == (headB bn mn).toList) = false := by rw [hfi]; simp
            clear hfi
            go_upto_region 10 with fail
            refine wp_region_ext (by kernel_rfl) (by kernel_rfl) ?_
            repeat (go_big_quiet_step (first
              | (go_at_call 57; with_reducible exact Ext.call (C4.out _))))
            refine wpQuiet_nil ?_
            rintro _ ⟨u, rfl⟩
            have G2 := Lib.hid (G2.out.below u.below G2.out.lt)
            have G6 := Lib.hid (G6.out.below u.below G6.out.lt)
            have HR3 := Lib.hid ((HR2.out.below u.below).mono u.below.size)
            have B := Lib.hid (B.out.trans (u.below.mono B.out.size))
            clear v0 x0 x1 x2 x3 x4 x5 t1 t2
            generalize u.val = w7 at G2 B G6 HR3
            have C5 : Hid (∀ i : Nat, i < 1024 → Calls Tryz.prog 85 #[.slice (some ⟨b, o, none⟩) xs.length c, .int .i64 i] w7 fun e w' => e = .returned (.bool (bitL (blkL xs 2) i)) ∧ w7 = w') := fun i hi => bit_any _ c xs i w7 (by omega) hx (by rw [getD_eq xs 2 (by omega)]; exact HS.out 2 (by omega)) hi HR3.out
            have p0 : w7.cell? ⟨w.heap.size, 0, none⟩ = some (.int .i64 0) := G2.out.cell 0 rfl
            have f0 : w7.frozen? ⟨w.heap.size, 0, none⟩ = false := G2.out.frozen 0
            have p1 : w7.cell? ⟨w.heap.size, 1, none⟩ = some (.int .i64 0) := G2.out.cell 1 rfl
            have f1 : w7.frozen? ⟨w.heap.size, 1, none⟩ = false := G2.out.frozen 1
            have p2 : w7.cell? ⟨w.heap.size, 2, none⟩ = some (.int .i64 0) := G2.out.cell 2 rfl
            have f2 : w7.frozen? ⟨w.heap.size, 2, none⟩ = false := G2.out.frozen 2
            have p3 : w7.cell? ⟨w.heap.size, 3, none⟩ = some (.int .i64 0) := G2.out.cell 3 rfl
            have f3 : w7.frozen? ⟨w.heap.size, 3, none⟩ = false := G2.out.frozen 3
            have p4 : w7.cell? ⟨w.heap.size, 4, none⟩ = some (.int .i64 0) := G2.out.cell 4 rfl
            have f4 : w7.frozen? ⟨w.heap.size, 4, none⟩ = false := G2.out.frozen 4
            have p5 : w7.cell? ⟨w.heap.size, 5, none⟩ = some (.int .i64 0) := G2.out.cell 5 rfl
            have f5 : w7.frozen? ⟨w.heap.size, 5, none⟩ = false := G2.out.frozen 5
            have y0 : w7.cell? ⟨g6, 0, none⟩ = some (.int .i64 bn) := G6.out.cell 0 rfl
            have y5 : w7.cell? ⟨g6, 5, none⟩ = some (.int .i64 d) := G6.out.cell 5 rfl
            go_wp2
            go_loop [59] (fun i => ∃ k : Nat, k ≤ 1024 ∧ i = .int .i64 k ∧ Hid (∀ j, j < k → (j < d → bitL (blkL xs 2) j = true) ∧ (bn ≤ j → bitL (blkL xs 2) j = false))) (fun i => 1024 - (intOf i).toNat)
            case atStart => exact ⟨0, by omega, rfl, fun j hj => by omega⟩
            case round =>
              obtain ⟨k, hk, rfl, HK⟩ := hrel
              by_cases hlt2 : k < 1024
              · go_wp2_with fail
                refine (C5.out k hlt2).mono ?_
                rintro e w' ⟨rfl, rfl⟩
                cases hbit : bitL (blkL xs 2) k with
                | false =>
                  by_cases hkd : k < d
                  · have HO := Lib.hid (or_bad (xs := xs) hlt2 (.inl ⟨by rw [HMN.out, HD.out]; exact hkd, hbit⟩))
                    have s1 : decide (k < d) = true := by simpa using hkd
                    clear hbit
                    go_wp2
                    refine bodyPost_ret (results_ct rfl rfl rfl ((((((G2.out.set_ 0 _).set_ 1 _).set_ 2 _).set_ 3 _).set_ 4 _).set_ 5 _) Tryz.underlying54 rfl (by kernel_rfl)) rfl ?_
                    exact of_none HO.out (((((((B.out.setCell (Nat.le_refl _) _).setCell (Nat.le_refl _) _).setCell (Nat.le_refl _) _).setCell (Nat.le_refl _) _).setCell (Nat.le_refl _) _).setCell (Nat.le_refl _) _))
                  · have s1 : decide (k < d) = false := by simpa using hkd
                    have HBT := Lib.hid hbit
                    clear hbit
                    by_cases hkb : bn ≤ k
                    all_goals
                      go_wp2
                      go_round
                      case rel => exact ⟨k + 1, by omega, by go_num, fun j hj => by
                        by_cases e : j = k
                        · subst e; exact ⟨fun h => absurd h (by omega), fun _ => HBT.out⟩
                        · exact HK.out j (by omega)⟩
                      case measure => simp [intOf]; omega
                | true =>
                  have HBT := Lib.hid hbit
                  clear hbit
                  by_cases hkb : bn ≤ k
                  · have HO := Lib.hid (or_bad (xs := xs) hlt2 (.inr ⟨by rw [← HLEN.out]; exact hkb, HBT.out⟩))
                    have s1 : decide (k < d) = false := by have := HP.out; simp; omega
                    have s2 : decide (bn ≤ k) = true := by simpa using hkb
                    go_wp2
                    refine bodyPost_ret (results_ct rfl rfl rfl ((((((G2.out.set_ 0 _).set_ 1 _).set_ 2 _).set_ 3 _).set_ 4 _).set_ 5 _) Tryz.underlying54 rfl (by kernel_rfl)) rfl ?_
                    exact of_none HO.out (((((((B.out.setCell (Nat.le_refl _) _).setCell (Nat.le_refl _) _).setCell (Nat.le_refl _) _).setCell (Nat.le_refl _) _).setCell (Nat.le_refl _) _).setCell (Nat.le_refl _) _))
                  · have s2 : decide (bn ≤ k) = false := by simpa using hkb
                    by_cases hkd : k < d
                    all_goals
                      go_wp2
                      go_round
                      case rel => exact ⟨k + 1, by omega, by go_num, fun j hj => by
                        by_cases e : j = k
                        · subst e; exact ⟨fun _ => HBT.out, fun h => absurd h (by omega)⟩
                        · exact HK.out j (by omega)⟩
                      case measure => simp [intOf]; omega
              · have HO : Hid (ofR xs = some mn) := ofR_some.2 ⟨HN.out, by rw [← HLEN.out]; exact HPL.out, by rw [HS0.out, HFI.out, HLEN.out], by
                  rw [bitsOk_iff, HD.out, ← HLEN.out]
                  intro i hi
                  exact HK.out i (by omega)⟩
                have y1 : w7.cell? ⟨g6, 1, none⟩ = some (.int .i64 mn) := G6.out.cell 1 rfl
                have y2 : w7.cell? ⟨g6, 2, none⟩ = some (.int .i64 1) := G6.out.cell 2 rfl
                have y3 : w7.cell? ⟨g6, 3, none⟩ = some (.int .i64 2) := G6.out.cell 3 rfl
                have y4 : w7.cell? ⟨g6, 4, none⟩ = some (.int .i64 3) := G6.out.cell 4 rfl
                go_wp2
                refine bodyPost_ret (results_ct rfl rfl rfl ((((((G2.out.set_ 0 _).set_ 1 _).set_ 2 _).set_ 3 _).set_ 4 _).set_ 5 _) Tryz.underlying54 rfl (by kernel_rfl)) rfl ?_
                unfold OfPost
                rw [HO.out, ← HLEN.out]
                unfold ofE
                dsimp only
                rw [HD.out]
                exact ⟨rfl, (((((((B.out.setCell (Nat.le_refl _) _).setCell (Nat.le_refl _) _).setCell (Nat.le_refl _) _).setCell (Nat.le_refl _) _).setCell (Nat.le_refl _) _).setCell (Nat.le_refl _) _))⟩
end Go.Proofs.YtoanladhikdcaaaGreat
