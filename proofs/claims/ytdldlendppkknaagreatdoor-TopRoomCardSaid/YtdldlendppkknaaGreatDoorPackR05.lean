/-
  Contracts and plain laws: GeomOf, GeomT, GeomU.
-/
import Derived.Deep.RegionHeld3
import Derived.Deep.DeepCutAuto
import Derived.RegionTactic
import Derived.BigRegion
import Derived.Test.YtdldlendppkknaaGreatDoorPackR01
import Derived.Test.YtdldlendppkknaaGreatDoorPackR03
namespace Go.Proofs.YtdldlendppkknaaGreatDoor
open Go.RowKit
set_option linter.unusedVariables false
set_option linter.unusedSimpArgs false
set_option maxRecDepth 100000
def bloN (xs : List ByteArray) : Nat := leN (((blkL xs 0).drop 4).take 2)
theorem leN_two (l : List UInt8) : leN (l.take 2) < 65536 := by
 have h := leN_lt (l.take 2)
 have h2 : (l.take 2).length ≤ 2 := by simp; omega
 have h3 : 256 ^ (l.take 2).length ≤ 256 ^ 2 := Nat.pow_le_pow_right (by omega) h2
 omega
theorem vol_blo {xs : List ByteArray} {m : Nat} (h : IsVol xs m) : bloN xs = xs.length := by
 have hl := h.len
 unfold bloN blkL
 rw [h.2.2.1]
 show leN (((headL xs.length m).toArray.toList.drop 4).take 2) = _
 rw [List.toList_toArray, head_blocks _ _ (by omega)]
theorem get_two (s : ByteArray) (k : Nat) (w : World) (hk : k + 2 ≤ s.size) (hs : s.size ≤ 1000000) : Calls Tryz.prog 52 #[.string (s.extract k (k + 2))] w fun e w' => e = .returned (.int .u64 (leN ((s.data.toList.drop k).take 2))) ∧ w = w' := by
 refine (get_any _ w (by simp [ByteArray.size_extract]; omega)).mono ?_
 rintro e w' ⟨rfl, rfl⟩
 refine ⟨?_, rfl⟩
 rw [Lib.extract_data, show k + 2 - k = 2 by omega, List.take_take]; rfl
theorem or_bad {xs : List ByteArray} {i : Nat} (hi : i < 1024) (h : i < dataN (inoN xs) ∧ bitL (blkL xs 2) i = false ∨ xs.length ≤ i ∧ bitL (blkL xs 2) i = true) : ofR xs = none := by
 apply ofR_none.2
 intro hv
 have := bitsOk_iff.1 hv.2.2.2 i hi
 rcases h with ⟨a, b⟩ | ⟨a, b⟩
 ·rw [this.1 a] at b; cases b
 ·rw [this.2 a] at b; cases b
set_option maxHeartbeats 8000000 in
theorem of_good (A : Option Addr) (c : Nat) (xs : List ByteArray) (w : World) (hx : xs.length ≤ 1000000) (h : RowAt w w.heap.size A (xs.map .string)) (hn : ∀ s ∈ xs, s.size = 128) :
  Calls Tryz.prog 17 #[.slice A xs.length c] w (OfPost xs w) := by
 have HR := Lib.hid h
 have HN := Lib.hid hn
 have HS : Hid (∀ j (hj : j < xs.length), xs[j].size = 128) := fun j hj => HN.out _ (List.getElem_mem hj)
 have HB := Lib.hid (fun (o : Obj) => (Below.refl w.heap.size w).alloc (Nat.le_refl _) o)
 clear h hn
 go_enter Tryz.func17, Tryz.ntmps17
 go_wp2
 go_loop [12] (fun i => ∃ k : Nat, k ≤ xs.length ∧ i = .int .i64 k) (fun i => xs.length - (intOf i).toNat)
 case atStart => exact ⟨0, Nat.zero_le _, rfl⟩
 case round =>
  obtain ⟨k, hk, rfl⟩ := hrel
  by_cases hlt : k < xs.length
  ·obtain ⟨b, o, rfl, hb, hc⟩ := row_get HR.out k hlt
   rw [getD_eq xs k hlt] at hc
   have hc1 : (w.alloc (.cells #[.int .i64 0, .int .i64 0, .int .i64 0, .int .i64 0, .int .i64 0, .int .i64 0] 51)).cell? ⟨b, o + k, none⟩ = some (.string xs[k]) := ((HB.out _).cell (p := ⟨b, o + k, none⟩) hb).trans hc
   have h1 : ((xs[k].size : Int) != 128) = false := by simp [HS.out k hlt]
   clear hc
   go_wp2
   go_round
   case rel => exact ⟨k + 1, by omega, by go_num⟩
   case measure => simp [intOf]; omega
  ·generalize hw1 : w.alloc _ = w1
   have G2 : Hid (Blk w1 w.heap.size 51 #[.int .i64 0, .int .i64 0, .int .i64 0, .int .i64 0, .int .i64 0, .int .i64 0]) := hw1 ▸ Blk.new _ _ _
   have B : Hid (Below w.heap.size w w1) := hw1 ▸ HB.out _
   clear hw1 HB
   by_cases h16 : xs.length < 16
   ·have HO := Lib.hid (show ofR xs = none from ofR_none.2 fun hv => by have := hv.len; omega)
    have h16' : (xs.length : Int) < 16 := by omega
    have p0 : w1.cell? ⟨w.heap.size, 0, none⟩ = some (.int .i64 0) := G2.out.cell 0 rfl
    have f0 : w1.frozen? ⟨w.heap.size, 0, none⟩ = false := G2.out.frozen 0
    have p1 : w1.cell? ⟨w.heap.size, 1, none⟩ = some (.int .i64 0) := G2.out.cell 1 rfl
    have f1 : w1.frozen? ⟨w.heap.size, 1, none⟩ = false := G2.out.frozen 1
    have p2 : w1.cell? ⟨w.heap.size, 2, none⟩ = some (.int .i64 0) := G2.out.cell 2 rfl
    have f2 : w1.frozen? ⟨w.heap.size, 2, none⟩ = false := G2.out.frozen 2
    have p3 : w1.cell? ⟨w.heap.size, 3, none⟩ = some (.int .i64 0) := G2.out.cell 3 rfl
    have f3 : w1.frozen? ⟨w.heap.size, 3, none⟩ = false := G2.out.frozen 3
    have p4 : w1.cell? ⟨w.heap.size, 4, none⟩ = some (.int .i64 0) := G2.out.cell 4 rfl
    have f4 : w1.frozen? ⟨w.heap.size, 4, none⟩ = false := G2.out.frozen 4
    have p5 : w1.cell? ⟨w.heap.size, 5, none⟩ = some (.int .i64 0) := G2.out.cell 5 rfl
    have f5 : w1.frozen? ⟨w.heap.size, 5, none⟩ = false := G2.out.frozen 5
    go_wp2
    refine bodyPost_ret (results_ct rfl rfl rfl ((((((G2.out.set_ 0 _).set_ 1 _).set_ 2 _).set_ 3 _).set_ 4 _).set_ 5 _) Tryz.underlying51 rfl (by kernel_rfl)) rfl ?_
    exact of_none HO.out (((((((B.out.setCell (Nat.le_refl _) _).setCell (Nat.le_refl _) _).setCell (Nat.le_refl _) _).setCell (Nat.le_refl _) _).setCell (Nat.le_refl _) _).setCell (Nat.le_refl _) _))
   ·have h16' : ¬ (xs.length : Int) < 16 := by omega
    obtain ⟨b, o, rfl, hb, hc0⟩ := row_get HR.out 0 (by omega)
    obtain ⟨_, _, e2, _, hc2⟩ := row_get HR.out 2 (by omega)
    cases e2
    have hS0 := HS.out 0 (by omega)
    have HE0 : Hid (blkL xs 0 = (xs.getD 0 ⟨#[]⟩).data.toList) := rfl
    rw [← getD_eq xs 0 (by omega)] at hS0
    generalize hs0 : xs.getD 0 ⟨#[]⟩ = s0 at hS0 hc0 HE0
    rw [Nat.add_zero] at hc0
    have HS0 := Lib.hid hs0
    have z0 : (6 : Int) ≤ (s0.size : Int) := by omega
    have z1 : (8 : Int) ≤ (s0.size : Int) := by omega
    have z2 : (0 : Int) < (xs.length : Int) := by omega
    have z3 : 0 < xs.length := by omega
    have z4 : ¬ xs = [] := by rintro rfl; simp at z3
    obtain ⟨bn, hbn⟩ : ∃ n, bloN xs = n := ⟨_, rfl⟩
    obtain ⟨mn, hmn⟩ : ∃ n, inoN xs = n := ⟨_, rfl⟩
    have c1 : ∀ w, Calls Tryz.prog 52 #[.string (s0.extract 4 6)] w fun e w' => e = .returned (.int .u64 bn) ∧ w = w' := fun w => by
     rw [← hbn]; unfold bloN; rw [HE0.out]; exact get_two s0 4 w (by omega) (by omega)
    have c2 : ∀ w, Calls Tryz.prog 52 #[.string (s0.extract 6 8)] w fun e w' => e = .returned (.int .u64 mn) ∧ w = w' := fun w => by
     rw [← hmn]; unfold inoN; rw [HE0.out]; exact get_two s0 6 w (by omega) (by omega)
    have hb6 : bn < 65536 := by rw [← hbn]; exact leN_two _
    have hm6 : mn < 65536 := by rw [← hmn]; exact leN_two _
    have wr1 : IntKind.i64.wrap (bn : Int) = (bn : Int) := IntWalk.i64_in _ (by omega)
    have wr2 : IntKind.i64.wrap (mn : Int) = (mn : Int) := IntWalk.i64_in _ (by omega)
    have HBN := Lib.hid hbn
    have HMN := Lib.hid hmn
    have C1 := Lib.hid c1
    have C2 := Lib.hid c2
    have hbw : b < w1.heap.size := Nat.lt_of_lt_of_le hb B.out.size
    have HC0 : Hid (w1.cell? ⟨b, o, none⟩ = some (.string s0)) := (B.out.cell (p := ⟨b, o, none⟩) hb).trans hc0
    have u0 : ∀ u : Ext w1, u.val.cell? ⟨b, o, none⟩ = some (.string s0) := fun u => u.cell HC0.out
    have KS : Hid (∀ w', Below w1.heap.size w1 w' → w'.cell? ⟨b, o, none⟩ = some (.string s0)) := fun w' hb' => (hb'.cell (p := ⟨b, o, none⟩) hbw).trans HC0.out
    have hcw := HC0.out
    clear c1 c2 hbn hmn hs0 hc0 hc2
    by_cases hpl : planE (bn : Int) (mn : Int) = 0
    case neg =>
     have HO := Lib.hid (show ofR xs = none from ofR_none.2 fun hv => hpl (by
      rw [← HBN.out, vol_blo hv, ← HMN.out]; exact hv.2.1))
     obtain ⟨pe, hpe⟩ : ∃ e, planE (bn : Int) (mn : Int) = e := ⟨_, rfl⟩
     have c3 : ∀ w, Calls Tryz.prog 51 #[.int .i64 bn, .int .i64 mn] w fun e w' => e = .returned (.tuple #[.agg #[.int .i64 0, .int .i64 0, .int .i64 0, .int .i64 0, .int .i64 0, .int .i64 0], .int .i64 pe]) ∧ Below w.heap.size w w' := fun w => by
      refine (plan_any bn mn w).mono ?_
      rintro e w' ⟨rfl, hb⟩
      refine ⟨?_, hb⟩
      unfold planC
      rw [if_neg hpl, hpe]; rfl
     have C3 := Lib.hid c3
     have hpe' : (pe != 0) = true := by rw [hpe] at hpl; simpa using hpl
     clear c3 hpe hpl
     go_upto_region 9 with fail
     go_cut [6, 7] (fun s6 s7 wx => ∃ g : Nat, s6 = .pointer (some ⟨g, 0, none⟩) ∧ s7 = .int .i64 pe ∧ Hid (Blk wx g 51 #[.int .i64 0, .int .i64 0, .int .i64 0, .int .i64 0, .int .i64 0, .int .i64 0]) ∧ Hid (Below w1.heap.size w1 wx))
     case first =>
      go_region_held3 (fun w' => w'.cell? ⟨b, o, none⟩ = some (.string s0)) (first | (with_reducible assumption) | (refine KS.out _ ?_; (repeat (first | (with_reducible exact Below.refl _ _) | (with_reducible exact KB.out) | (with_reducible refine Below.drew ?_) | ((with_reducible refine Below.setCell ?_ ?_ _); rotate_left; (first | exact Nat.le_refl _ | omega | (simp; done) | (simp; omega))) | ((with_reducible refine Below.alloc ?_ ?_ _); rotate_left; (first | exact Nat.le_refl _ | omega | (simp; done) | (simp; omega)))))))
       (first
        | (go_at_call 52; with_reducible refine (C1.out _).mono ?_; rintro e w' ⟨rfl, rfl⟩)
        | (go_at_call 52; with_reducible refine (C2.out _).mono ?_; rintro e w' ⟨rfl, rfl⟩)
        | (go_at_call 51; with_reducible refine (C3.out _).mono ?_; rintro e w6 ⟨rfl, hb6⟩; have kb : Below w1.heap.size w1 w6 := Below.trans (B := w1.heap.size) (by (repeat (first | (with_reducible exact Below.refl _ _) | (with_reducible exact KB.out) | (with_reducible refine Below.drew ?_) | ((with_reducible refine Below.setCell ?_ ?_ _); rotate_left; (first | exact Nat.le_refl _ | omega | (simp; done) | (simp; omega))) | ((with_reducible refine Below.alloc ?_ ?_ _); rotate_left; (first | exact Nat.le_refl _ | omega | (simp; done) | (simp; omega)))))) (hb6.mono (by first | exact Nat.le_refl _ | (simp; done) | (simp; omega))); have KB := Lib.hid kb; have hz6 : w1.heap.size ≤ w6.heap.size := kb.size; clear kb; have hS6 : w6.cell? ⟨b, o, none⟩ = some (.string s0) := KS.out _ KB.out; (try ((with_reducible have GB := Lib.hid (((Blk.new w1 51 #[.int .i64 0, .int .i64 0, .int .i64 0, .int .i64 0, .int .i64 0, .int .i64 0]).drew).below hb6 (by simp))); have p0 := GB.out.cell 0 (v := .int .i64 0) rfl; have p1 := GB.out.cell 1 (v := .int .i64 0) rfl; have p2 := GB.out.cell 2 (v := .int .i64 0) rfl; have p3 := GB.out.cell 3 (v := .int .i64 0) rfl; have p4 := GB.out.cell 4 (v := .int .i64 0) rfl; have p5 := GB.out.cell 5 (v := .int .i64 0) rfl; have f0 := GB.out.frozen 0; have f1 := GB.out.frozen 1; have f2 := GB.out.frozen 2; have f3 := GB.out.frozen 3; have f4 := GB.out.frozen 4; have f5 := GB.out.frozen 5)); clear hb6))
      all_goals (go_wp2_with fail; go_meet; first | exact ⟨w1.heap.size, rfl, rfl, Lib.hid ((((((GB.out.set_ 0 _).set_ 1 _).set_ 2 _).set_ 3 _).set_ 4 _).set_ 5 _), Lib.hid ((((((KB.out.setCell (Nat.le_refl _) _).setCell (Nat.le_refl _) _).setCell (Nat.le_refl _) _).setCell (Nat.le_refl _) _).setCell (Nat.le_refl _) _).setCell (Nat.le_refl _) _)⟩ | exact ⟨w6.heap.size, rfl, rfl, Lib.hid (Blk.new w6 _ _), Lib.hid (KB.out.alloc hz6 _)⟩)
     case rest =>
      obtain ⟨g6, rfl, rfl, G6, B6⟩ := hcut
      have G2 := Lib.hid (G2.out.below B6.out G2.out.lt)
      have B := Lib.hid (B.out.trans (B6.out.mono B.out.size))
      clear KS hcw u0 C1 C2 C3
      go_upto_region 10 with fail
      refine wp_region_ext (by kernel_rfl) (by kernel_rfl) ?_
      repeat (go_big_quiet_step (fail))
      refine wpQuiet_nil ?_
      rintro _ ⟨u, rfl⟩
      have G2 := Lib.hid (G2.out.below u.below G2.out.lt)
      have B := Lib.hid (B.out.trans (u.below.mono B.out.size))
      generalize u.val = w7 at G2 B
      have p0 : w7.cell? ⟨w.heap.size, 0, none⟩ = some (.int .i64 0) := G2.out.cell 0 rfl
      have f0 : w7.frozen? ⟨w.heap.size, 0, none⟩ = false := G2.out.frozen 0
      have p1 : w7.cell? ⟨w.heap.size, 1, none⟩ = some (.int .i64 0) := G2.out.cell 1 rfl
      have f1 : w7.frozen? ⟨w.heap.size, 1, none⟩ = false := G2.out.frozen 1
      have p2 : w7.cell? ⟨w.heap.size, 2, none⟩ = some (.int .i64 0) := G2.out.cell 2 rfl
      have f2 : w7.frozen? ⟨w.heap.size, 2, none⟩ = false := G2.out.frozen 2
      have p3 : w7.cell? ⟨w.heap.size, 3, none⟩ = some (.int .i64 0) := G2.out.cell 3 rfl
      have f3 : w7.frozen? ⟨w.heap.size, 3, none⟩ = false := G2.out.frozen 3
      have p4 : w7.cell? ⟨w.heap.size, 4, none⟩ = some (.int .i64 0) := G2.out.cell 4 rfl
      have f4 : w7.frozen? ⟨w.heap.size, 4, none⟩ = false := G2.out.frozen 4
      have p5 : w7.cell? ⟨w.heap.size, 5, none⟩ = some (.int .i64 0) := G2.out.cell 5 rfl
      have f5 : w7.frozen? ⟨w.heap.size, 5, none⟩ = false := G2.out.frozen 5
      go_wp2
      refine bodyPost_ret (results_ct rfl rfl rfl ((((((G2.out.set_ 0 _).set_ 1 _).set_ 2 _).set_ 3 _).set_ 4 _).set_ 5 _) Tryz.underlying51 rfl (by kernel_rfl)) rfl ?_
      exact of_none HO.out (((((((B.out.setCell (Nat.le_refl _) _).setCell (Nat.le_refl _) _).setCell (Nat.le_refl _) _).setCell (Nat.le_refl _) _).setCell (Nat.le_refl _) _).setCell (Nat.le_refl _) _))
    case pos =>
     have HPL := Lib.hid hpl
     have hp := planE_iff.1 hpl
     obtain ⟨d, hd⟩ : ∃ d : Nat, dataN mn = d := ⟨_, rfl⟩
     have hdi : (3 : Int) + ((mn : Int) + 1) / 2 = (d : Int) := by unfold dataN at hd; omega
     have c3 : ∀ w, Calls Tryz.prog 51 #[.int .i64 bn, .int .i64 mn] w fun e w' => e = .returned (.tuple #[.agg #[.int .i64 bn, .int .i64 mn, .int .i64 1, .int .i64 2, .int .i64 3, .int .i64 d], .int .i64 0]) ∧ Below w.heap.size w w' := fun w => by
      refine (plan_any bn mn w).mono ?_
      rintro e w' ⟨rfl, hb⟩
      refine ⟨?_, hb⟩
      unfold planC geomC
      rw [if_pos hpl, hpl, hdi]
     have C3 := Lib.hid c3
     have HD := Lib.hid hd
     rw [hd] at hp
     have HP := Lib.hid hp
     clear c3 hpl hd hdi hp
     go_upto_region 9 with fail
     go_cut [6, 7] (fun s6 s7 wx => ∃ g : Nat, s6 = .pointer (some ⟨g, 0, none⟩) ∧ s7 = .int .i64 0 ∧ Hid (Blk wx g 51 #[.int .i64 bn, .int .i64 mn, .int .i64 1, .int .i64 2, .int .i64 3, .int .i64 d]) ∧ Hid (Below w1.heap.size w1 wx))
     case first =>
      go_region_held3 (fun w' => w'.cell? ⟨b, o, none⟩ = some (.string s0)) (first | (with_reducible assumption) | (refine KS.out _ ?_; (repeat (first | (with_reducible exact Below.refl _ _) | (with_reducible exact KB.out) | (with_reducible refine Below.drew ?_) | ((with_reducible refine Below.setCell ?_ ?_ _); rotate_left; (first | exact Nat.le_refl _ | omega | (simp; done) | (simp; omega))) | ((with_reducible refine Below.alloc ?_ ?_ _); rotate_left; (first | exact Nat.le_refl _ | omega | (simp; done) | (simp; omega)))))))
       (first
        | (go_at_call 52; with_reducible refine (C1.out _).mono ?_; rintro e w' ⟨rfl, rfl⟩)
        | (go_at_call 52; with_reducible refine (C2.out _).mono ?_; rintro e w' ⟨rfl, rfl⟩)
        | (go_at_call 51; with_reducible refine (C3.out _).mono ?_; rintro e w6 ⟨rfl, hb6⟩; have kb : Below w1.heap.size w1 w6 := Below.trans (B := w1.heap.size) (by (repeat (first | (with_reducible exact Below.refl _ _) | (with_reducible exact KB.out) | (with_reducible refine Below.drew ?_) | ((with_reducible refine Below.setCell ?_ ?_ _); rotate_left; (first | exact Nat.le_refl _ | omega | (simp; done) | (simp; omega))) | ((with_reducible refine Below.alloc ?_ ?_ _); rotate_left; (first | exact Nat.le_refl _ | omega | (simp; done) | (simp; omega)))))) (hb6.mono (by first | exact Nat.le_refl _ | (simp; done) | (simp; omega))); have KB := Lib.hid kb; have hz6 : w1.heap.size ≤ w6.heap.size := kb.size; clear kb; have hS6 : w6.cell? ⟨b, o, none⟩ = some (.string s0) := KS.out _ KB.out; (try ((with_reducible have GB := Lib.hid (((Blk.new w1 51 #[.int .i64 0, .int .i64 0, .int .i64 0, .int .i64 0, .int .i64 0, .int .i64 0]).drew).below hb6 (by simp))); have p0 := GB.out.cell 0 (v := .int .i64 0) rfl; have p1 := GB.out.cell 1 (v := .int .i64 0) rfl; have p2 := GB.out.cell 2 (v := .int .i64 0) rfl; have p3 := GB.out.cell 3 (v := .int .i64 0) rfl; have p4 := GB.out.cell 4 (v := .int .i64 0) rfl; have p5 := GB.out.cell 5 (v := .int .i64 0) rfl; have f0 := GB.out.frozen 0; have f1 := GB.out.frozen 1; have f2 := GB.out.frozen 2; have f3 := GB.out.frozen 3; have f4 := GB.out.frozen 4; have f5 := GB.out.frozen 5)); clear hb6))
      all_goals (go_wp2_with fail; go_meet; first | exact ⟨w1.heap.size, rfl, rfl, Lib.hid ((((((GB.out.set_ 0 _).set_ 1 _).set_ 2 _).set_ 3 _).set_ 4 _).set_ 5 _), Lib.hid ((((((KB.out.setCell (Nat.le_refl _) _).setCell (Nat.le_refl _) _).setCell (Nat.le_refl _) _).setCell (Nat.le_refl _) _).setCell (Nat.le_refl _) _).setCell (Nat.le_refl _) _)⟩ | exact ⟨w6.heap.size, rfl, rfl, Lib.hid (Blk.new w6 _ _), Lib.hid (KB.out.alloc hz6 _)⟩)
     case rest =>
      obtain ⟨g6, rfl, rfl, G6, B6⟩ := hcut
      have G2 := Lib.hid (G2.out.below B6.out G2.out.lt)
      have B := Lib.hid (B.out.trans (B6.out.mono B.out.size))
      have HCW := Lib.hid (KS.out _ B6.out)
      have HR2 := Lib.hid ((HR.out.below B.out).mono B.out.size)
      clear KS hcw u0 C1 C2 C3
      have v0 : ∀ u : Ext wc, u.val.cell? ⟨b, o, none⟩ = some (.string s0) := fun u => u.cell HCW.out
      have x0 : ∀ u : Ext wc, u.val.cell? ⟨g6, 0, none⟩ = some (.int .i64 bn) := fun u => u.cell (G6.out.cell 0 rfl)
      have x1 : ∀ u : Ext wc, u.val.cell? ⟨g6, 1, none⟩ = some (.int .i64 mn) := fun u => u.cell (G6.out.cell 1 rfl)
      have x2 : ∀ u : Ext wc, u.val.cell? ⟨g6, 2, none⟩ = some (.int .i64 1) := fun u => u.cell (G6.out.cell 2 rfl)
      have x3 : ∀ u : Ext wc, u.val.cell? ⟨g6, 3, none⟩ = some (.int .i64 2) := fun u => u.cell (G6.out.cell 3 rfl)
      have x4 : ∀ u : Ext wc, u.val.cell? ⟨g6, 4, none⟩ = some (.int .i64 3) := fun u => u.cell (G6.out.cell 4 rfl)
      have x5 : ∀ u : Ext wc, u.val.cell? ⟨g6, 5, none⟩ = some (.int .i64 d) := fun u => u.cell (G6.out.cell 5 rfl)
      have C4 : Hid (∀ w, Calls Tryz.prog 53 #[.agg #[.int .i64 bn, .int .i64 mn, .int .i64 1, .int .i64 2, .int .i64 3, .int .i64 d]] w fun e w' => e = .returned (.string (headB bn mn)) ∧ Below w.heap.size w w') := fun w => first_any bn mn 1 2 3 d w (by omega) (by omega)
      by_cases hlen : bn = xs.length
      case neg =>
       have HO := Lib.hid (show ofR xs = none from ofR_none.2 fun hv => hlen (by rw [← HBN.out, vol_blo hv]))
       have t1 : ((bn : Int) != (xs.length : Int)) = true := by simp; omega
       clear hlen
       go_upto_region 10 with fail
       refine wp_region_ext (by kernel_rfl) (by kernel_rfl) ?_
       repeat (go_big_quiet_step (fail))
       refine wpQuiet_nil ?_
       rintro _ ⟨u, rfl⟩
       have G2 := Lib.hid (G2.out.below u.below G2.out.lt)
       have B := Lib.hid (B.out.trans (u.below.mono B.out.size))
       clear v0 x0 x1 x2 x3 x4 x5
       generalize u.val = w7 at G2 B
       have p0 : w7.cell? ⟨w.heap.size, 0, none⟩ = some (.int .i64 0) := G2.out.cell 0 rfl
       have f0 : w7.frozen? ⟨w.heap.size, 0, none⟩ = false := G2.out.frozen 0
       have p1 : w7.cell? ⟨w.heap.size, 1, none⟩ = some (.int .i64 0) := G2.out.cell 1 rfl
       have f1 : w7.frozen? ⟨w.heap.size, 1, none⟩ = false := G2.out.frozen 1
       have p2 : w7.cell? ⟨w.heap.size, 2, none⟩ = some (.int .i64 0) := G2.out.cell 2 rfl
       have f2 : w7.frozen? ⟨w.heap.size, 2, none⟩ = false := G2.out.frozen 2
       have p3 : w7.cell? ⟨w.heap.size, 3, none⟩ = some (.int .i64 0) := G2.out.cell 3 rfl
       have f3 : w7.frozen? ⟨w.heap.size, 3, none⟩ = false := G2.out.frozen 3
       have p4 : w7.cell? ⟨w.heap.size, 4, none⟩ = some (.int .i64 0) := G2.out.cell 4 rfl
       have f4 : w7.frozen? ⟨w.heap.size, 4, none⟩ = false := G2.out.frozen 4
       have p5 : w7.cell? ⟨w.heap.size, 5, none⟩ = some (.int .i64 0) := G2.out.cell 5 rfl
       have f5 : w7.frozen? ⟨w.heap.size, 5, none⟩ = false := G2.out.frozen 5
       go_wp2
       refine bodyPost_ret (results_ct rfl rfl rfl ((((((G2.out.set_ 0 _).set_ 1 _).set_ 2 _).set_ 3 _).set_ 4 _).set_ 5 _) Tryz.underlying51 rfl (by kernel_rfl)) rfl ?_
       exact of_none HO.out (((((((B.out.setCell (Nat.le_refl _) _).setCell (Nat.le_refl _) _).setCell (Nat.le_refl _) _).setCell (Nat.le_refl _) _).setCell (Nat.le_refl _) _).setCell (Nat.le_refl _) _))
      have HLEN := Lib.hid hlen
      have t1 : ((bn : Int) != (xs.length : Int)) = false := by simp; omega
      clear hlen
      by_cases hfi : s0 = headB bn mn
      case neg =>
       have HO := Lib.hid (show ofR xs = none from ofR_none.2 fun hv => hfi (by rw [← HS0.out, hv.2.2.1, HMN.out, HLEN.out]))
       have t2 := str_ne hfi
       clear hfi
       go_upto_region 10 with fail
       refine wp_region_ext (by kernel_rfl) (by kernel_rfl) ?_
       repeat (go_big_quiet_step (first
        | (go_at_call 53; with_reducible exact Ext.call (C4.out _))))
       refine wpQuiet_nil ?_
       rintro _ ⟨u, rfl⟩
       have G2 := Lib.hid (G2.out.below u.below G2.out.lt)
       have B := Lib.hid (B.out.trans (u.below.mono B.out.size))
       clear v0 x0 x1 x2 x3 x4 x5
       generalize u.val = w7 at G2 B
       have p0 : w7.cell? ⟨w.heap.size, 0, none⟩ = some (.int .i64 0) := G2.out.cell 0 rfl
       have f0 : w7.frozen? ⟨w.heap.size, 0, none⟩ = false := G2.out.frozen 0
       have p1 : w7.cell? ⟨w.heap.size, 1, none⟩ = some (.int .i64 0) := G2.out.cell 1 rfl
       have f1 : w7.frozen? ⟨w.heap.size, 1, none⟩ = false := G2.out.frozen 1
       have p2 : w7.cell? ⟨w.heap.size, 2, none⟩ = some (.int .i64 0) := G2.out.cell 2 rfl
       have f2 : w7.frozen? ⟨w.heap.size, 2, none⟩ = false := G2.out.frozen 2
       have p3 : w7.cell? ⟨w.heap.size, 3, none⟩ = some (.int .i64 0) := G2.out.cell 3 rfl
       have f3 : w7.frozen? ⟨w.heap.size, 3, none⟩ = false := G2.out.frozen 3
       have p4 : w7.cell? ⟨w.heap.size, 4, none⟩ = some (.int .i64 0) := G2.out.cell 4 rfl
       have f4 : w7.frozen? ⟨w.heap.size, 4, none⟩ = false := G2.out.frozen 4
       have p5 : w7.cell? ⟨w.heap.size, 5, none⟩ = some (.int .i64 0) := G2.out.cell 5 rfl
       have f5 : w7.frozen? ⟨w.heap.size, 5, none⟩ = false := G2.out.frozen 5
       go_wp2
       refine bodyPost_ret (results_ct rfl rfl rfl ((((((G2.out.set_ 0 _).set_ 1 _).set_ 2 _).set_ 3 _).set_ 4 _).set_ 5 _) Tryz.underlying51 rfl (by kernel_rfl)) rfl ?_
       exact of_none HO.out (((((((B.out.setCell (Nat.le_refl _) _).setCell (Nat.le_refl _) _).setCell (Nat.le_refl _) _).setCell (Nat.le_refl _) _).setCell (Nat.le_refl _) _).setCell (Nat.le_refl _) _))
      have HFI := Lib.hid hfi
      have t2 : (!s0.toList == (headB bn mn).toList) = false := by rw [hfi]; simp
      clear hfi
      go_upto_region 10 with fail
      refine wp_region_ext (by kernel_rfl) (by kernel_rfl) ?_
      repeat (go_big_quiet_step (first
       | (go_at_call 53; with_reducible exact Ext.call (C4.out _))))
      refine wpQuiet_nil ?_
      rintro _ ⟨u, rfl⟩
      have G2 := Lib.hid (G2.out.below u.below G2.out.lt)
      have G6 := Lib.hid (G6.out.below u.below G6.out.lt)
      have HR3 := Lib.hid ((HR2.out.below u.below).mono u.below.size)
      have B := Lib.hid (B.out.trans (u.below.mono B.out.size))
      clear v0 x0 x1 x2 x3 x4 x5 t1 t2
      generalize u.val = w7 at G2 B G6 HR3
      have C5 : Hid (∀ i : Nat, i < 1024 → Calls Tryz.prog 54 #[.slice (some ⟨b, o, none⟩) xs.length c, .int .i64 i] w7 fun e w' => e = .returned (.bool (bitL (blkL xs 2) i)) ∧ w7 = w') := fun i hi => bit_any _ c xs i w7 (by omega) hx (by rw [getD_eq xs 2 (by omega)]; exact HS.out 2 (by omega)) hi HR3.out
      have p0 : w7.cell? ⟨w.heap.size, 0, none⟩ = some (.int .i64 0) := G2.out.cell 0 rfl
      have f0 : w7.frozen? ⟨w.heap.size, 0, none⟩ = false := G2.out.frozen 0
      have p1 : w7.cell? ⟨w.heap.size, 1, none⟩ = some (.int .i64 0) := G2.out.cell 1 rfl
      have f1 : w7.frozen? ⟨w.heap.size, 1, none⟩ = false := G2.out.frozen 1
      have p2 : w7.cell? ⟨w.heap.size, 2, none⟩ = some (.int .i64 0) := G2.out.cell 2 rfl
      have f2 : w7.frozen? ⟨w.heap.size, 2, none⟩ = false := G2.out.frozen 2
      have p3 : w7.cell? ⟨w.heap.size, 3, none⟩ = some (.int .i64 0) := G2.out.cell 3 rfl
      have f3 : w7.frozen? ⟨w.heap.size, 3, none⟩ = false := G2.out.frozen 3
      have p4 : w7.cell? ⟨w.heap.size, 4, none⟩ = some (.int .i64 0) := G2.out.cell 4 rfl
      have f4 : w7.frozen? ⟨w.heap.size, 4, none⟩ = false := G2.out.frozen 4
      have p5 : w7.cell? ⟨w.heap.size, 5, none⟩ = some (.int .i64 0) := G2.out.cell 5 rfl
      have f5 : w7.frozen? ⟨w.heap.size, 5, none⟩ = false := G2.out.frozen 5
      have y0 : w7.cell? ⟨g6, 0, none⟩ = some (.int .i64 bn) := G6.out.cell 0 rfl
      have y5 : w7.cell? ⟨g6, 5, none⟩ = some (.int .i64 d) := G6.out.cell 5 rfl
      go_wp2
      go_loop [59] (fun i => ∃ k : Nat, k ≤ 1024 ∧ i = .int .i64 k ∧ Hid (∀ j, j < k → (j < d → bitL (blkL xs 2) j = true) ∧ (bn ≤ j → bitL (blkL xs 2) j = false))) (fun i => 1024 - (intOf i).toNat)
      case atStart => exact ⟨0, by omega, rfl, fun j hj => by omega⟩
      case round =>
       obtain ⟨k, hk, rfl, HK⟩ := hrel
       by_cases hlt2 : k < 1024
       ·go_wp2_with fail
        refine (C5.out k hlt2).mono ?_
        rintro e w' ⟨rfl, rfl⟩
        cases hbit : bitL (blkL xs 2) k with
        | false =>
         by_cases hkd : k < d
         ·have HO := Lib.hid (or_bad (xs := xs) hlt2 (.inl ⟨by rw [HMN.out, HD.out]; exact hkd, hbit⟩))
          have s1 : decide (k < d) = true := by simpa using hkd
          clear hbit
          go_wp2
          refine bodyPost_ret (results_ct rfl rfl rfl ((((((G2.out.set_ 0 _).set_ 1 _).set_ 2 _).set_ 3 _).set_ 4 _).set_ 5 _) Tryz.underlying51 rfl (by kernel_rfl)) rfl ?_
          exact of_none HO.out (((((((B.out.setCell (Nat.le_refl _) _).setCell (Nat.le_refl _) _).setCell (Nat.le_refl _) _).setCell (Nat.le_refl _) _).setCell (Nat.le_refl _) _).setCell (Nat.le_refl _) _))
         ·have s1 : decide (k < d) = false := by simpa using hkd
          have HBT := Lib.hid hbit
          clear hbit
          by_cases hkb : bn ≤ k
          all_goals
           go_wp2
           go_round
           case rel => exact ⟨k + 1, by omega, by go_num, fun j hj => by
            by_cases e : j = k
            ·subst e; exact ⟨fun h => absurd h (by omega), fun _ => HBT.out⟩
            ·exact HK.out j (by omega)⟩
           case measure => simp [intOf]; omega
        | true =>
         have HBT := Lib.hid hbit
         clear hbit
         by_cases hkb : bn ≤ k
         ·have HO := Lib.hid (or_bad (xs := xs) hlt2 (.inr ⟨by rw [← HLEN.out]; exact hkb, HBT.out⟩))
          have s1 : decide (k < d) = false := by have := HP.out; simp; omega
          have s2 : decide (bn ≤ k) = true := by simpa using hkb
          go_wp2
          refine bodyPost_ret (results_ct rfl rfl rfl ((((((G2.out.set_ 0 _).set_ 1 _).set_ 2 _).set_ 3 _).set_ 4 _).set_ 5 _) Tryz.underlying51 rfl (by kernel_rfl)) rfl ?_
          exact of_none HO.out (((((((B.out.setCell (Nat.le_refl _) _).setCell (Nat.le_refl _) _).setCell (Nat.le_refl _) _).setCell (Nat.le_refl _) _).setCell (Nat.le_refl _) _).setCell (Nat.le_refl _) _))
         ·have s2 : decide (bn ≤ k) = false := by simpa using hkb
          by_cases hkd : k < d
          all_goals
           go_wp2
           go_round
           case rel => exact ⟨k + 1, by omega, by go_num, fun j hj => by
            by_cases e : j = k
            ·subst e; exact ⟨fun _ => HBT.out, fun h => absurd h (by omega)⟩
            ·exact HK.out j (by omega)⟩
           case measure => simp [intOf]; omega
       ·have HO : Hid (ofR xs = some mn) := ofR_some.2 ⟨HN.out, by rw [← HLEN.out]; exact HPL.out, by rw [HS0.out, HFI.out, HLEN.out], by
         rw [bitsOk_iff, HD.out, ← HLEN.out]
         intro i hi
         exact HK.out i (by omega)⟩
        have y1 : w7.cell? ⟨g6, 1, none⟩ = some (.int .i64 mn) := G6.out.cell 1 rfl
        have y2 : w7.cell? ⟨g6, 2, none⟩ = some (.int .i64 1) := G6.out.cell 2 rfl
        have y3 : w7.cell? ⟨g6, 3, none⟩ = some (.int .i64 2) := G6.out.cell 3 rfl
        have y4 : w7.cell? ⟨g6, 4, none⟩ = some (.int .i64 3) := G6.out.cell 4 rfl
        go_wp2
        refine bodyPost_ret (results_ct rfl rfl rfl ((((((G2.out.set_ 0 _).set_ 1 _).set_ 2 _).set_ 3 _).set_ 4 _).set_ 5 _) Tryz.underlying51 rfl (by kernel_rfl)) rfl ?_
        unfold OfPost
        rw [HO.out, ← HLEN.out]
        unfold ofE
        dsimp only
        rw [HD.out]
        exact ⟨rfl, (((((((B.out.setCell (Nat.le_refl _) _).setCell (Nat.le_refl _) _).setCell (Nat.le_refl _) _).setCell (Nat.le_refl _) _).setCell (Nat.le_refl _) _).setCell (Nat.le_refl _) _))⟩
theorem of_any (A : Option Addr) (c : Nat) (xs : List ByteArray) (w : World) (hx : xs.length ≤ 1000000) (h : RowAt w w.heap.size A (xs.map .string)) :
  Calls Tryz.prog 17 #[.slice A xs.length c] w (OfPost xs w) := by
 by_cases hn : ∀ s ∈ xs, s.size = 128
 ·exact of_good A c xs w hx h hn
 ·exact of_bad A c xs w hx h hn
def NewRow (ys : List ByteArray) (w : World) (v : Value) (w' : World) : Prop := ∃ g, v = .slice (some ⟨g, 0, none⟩) ys.length ys.length ∧ w.heap.size ≤ g ∧ Blk w' g 9 (ys.map .string).toArray
theorem str_info : (Tryz.prog.info? 9).map (fun i => (i.zero, i.size, i.bytes)) = some (some (.string ⟨#[]⟩), 1, 16) := by kernel_rfl
theorem u8_info : (Tryz.prog.info? 5).map (fun i => (i.zero, i.size, i.bytes)) = some (some (.int .u8 0), 1, 1) := by kernel_rfl
theorem str_sz : (Tryz.prog.info? 9).map (·.size) = some 1 := by kernel_rfl
theorem u8_sz (w : World) : (sizeOf 5).run Tryz.prog w = .ok 1 w := by kernel_rfl
theorem str_cells (xs : List ByteArray) : ∀ v ∈ xs.map Value.string, v.oneCell' = true := by
 intro v hv
 obtain ⟨x, _, rfl⟩ := List.mem_map.1 hv
 rfl
theorem turn_byte (s : ByteArray) (i : Nat) (h : i / 8 < s.size) : bits .xor .u8 (s[i / 8].toNat : Int) (2 ^ (i % 8) % 256) = (((turnL s.data.toList i).getD (i / 8) 0).toNat : Int) := by
 have h1 := two_pow_lt i
 have e : ((2 : Int) ^ (i % 8) % 256) = ((2 ^ (i % 8) : Nat) : Int) := by
  have : ((2 : Int) ^ (i % 8)) = ((2 ^ (i % 8) : Nat) : Int) := by simp
  rw [this]
  generalize (2 : Nat) ^ (i % 8) = q at h1
  omega
 rw [e, u8_xor_nat _ _ (s[i / 8].toNat_lt) h1]
 unfold turnL
 have hl : i / 8 < s.data.toList.length := by simpa using h
 rw [getD_set _ _ _ _ _ hl, if_pos rfl, UInt8.toNat_xor, toNat_two_pow]
 have : s.data.toList.getD (i / 8) 0 = s[i / 8] := by simp only [List.getD, List.getElem?_eq_getElem hl]; rfl
 rw [this]
theorem turn_cells (s : ByteArray) (i : Nat) (h : i / 8 < s.size) (z : Int) (hz : z = (((turnL s.data.toList i).getD (i / 8) 0).toNat : Int)) :
  ((s.data.toList.map fun x => Value.int .u8 (x.toNat : Int)).toArray.setIfInBounds (i / 8) (.int .u8 z)) = ((turnB s i).data.toList.map fun x => Value.int .u8 (x.toNat : Int)).toArray := by
 have hl : i / 8 < s.data.toList.length := by simpa using h
 rw [List.setIfInBounds_toArray, turnB_list]
 congr 1
 subst hz
 unfold turnL
 rw [getD_set _ _ _ _ _ hl, if_pos rfl, List.map_set]
set_option maxRecDepth 100000 in
set_option maxHeartbeats 2000000 in
theorem turned_any (A : Option Addr) (c : Nat) (xs : List ByteArray) (i : Nat) (w : World) (h16 : 3 ≤ xs.length) (hx : xs.length ≤ 1000000) (h2 : (xs.getD 2 ⟨#[]⟩).size = 128) (hi : i < 1024) (h : RowAt w w.heap.size A (xs.map .string)) :
  Calls Tryz.prog 183 #[.slice A xs.length c, .int .i64 i] w fun e w' => ∃ v, e = .returned v ∧ NewRow (turnV xs i) w v w' ∧ Below w.heap.size w w' := by
 obtain ⟨i0, q1, q2, q3, q4⟩ := info_parts str_info
 obtain ⟨i1, r1, r2, r3, r4⟩ := info_parts u8_info
 have HR := Lib.hid h
 obtain ⟨b, o, rfl, hb, hc⟩ := row_get h 2 (by omega)
 generalize hs : xs.getD 2 ⟨#[]⟩ = s at h2 hc
 have HS := Lib.hid hs
 have H2 := Lib.hid h2
 have h3 : i / 8 < s.size := by omega
 have HT := Lib.hid (turn_byte s i h3)
 have HC := Lib.hid hc
 clear h hs hc h2
 have I0 := Lib.hid (And.intro q1 (And.intro q2 (And.intro q3 q4)))
 have I1 := Lib.hid (And.intro r1 (And.intro r2 (And.intro r3 r4)))
 clear q1 q2 q3 q4 r1 r2 r3 r4
 go_enter Tryz.func183, Tryz.ntmps183
 go_wp2_with (first
  | (refine make_blk 44 (.const (.int .i64 128)) (.const (.int .i64 128)) 5 i1 (.int .u8 0) 128 128 128 rfl rfl Tryz.underlying44 I1.out.1 I1.out.2.1 I1.out.2.2.1 rfl rfl rfl rfl rfl (by rw [I1.out.2.2.2]; decide) (by decide) ?_; intro w1 g1 hg1; have G1 := Lib.hid g1; have B1 := Lib.hid ((Below.refl w.heap.size w).grown hg1 (Nat.le_refl _) (by intro k hk; cases hk)); have hc1 : w1.cell? ⟨b, o + 2, none⟩ = some (.string s) := (B1.out.cell (p := ⟨b, o + 2, none⟩) hb).trans HC.out; clear g1 hg1)
  | (refine copy_str_blk (.tmp 8) (.tmp 11) 44 9 5 w.heap.size 128 128 5 (Array.replicate 128 (.int .u8 0)) s rfl rfl Tryz.underlying44 u8_sz rfl rfl G1.out (by simp) H2.out ?_; intro w2 g2 hg2; have G2 := Lib.hid g2; have hz1 : w.heap.size ≤ w1.heap.size := B1.out.size; have B2 := Lib.hid (B1.out.grown hg2 hz1 (by intro k hk; cases hk; exact Nat.le_refl _)); clear g2 hg2 hc1))
 have k1 : w2.cell? ⟨w.heap.size, i / 8, none⟩ = some (.int .u8 (s[i / 8].toNat : Int)) := G2.out.cell (i / 8) (by
  have : i / 8 < s.data.toList.length := by simpa using h3
  simp only [List.getElem?_toArray, List.getElem?_map, List.getElem?_eq_getElem this, Option.map_some]; rfl)
 have k2 := G2.out.frozen (i / 8)
 have k3 : (i : Int) / 8 < 128 := by omega
 have k4 : IntKind.i64.wrap ((i : Int) / 8) = (i : Int) / 8 := IntWalk.i64_in _ (by omega)
 have k5 : IntKind.i64.wrap ((i : Int) % 8) = (i : Int) % 8 := IntWalk.i64_in _ (by omega)
 have k6 : (0 : Int) ≤ (i : Int) / 8 := by omega
 have k7 : ((i : Int) / 8).toNat = i / 8 := by omega
 have k8 : (0 : Int) ≤ (i : Int) % 8 := by omega
 have k9 : ((i : Int) % 8).toNat = i % 8 := by omega
 go_frame
 go_region
 rw [HT.out]
 generalize hw3 : World.drew _ = w3
 have G3 : Hid (Blk w3 w.heap.size 5 ((turnB s i).data.toList.map fun x => Value.int .u8 (x.toNat : Int)).toArray) := by
  rw [← turn_cells s i h3 _ rfl, ← hw3]; exact (G2.out.set_ (i / 8) _).drew
 have B3 : Hid (Below w.heap.size w w3) := hw3 ▸ (B2.out.setCell (Nat.le_refl _) _).drew
 have R3 : Hid (RowAt w3 w3.heap.size (some ⟨b, o, none⟩) (xs.map .string)) := (HR.out.below B3.out).mono B3.out.size
 have hz3 : w.heap.size < w3.heap.size := G3.out.lt
 clear hw3 k1 k2 k3 k4 k5 k6 k7 k8 k9
 generalize hst : turnB s i = st at G3
 have hsz : st.size = 128 := by rw [← hst, turnB_size]; exact H2.out
 have HSZ := Lib.hid hsz
 have HST := Lib.hid hst
 clear hst hsz
 have F2 : Hid ((xs.map Value.string).toArray[2]? = some (.string s)) := by
  show _ = _
  rw [← HS.out, getD_eq xs 2 (by omega)]
  simp only [List.getElem?_toArray, List.getElem?_map]
  rw [List.getElem?_eq_getElem (by omega)]; rfl
 have hl2 : (2 : Int) < (xs.length : Int) := by omega
 have N1 : Hid (some w.heap.size ≠ some w3.heap.size) := by intro e; injection e; omega
 have s1 : (xs.map Value.string).length = xs.length := by simp
 have S1 := Lib.hid s1
 have s2 : (Array.replicate xs.length (Value.string ⟨#[]⟩)).size = xs.length := by simp
 have S2 := Lib.hid s2
 have S3 : Hid (0 < xs.length) := by show 0 < xs.length; omega
 have LE : Hid (∀ k, (some w3.heap.size : Option Nat) = some k → w.heap.size ≤ k) := by intro k hk; cases hk; omega
 clear s1 s2
 go_wp2_with (first
  | (refine make_blk 24 (.tmp 24) (.tmp 24) 9 i0 (.string ⟨#[]⟩) xs.length xs.length xs.length rfl rfl Tryz.underlying24 I0.out.1 I0.out.2.1 I0.out.2.2.1 rfl rfl rfl rfl rfl (by rw [I0.out.2.2.2]; omega) (by unfold maxLen; omega) ?_; intro w4 g4 hg4; have G4 := Lib.hid g4; have G3' := Lib.hid (G3.out.grown hg4 (by simp)); have B4 := Lib.hid (B3.out.grown hg4 B3.out.size (by intro k hk; cases hk)); have R4 := Lib.hid ((HR.out.below B4.out).mono B4.out.size); clear g4 hg4)
  | (refine copy_row_blk (.tmp 26) (.tmp 27) 24 24 9 w3.heap.size xs.length xs.length 9 (Array.replicate xs.length (.string ⟨#[]⟩)) w4.heap.size (some ⟨b, o, none⟩) c (xs.map .string) rfl rfl Tryz.underlying24 str_sz rfl rfl G4.out S2.out S1.out S3.out R4.out (str_cells xs) ?_; intro w5 g5 hg5; have G5 := Lib.hid g5; have G3'' := Lib.hid (G3'.out.grown hg5 N1.out); have B5 := Lib.hid (B4.out.grown hg5 B4.out.size LE.out); have hcv := conv_blk (P := Tryz.prog) 128 G3''.out HSZ.out 128 Tryz.underlying44 Tryz.underlying5 Tryz.underlying9; have hcl : w5.cell? ⟨w3.heap.size, 2, none⟩ = some (.string s) := G5.out.cell 2 F2.out; have hfr := G5.out.frozen 2; clear g5 hg5))
 go_ret
 have ht : turnV xs i = xs.set 2 st := by unfold turnV; rw [HS.out, HST.out]
 refine ⟨_, rfl, ⟨w3.heap.size, by rw [turnV_length]; rfl, by omega, ?_⟩, B5.out.setCell (by show w.heap.size ≤ w3.heap.size; omega) _⟩
 have := G5.out.set_ 2 (.string st)
 rw [List.setIfInBounds_toArray, ← List.map_set] at this
 rw [ht]; exact this
theorem ones_pop (b : UInt8) : Lib.onesCount b.toNat = pop8 b := by
 have h : ∀ b : Fin 256, Lib.onesCount b.val = ((List.range 8).filter fun i => b.val.testBit i).length := by decide +kernel
 exact h ⟨b.toNat, b.toNat_lt⟩
theorem pop8_le (b : UInt8) : pop8 b ≤ 8 := by
 unfold pop8
 have := List.length_filter_le (fun i => b.toNat.testBit i) (List.range 8)
 simpa using this
theorem pops_le (l : List UInt8) (k : Nat) : ((l.take k).map pop8).sum ≤ 8 * k := by
 induction k generalizing l with
 | zero => simp
 | succ k ih =>
  cases l with
  | nil => simp
  | cons b l =>
   have := ih l
   have := pop8_le b
   simp only [List.take_succ_cons, List.map_cons, List.sum_cons]
   omega
def TakePost (xs : List ByteArray) (w : World) (e : Ending) (w' : World) : Prop := Below w.heap.size w w' ∧
 match ofR xs with
 | none => e = .returned (.tuple #[.slice none 0 0, .int .i64 0, .int .i64 3])
 | some m => match freeR xs m with
  | none => e = .returned (.tuple #[.slice none 0 0, .int .i64 0, .int .i64 10])
  | some i => ∃ v, e = .returned (.tuple #[v, .int .i64 i, .int .i64 0]) ∧ NewRow (takeV xs i) w v w'
def GivePost (xs : List ByteArray) (i : Int) (w : World) (e : Ending) (w' : World) : Prop := Below w.heap.size w w' ∧
 match ofR xs with
 | none => e = .returned (.tuple #[.slice none 0 0, .int .i64 3])
 | some m => if i < (dataN m : Int) ∨ (xs.length : Int) ≤ i then e = .returned (.tuple #[.slice none 0 0, .int .i64 2])
  else if bitL (blkL xs 2) i.toNat = false then e = .returned (.tuple #[.slice none 0 0, .int .i64 9])
  else ∃ v, e = .returned (.tuple #[v, .int .i64 0]) ∧ NewRow (turnV xs i.toNat) w v w'
theorem NewRow.alloc_base {ys : List ByteArray} {w0 w : World} {v : Value} {w' : World} (h : NewRow ys w v w') (hz : w0.heap.size ≤ w.heap.size) : NewRow ys w0 v w' := by
 obtain ⟨g, a, b, c⟩ := h
 exact ⟨g, a, Nat.le_trans hz b, c⟩
set_option maxHeartbeats 2000000 in
theorem used_any (A : Option Addr) (c : Nat) (xs : List ByteArray) (i : Int) (w : World) (hx : xs.length ≤ 1000000) (h : RowAt w w.heap.size A (xs.map .string)) :
  Calls Tryz.prog 116 #[.slice A xs.length c, .int .i64 i] w fun e w' => e = .returned (.bool (usedR xs i)) ∧ Below w.heap.size w w' := by
 have HR := Lib.hid h
 clear h
 go_enter Tryz.func116, Tryz.ntmps116
 go_wp2_with fail
 refine (of_any A c xs _ hx HR.out).mono ?_
 rintro e w1 ⟨rfl, hb1⟩
 have B := Lib.hid hb1
 clear hb1
 have hz := B.out.size
 cases ho : ofR xs with
 | none =>
  have HO := Lib.hid ho
  clear ho
  unfold ofE
  go_wp2
  go_ret
  exact ⟨ret_bool (by unfold usedR; rw [HO.out]), B.out.alloc hz _⟩
 | some m =>
  have hv := ofR_some.1 ho
  have hl := hv.len
  have HO := Lib.hid ho
  have HV := Lib.hid hv
  clear ho hv
  unfold ofE
  dsimp only
  have R1 := Lib.hid (((HR.out.below B.out).mono B.out.size).below ((Below.refl w1.heap.size w1).alloc (Nat.le_refl _) (.cells #[.int .i64 xs.length, .int .i64 m, .int .i64 1, .int .i64 2, .int .i64 3, .int .i64 (dataN m : Nat)] 51)))
  generalize hd : dataN m = d at *
  have HD := Lib.hid hd
  clear hd
  have HU : Hid (usedR xs i = (decide (0 ≤ i ∧ i < xs.length) && bitL (blkL xs 2) i.toNat)) := by show _ = _; unfold usedR; rw [HO.out]
  by_cases h0 : 0 ≤ i
  ·obtain ⟨i, rfl⟩ := Int.eq_ofNat_of_zero_le h0
   by_cases h1 : i < xs.length
   ·have g1 : decide (i < xs.length) = true := by simpa using h1
    go_wp2_with fail
    refine (bit_any A c xs i _ (by omega) hx (HV.out.size 2 (by omega)) (by omega) (R1.out.mono (by simp))).mono ?_
    rintro e w' ⟨rfl, rfl⟩
    go_wp2
    go_ret
    exact ⟨ret_bool (by rw [HU.out]; simp [h1]), B.out.alloc hz _⟩
   ·have g1 : decide (i < xs.length) = false := by simpa using h1
    go_wp2
    go_ret
    exact ⟨ret_bool (by rw [HU.out]; simp [h1]), B.out.alloc hz _⟩
  ·have g0 : decide (0 ≤ i) = false := by simpa using h0
   go_wp2
   go_ret
   exact ⟨ret_bool (by rw [HU.out, decide_eq_false (by omega)]; rfl), B.out.alloc hz _⟩
set_option maxHeartbeats 2000000 in
theorem give_any (A : Option Addr) (c : Nat) (xs : List ByteArray) (i : Int) (w : World) (hx : xs.length ≤ 1000000) (h : RowAt w w.heap.size A (xs.map .string)) :
  Calls Tryz.prog 126 #[.slice A xs.length c, .int .i64 i] w (GivePost xs i w) := by
 have HR := Lib.hid h
 clear h
 go_enter Tryz.func126, Tryz.ntmps126
 go_wp2_with fail
 refine (of_any A c xs _ hx HR.out).mono ?_
 rintro e w1 ⟨rfl, hb1⟩
 have B := Lib.hid hb1
 clear hb1
 have hz := B.out.size
 cases ho : ofR xs with
 | none =>
  have HO := Lib.hid ho
  clear ho
  unfold ofE
  go_wp2
  go_ret2
  unfold GivePost
  rw [HO.out]
  exact ⟨B.out.alloc hz _, rfl⟩
 | some m =>
  have hv := ofR_some.1 ho
  have hl := hv.len
  have HO := Lib.hid ho
  have HV := Lib.hid hv
  clear ho hv
  unfold ofE
  dsimp only
  have R1 := Lib.hid (((HR.out.below B.out).mono B.out.size).below ((Below.refl w1.heap.size w1).alloc (Nat.le_refl _) (.cells #[.int .i64 xs.length, .int .i64 m, .int .i64 1, .int .i64 2, .int .i64 3, .int .i64 (dataN m : Nat)] 51)))
  generalize hd : dataN m = d at *
  have HD := Lib.hid hd
  clear hd
  by_cases h1 : i < (d : Int)
  ·go_wp2
   go_ret2
   unfold GivePost
   rw [HO.out]
   dsimp only
   rw [HD.out, if_pos (Or.inl h1)]
   exact ⟨B.out.alloc hz _, rfl⟩
  have g1 : decide (i < (d : Int)) = false := by simpa using h1
  by_cases h2 : (xs.length : Int) ≤ i
  ·go_wp2
   go_ret2
   unfold GivePost
   rw [HO.out]
   dsimp only
   rw [HD.out, if_pos (Or.inr h2)]
   exact ⟨B.out.alloc hz _, rfl⟩
  have g2 : decide ((xs.length : Int) ≤ i) = false := by simpa using h2
  obtain ⟨i, rfl⟩ := Int.eq_ofNat_of_zero_le (show 0 ≤ i by omega)
  have H12 : Hid (¬ ((i : Int) < (d : Int) ∨ (xs.length : Int) ≤ (i : Int))) := by intro hh; omega
  have g1' : decide (i < d) = false := by simp; omega
  have g2' : decide (xs.length ≤ i) = false := by simp; omega
  go_wp2_with fail
  refine (bit_any A c xs i _ (by omega) hx (HV.out.size 2 (by omega)) (by omega) (R1.out.mono (by simp))).mono ?_
  rintro e w' ⟨rfl, rfl⟩
  cases hb : bitL (blkL xs 2) i with
  | false =>
   have HB := Lib.hid hb
   clear hb
   go_wp2
   go_ret2
   unfold GivePost
   rw [HO.out]
   dsimp only
   rw [HD.out, if_neg H12.out, Int.toNat_natCast, if_pos HB.out]
   exact ⟨B.out.alloc hz _, rfl⟩
  | true =>
   have HB := Lib.hid hb
   clear hb
   go_wp2_with fail
   refine (turned_any A c xs i _ (by omega) hx (HV.out.size 2 (by omega)) (by omega) (R1.out.mono (by simp))).mono ?_
   rintro e w2 ⟨v, rfl, hn, hb2⟩
   have N := Lib.hid hn
   have B2 := Lib.hid ((B.out.alloc hz _).trans (hb2.mono (by simp; omega)))
   clear hn hb2
   go_wp2
   go_ret2
   unfold GivePost
   rw [HO.out]
   dsimp only
   rw [HD.out, if_neg H12.out, Int.toNat_natCast, if_neg (by rw [HB.out]; simp)]
   exact ⟨B2.out, v, rfl, N.out.alloc_base (by simp; omega)⟩
set_option maxHeartbeats 2000000 in
theorem take_any (A : Option Addr) (c : Nat) (xs : List ByteArray) (w : World) (hx : xs.length ≤ 1000000) (h : RowAt w w.heap.size A (xs.map .string)) :
  Calls Tryz.prog 115 #[.slice A xs.length c] w (TakePost xs w) := by
 have HR := Lib.hid h
 clear h
 go_enter Tryz.func115, Tryz.ntmps115
 go_wp2_with fail
 refine (of_any A c xs _ hx HR.out).mono ?_
 rintro e w1 ⟨rfl, hb1⟩
 have B := Lib.hid hb1
 clear hb1
 have hz := B.out.size
 cases ho : ofR xs with
 | none =>
  have HO := Lib.hid ho
  clear ho
  unfold ofE
  go_wp2
  go_ret3
  unfold TakePost
  rw [HO.out]
  exact ⟨B.out.alloc hz _, rfl⟩
 | some m =>
  have hv := ofR_some.1 ho
  have hl := hv.len
  have HO := Lib.hid ho
  have HV := Lib.hid hv
  clear ho hv
  unfold ofE
  dsimp only
  have R1 := Lib.hid (((HR.out.below B.out).mono B.out.size).below ((Below.refl w1.heap.size w1).alloc (Nat.le_refl _) (.cells #[.int .i64 xs.length, .int .i64 m, .int .i64 1, .int .i64 2, .int .i64 3, .int .i64 (dataN m : Nat)] 51)))
  generalize hd : dataN m = d at *
  have HD := Lib.hid hd
  clear hd
  have HDL : Hid (dataN m ≤ xs.length) := by show dataN m ≤ _; rw [HD.out]; omega
  go_wp2
  go_loop [7] (fun i => ∃ k : Nat, d ≤ k ∧ k ≤ xs.length ∧ i = .int .i64 k ∧ Hid (∀ j, d ≤ j → j < k → bitL (blkL xs 2) j = true)) (fun i => xs.length - (intOf i).toNat)
  case atStart => exact ⟨d, Nat.le_refl _, by omega, rfl, fun j a b => by omega⟩
  case round =>
   obtain ⟨k, hk1, hk2, rfl, HK⟩ := hrel
   by_cases hlt : k < xs.length
   ·go_wp2_with fail
    refine (bit_any A c xs k _ (by omega) hx (HV.out.size 2 (by omega)) (by omega) (R1.out.mono (by simp))).mono ?_
    rintro e w' ⟨rfl, rfl⟩
    cases hb : bitL (blkL xs 2) k with
    | true =>
     have HB := Lib.hid hb
     clear hb
     go_wp2
     go_round
     case rel => exact ⟨k + 1, by omega, by omega, by go_num, fun j a b => by
      by_cases e : j = k
      ·rw [e]; exact HB.out
      ·exact HK.out j a (by omega)⟩
     case measure => simp [intOf]; omega
    | false =>
     have HF : Hid (freeR xs m = some k) := (freeR_some HDL.out).2 ⟨by rw [HD.out]; exact hk1, hlt, hb, fun j a b => HK.out j (by rw [← HD.out]; exact a) b⟩
     clear hb
     go_wp2_with fail
     refine (turned_any A c xs k _ (by omega) hx (HV.out.size 2 (by omega)) (by omega) (R1.out.mono (by simp))).mono ?_
     rintro e w2 ⟨v, rfl, ⟨g, rfl, hg, hn⟩, hb2⟩
     rw [turnV_length]
     have N := Lib.hid hn
     have B2 := Lib.hid ((B.out.alloc hz _).trans (hb2.mono (by simp; omega)))
     have hg' : w.heap.size ≤ g := by simp at hg; omega
     clear hn hb2 hg
     go_wp2_with fail
     refine (zeros_any _).mono ?_
     rintro e w3 ⟨rfl, hb3⟩
     have N := Lib.hid (N.out.below hb3 N.out.lt)
     have B3 := Lib.hid (B2.out.trans (hb3.mono B2.out.size))
     have hkt : k < (turnV xs k).length := by rw [turnV_length]; exact hlt
     have hc : ∃ s, w3.cell? ⟨g, k, none⟩ = some (.string s) := ⟨(turnV xs k)[k], N.out.cell k (by simp only [List.getElem?_toArray, List.getElem?_map, List.getElem?_eq_getElem hkt]; rfl)⟩
     obtain ⟨s, hc⟩ := hc
     have hf := N.out.frozen k
     have i1 : (0 : Int) ≤ (k : Int) := by omega
     have i2 : (k : Int) < (xs.length : Int) := by omega
     clear hb3 hkt
     go_wp2
     go_ret3
     unfold TakePost
     rw [HO.out]
     dsimp only
     rw [HF.out]
     refine ⟨B3.out.setCell hg' _, _, rfl, g, by rw [takeV_length]; rfl, hg', ?_⟩
     have := N.out.set_ k (.string (zerosB 128))
     rw [List.setIfInBounds_toArray, ← List.map_set] at this
     exact this
   ·have HF : Hid (freeR xs m = none) := (freeR_none HDL.out).2 fun j a b => HK.out j (by rw [← HD.out]; exact a) (by omega)
    go_wp2
    go_ret3
    unfold TakePost
    rw [HO.out]
    dsimp only
    rw [HF.out]
    exact ⟨B.out.alloc hz _, rfl⟩
set_option maxHeartbeats 2000000 in
theorem room_any (A : Option Addr) (c : Nat) (xs : List ByteArray) (w : World) (hx : xs.length ≤ 1000000) (h : RowAt w w.heap.size A (xs.map .string)) :
  Calls Tryz.prog 18 #[.slice A xs.length c] w fun e w' => e = .returned (.int .i64 (roomR xs : Nat)) ∧ Below w.heap.size w w' := by
 have HR := Lib.hid h
 clear h
 go_enter Tryz.func18, Tryz.ntmps18
 go_wp2_with fail
 refine (of_any A c xs _ hx HR.out).mono ?_
 rintro e w1 ⟨rfl, hb1⟩
 have B := Lib.hid hb1
 clear hb1
 have hz := B.out.size
 cases ho : ofR xs with
 | none =>
  have HO := Lib.hid ho
  clear ho
  unfold ofE
  go_wp2
  go_ret
  exact ⟨ret_int (by unfold roomR; rw [HO.out]; rfl), B.out.alloc hz _⟩
 | some m =>
  have hv := ofR_some.1 ho
  have hl := hv.len
  have HO := Lib.hid ho
  have HV := Lib.hid hv
  clear ho hv
  unfold ofE
  dsimp only
  have R1 := Lib.hid (((HR.out.below B.out).mono B.out.size).below ((Below.refl w1.heap.size w1).alloc (Nat.le_refl _) (.cells #[.int .i64 xs.length, .int .i64 m, .int .i64 1, .int .i64 2, .int .i64 3, .int .i64 (dataN m : Nat)] 51)))
  generalize hd : dataN m = d at *
  have HD := Lib.hid hd
  clear hd
  obtain ⟨b, o, rfl, hb, hc⟩ := row_get R1.out 2 (by omega)
  generalize hs : xs.getD 2 ⟨#[]⟩ = s at hc
  have hs2 : s.size = 128 := by rw [← hs]; exact HV.out.size 2 (by omega)
  have HS := Lib.hid hs
  have HS2 := Lib.hid hs2
  have l2 : (2 : Int) < (xs.length : Int) := by omega
  clear hs hs2
  have HZ : Hid (w1.heap.size + 1 = (w1.alloc (.cells #[.int .i64 xs.length, .int .i64 m, .int .i64 1, .int .i64 2, .int .i64 3, .int .i64 d] 51)).heap.size) := by show _ = _; simp
  go_wp2_with (refine bytes_of_str 9 44 (.tmp 17) 5 s rfl rfl rfl Tryz.underlying9 Tryz.underlying44 Tryz.underlying5 ?_; intro w2 cp hcl hb2; have HCL := Lib.hid hcl; have B2 := Lib.hid ((B.out.alloc hz _).trans (hb2.mono (by simp; omega))); have G5 := Lib.hid ((Blk.new w1 51 #[.int .i64 xs.length, .int .i64 m, .int .i64 1, .int .i64 2, .int .i64 3, .int .i64 d]).below hb2 (by simp)); clear hcl hb2 hc)
  have hln : s.data.toList.length = s.size := by rw [Array.length_toList]; rfl
  have HLN := Lib.hid hln
  have HP : Hid (∀ k, k < s.size → ((s.data.toList.take (k + 1)).map pop8).sum = ((s.data.toList.take k).map pop8).sum + pop8 (s.data.toList.getD k 0)) := fun k hk => by
   have hk' : k < s.data.toList.length := by rw [HLN.out]; exact hk
   rw [List.take_succ_eq_append_getElem hk', List.map_append, List.sum_append]
   simp only [List.getD, List.getElem?_eq_getElem hk']
   simp
  have HQ : Hid (∀ k, ((s.data.toList.take k).map pop8).sum ≤ 8 * k) := fun k => pops_le _ k
  have c0 : w2.cell? ⟨w1.heap.size, 0, none⟩ = some (.int .i64 xs.length) := G5.out.cell 0 rfl
  have hs2 : s.size ≤ 128 := by have := HS2.out; omega
  rw [← HZ.out] at HCL
  clear hln
  go_wp2
  go_loop [5, 20] (fun n i => ∃ k : Nat, k ≤ s.size ∧ i = .int .i64 k ∧ n = .int .i64 (((s.data.toList.take k).map pop8).sum : Nat)) (fun _ i => s.size - (intOf i).toNat)
  case atStart => exact ⟨0, Nat.zero_le _, rfl, rfl⟩
  case round =>
   obtain ⟨k, hk, rfl, rfl⟩ := hrel
   have hle := HQ.out k
   by_cases hlt : k < s.size
   ·have hc1 := HCL.out k hlt
    have HPK := Lib.hid (HP.out k hlt)
    have hp8 := pop8_le (s.data.toList.getD k 0)
    generalize ((s.data.toList.take k).map pop8).sum = n0 at *
    generalize hby : s.data.toList.getD k 0 = by0 at *
    have i1 : (0 : Int) ≤ (k : Int) := by omega
    have i2 : (k : Int) < (s.size : Int) := by omega
    clear hby
    go_wp2_with fail
    refine (Tryz.bits_OnesCount8 (by0.toNat : Int) _ (by omega) (by have := by0.toNat_lt; omega)).mono ?_
    rintro e w' ⟨rfl, rfl⟩
    rw [Int.toNat_natCast, ones_pop]
    go_wp2
    go_round
    case rel => exact ⟨k + 1, by omega, by go_num, by rw [HPK.out]; go_num⟩
    case measure => simp [intOf]; omega
   ·obtain rfl : k = s.size := by omega
    have HT : Hid (((s.data.toList.take s.size).map pop8).sum = cntL (blkL xs 2) xs.length) := by
     show _ = _
     rw [List.take_of_length_le (by rw [HLN.out]; omega), ← HV.out.pops]
     unfold blkL; rw [HS.out]
    have hcl := cntL_le (blkL xs 2) xs.length
    rw [HT.out]
    generalize hcn : cntL (blkL xs 2) xs.length = cn at *
    have HCN := Lib.hid hcn
    clear hcn hle hk hlt
    go_wp2
    go_ret
    refine ⟨ret_int ?_, B2.out⟩
    unfold roomR
    rw [HO.out]
    dsimp only
    rw [HCN.out]
    omega
end Go.Proofs.YtdldlendppkknaaGreatDoor
