/-
  What the document's With and Of of layer 17 do.
-/
import Derived.Test.YtoanladhikdcaaaGreatRGeomB
import Derived.Laws.OwnMore
import Derived.Lib.SmallJoins
namespace Go.Proofs.YtoanladhikdcaaaGreat
open Go.RowKit
set_option linter.unusedVariables false
set_option linter.unusedSimpArgs false
set_option maxRecDepth 100000
/-- a slice of strings of the call's own -/
def OwnRow (ys : List ByteArray) (w : World) (v : Value) (w' : World) : Prop := w'.ownsRow w.heap.size 9 1 v ys.length (ys.map .string)
set_option maxHeartbeats 1000000 in
theorem with_any (A : Option Addr) (c : Nat) (xs : List ByteArray) (i : Nat) (s : ByteArray) (w : World) (hi : i < xs.length) (hx : xs.length ≤ 1000000) (h : RowAt w w.heap.size A (xs.map .string)) :
    Calls Tryz.prog 82 #[.slice A xs.length c, .int .i64 i, .string s] w fun e w' => ∃ v, e = .returned v ∧ OwnRow (xs.set i s) w v w' ∧ Below w.heap.size w w' := by
  obtain ⟨i0, q1, q2, q3, q4⟩ := info_parts str_info
  obtain ⟨b, o, rfl, hb, hc⟩ := h.at_ (by simp; omega)
  have I0 := Lib.hid (And.intro q1 (And.intro q2 (And.intro q3 q4)))
  have B0 : Hid (Below w.heap.size w (w.alloc (.cells #[] 9))) := (Below.refl w.heap.size w).alloc (Nat.le_refl _) _
  have HC : Hid (∀ j u, (xs.map Value.string)[j]? = some u → (w.alloc (.cells #[] 9)).cell? ((⟨b, o, none⟩ : Addr).add j) = some u) := fun j u hu => by
    have : (⟨b, o, none⟩ : Addr).add j = ⟨b, o + j, none⟩ := by unfold Addr.add; split <;> simp_all
    rw [this]; exact (B0.out.cell (p := ⟨b, o + j, none⟩) hb).trans (hc j u hu)
  have H1 := Lib.hid (str_cells xs)
  have HW : Hid ((w.alloc (.cells #[] 9)).ownsRow w.heap.size 9 1 (.slice (some ⟨w.heap.size, 0, none⟩) 0 0) 0 []) := World.ownsRow_lit w #[] 0 (Nat.le_refl _) (by decide) rfl
  have HM : Hid (0 + xs.length ≤ maxLen) := by show _ ≤ _; unfold maxLen; omega
  have HY : Hid ((0 + xs.length) * 16 ≤ 140737488355328) := by show _ ≤ _; omega
  clear h hc q1 q2 q3 q4
  go_enter Tryz.func82, Tryz.ntmps82
  go_wp2_with (at_builtin; refine wpList_append_own _ rfl (.tmp 8) (.tmp 9) 22 rfl w.heap.size 9 i0 (.string ⟨#[]⟩) 1 16 Tryz.underlying22 I0.out.1 I0.out.2.1 I0.out.2.2.1 I0.out.2.2.2 rfl (by decide) _ 0 [] rfl HW.out ⟨b, o, none⟩ xs.length c (xs.map .string) rfl (by rw [List.length_map, Nat.mul_one]) HC.out H1.out HM.out HY.out B0.out.size ?_; intro v w1 own hg hv)
  rw [Nat.zero_add, List.nil_append] at own
  obtain ⟨g, cap, rfl⟩ := Go.Joins.ownsRow_form own (by omega)
  have O1 := Lib.hid own
  have B1 := Lib.hid (B0.out.grown hg B0.out.size (by intro k hk; cases hk; exact Nat.le_refl _))
  have hgb : w.heap.size ≤ g := (own.lt g rfl).1
  have k1 : w1.cell? ⟨g, i, none⟩ = some (.string xs[i]) := by
    rw [own.cellAt i (by omega)]; simp [hi]
  have k2 : w1.frozen? ⟨g, i, none⟩ = false := own.frozenAt i
  have k3 : (i : Int) < (xs.length : Int) := by omega
  have k4 : (0 : Int) ≤ (i : Int) := by omega
  clear own hg hv HW B0 HC
  clear HM HY H1 I0
  go_wp2_with fail
  go_simp
  (first | assumption | go_wp2)
  go_ret
  refine ⟨_, rfl, ?_, B1.out.setCell hgb _⟩
  have := (O1.out.stored i (.string s)).1
  unfold OwnRow
  rwa [List.length_set, List.map_set]
theorem rget_two (s : ByteArray) (k : Nat) (w : World) (hk : k + 2 ≤ s.size) (hs : s.size ≤ 1000000) : Calls Tryz.prog 75 #[.string (s.extract k (k + 2))] w fun e w' => e = .returned (.int .u64 (leN ((s.data.toList.drop k).take 2))) ∧ w = w' := by
  refine (rget_any _ w (by simp [ByteArray.size_extract]; omega)).mono ?_
  rintro e w' ⟨rfl, rfl⟩
  refine ⟨?_, rfl⟩
  rw [Lib.extract_data, show k + 2 - k = 2 by omega]
set_option maxHeartbeats 1000000 in
theorem rof_short (A : Option Addr) (c : Nat) (xs : List ByteArray) (w : World) (h3 : xs.length < 3) : Calls Tryz.prog 73 #[.slice A xs.length c] w (OfPost xs w) := by
  have HO := Lib.hid (show ofR xs = none from ofR_none.2 fun hv => by have := hv.len; omega)
  have h3' : (xs.length : Int) < 3 := by omega
  go_enter Tryz.func73, Tryz.ntmps73
  go_wp2
  exact bodyPost_ret (v := .tuple #[.agg #[.int .i64 0, .int .i64 0, .int .i64 0, .int .i64 0, .int .i64 0, .int .i64 0], .int .i64 3]) (by simp [results, Tryz.results73, go_sem]) rfl (of_none HO.out ((Below.refl w.heap.size w).alloc (Nat.le_refl _) _))
set_option maxHeartbeats 1000000 in
theorem rof_bad (A : Option Addr) (c : Nat) (xs : List ByteArray) (w : World) (h3 : ¬ xs.length < 3) (hx : xs.length ≤ 1000000) (h : RowAt w w.heap.size A (xs.map .string)) (hn : ¬ ∀ s ∈ xs, s.size = 128) :
    Calls Tryz.prog 73 #[.slice A xs.length c] w (OfPost xs w) := by
  have HO := Lib.hid (show ofR xs = none from ofR_none.2 fun hv => hn hv.1)
  have HR := Lib.hid h
  have HN := Lib.hid hn
  have HB := Lib.hid (fun (o : Obj) => (Below.refl w.heap.size w).alloc (Nat.le_refl _) o)
  have h3' : ¬ (xs.length : Int) < 3 := by omega
  clear h hn
  go_enter Tryz.func73, Tryz.ntmps73
  go_wp2
  go_loop [15] (fun i => ∃ k : Nat, k ≤ xs.length ∧ i = .int .i64 k ∧ Hid (∀ j (hj : j < xs.length), j < k → xs[j].size = 128)) (fun i => xs.length - (intOf i).toNat)
  case atStart => exact ⟨0, Nat.zero_le _, rfl, fun j hj h => by omega⟩
  case round =>
    obtain ⟨k, hk, rfl, HK⟩ := hrel
    by_cases hlt : k < xs.length
    · obtain ⟨b, o, rfl, hb, hc⟩ := row_get HR.out k hlt
      rw [getD_eq xs k hlt] at hc
      have hc1 : (w.alloc (.cells #[.int .i64 0, .int .i64 0, .int .i64 0, .int .i64 0, .int .i64 0, .int .i64 0] 54)).cell? ⟨b, o + k, none⟩ = some (.string xs[k]) := ((HB.out _).cell (p := ⟨b, o + k, none⟩) hb).trans hc
      clear hc
      by_cases hs : xs[k].size = 128
      · have h1 : ((xs[k].size : Int) != 128) = false := by simp [hs]
        have HS := Lib.hid hs
        clear hs
        go_wp2
        go_round
        case rel => exact ⟨k + 1, by omega, by go_num, fun j hj hl => by
          by_cases e : j = k
          · subst e; exact HS.out
          · exact HK.out j hj (by omega)⟩
        case measure => simp [intOf]; omega
      · have h1 : ((xs[k].size : Int) != 128) = true := by simp; omega
        clear hs
        go_wp2
        exact bodyPost_ret (v := .tuple #[.agg #[.int .i64 0, .int .i64 0, .int .i64 0, .int .i64 0, .int .i64 0, .int .i64 0], .int .i64 3]) (by simp [results, Tryz.results73, go_sem]) rfl (of_none HO.out (HB.out _))
    · exfalso
      apply HN.out
      intro s hs
      obtain ⟨j, hj, rfl⟩ := List.getElem_of_mem hs
      exact HK.out j hj (by omega)
set_option maxHeartbeats 8000000 in
theorem rof_good (A : Option Addr) (c : Nat) (xs : List ByteArray) (w : World) (h3 : ¬ xs.length < 3) (hx : xs.length ≤ 1000000) (h : RowAt w w.heap.size A (xs.map .string)) (hn : ∀ s ∈ xs, s.size = 128) :
    Calls Tryz.prog 73 #[.slice A xs.length c] w (OfPost xs w) := by
  have HR := Lib.hid h
  have HN := Lib.hid hn
  have HS : Hid (∀ j (hj : j < xs.length), xs[j].size = 128) := fun j hj => HN.out _ (List.getElem_mem hj)
  have HB := Lib.hid (fun (o : Obj) => (Below.refl w.heap.size w).alloc (Nat.le_refl _) o)
  have h3' : ¬ (xs.length : Int) < 3 := by omega
  clear h hn
  go_enter Tryz.func73, Tryz.ntmps73
  go_wp2
  go_loop [15] (fun i => ∃ k : Nat, k ≤ xs.length ∧ i = .int .i64 k) (fun i => xs.length - (intOf i).toNat)
  case atStart => exact ⟨0, Nat.zero_le _, rfl⟩
  case round =>
    obtain ⟨k, hk, rfl⟩ := hrel
    by_cases hlt : k < xs.length
    · obtain ⟨b, o, rfl, hb, hc⟩ := row_get HR.out k hlt
      rw [getD_eq xs k hlt] at hc
      have hc1 : (w.alloc (.cells #[.int .i64 0, .int .i64 0, .int .i64 0, .int .i64 0, .int .i64 0, .int .i64 0] 54)).cell? ⟨b, o + k, none⟩ = some (.string xs[k]) := ((HB.out _).cell (p := ⟨b, o + k, none⟩) hb).trans hc
      have h1 : ((xs[k].size : Int) != 128) = false := by simp [HS.out k hlt]
      clear hc
      go_wp2
      go_round
      case rel => exact ⟨k + 1, by omega, by go_num⟩
      case measure => simp [intOf]; omega
    · generalize hw1 : w.alloc _ = w1
      have G2 : Hid (Blk w1 w.heap.size 54 #[.int .i64 0, .int .i64 0, .int .i64 0, .int .i64 0, .int .i64 0, .int .i64 0]) := hw1 ▸ Blk.new _ _ _
      have B : Hid (Below w.heap.size w w1) := hw1 ▸ HB.out _
      clear hw1 HB
      obtain ⟨b, o, rfl, hb, hc0⟩ := row_get HR.out 0 (by omega)
      obtain ⟨_, _, e2, _, hc2⟩ := row_get HR.out 2 (by omega)
      cases e2
      have hS0 := HS.out 0 (by omega)
      have hS2 := HS.out 2 (by omega)
      have HE0 : Hid (blkL xs 0 = (xs.getD 0 ⟨#[]⟩).data.toList) := rfl
      have HE2 : Hid (blkL xs 2 = (xs.getD 2 ⟨#[]⟩).data.toList) := rfl
      rw [← getD_eq xs 0 (by omega)] at hS0
      rw [← getD_eq xs 2 (by omega)] at hS2
      generalize hs0 : xs.getD 0 ⟨#[]⟩ = s0 at hS0 hc0 HE0
      generalize hs2 : xs.getD 2 ⟨#[]⟩ = s2 at hS2 hc2 HE2
      rw [Nat.add_zero] at hc0
      have HS0 := Lib.hid hs0
      have z0 : (6 : Int) ≤ (s0.size : Int) := by omega
      have z1 : (8 : Int) ≤ (s0.size : Int) := by omega
      have z2 : (0 : Int) < (xs.length : Int) := by omega
      have z3 : 0 < xs.length := by omega
      have z4 : ¬ xs = [] := by rintro rfl; simp at z3
      have z5 : (2 : Int) < (xs.length : Int) := by omega
      have z6 : 2 < xs.length := by omega
      obtain ⟨mn, hmn⟩ : ∃ n, inoN xs = n := ⟨_, rfl⟩
      have c2 : ∀ w, Calls Tryz.prog 75 #[.string (s0.extract 6 8)] w fun e w' => e = .returned (.int .u64 mn) ∧ w = w' := fun w => by
        rw [← hmn]; unfold inoN; rw [HE0.out]; exact rget_two s0 6 w (by omega) (by omega)
      have hm6 : mn < 65536 := by rw [← hmn]; exact leN_two _
      have wr2 : IntKind.i64.wrap (mn : Int) = (mn : Int) := IntWalk.i64_in _ (by omega)
      have HMN := Lib.hid hmn
      have C2 := Lib.hid c2
      have hbw : b < w1.heap.size := Nat.lt_of_lt_of_le hb B.out.size
      have hcw : w1.cell? ⟨b, o, none⟩ = some (.string s0) := (B.out.cell (p := ⟨b, o, none⟩) hb).trans hc0
      have HC0 := Lib.hid hcw
      have HC2 : Hid (w1.cell? ⟨b, o + 2, none⟩ = some (.string s2)) := (B.out.cell (p := ⟨b, o + 2, none⟩) hb).trans hc2
      clear c2 hmn hs0 hs2 hc0 hc2
      by_cases hpl : planE (xs.length : Int) (mn : Int) = 0
      case neg =>
        have HO := Lib.hid (show ofR xs = none from ofR_none.2 fun hv => hpl (by rw [← HMN.out]; exact hv.2.1))
        obtain ⟨pe, hpe⟩ : ∃ e, planE (xs.length : Int) (mn : Int) = e := ⟨_, rfl⟩
        have c3 : ∀ w, Calls Tryz.prog 97 #[.int .i64 xs.length, .int .i64 mn] w fun e w' => e = .returned (.tuple #[.agg #[.int .i64 0, .int .i64 0, .int .i64 0, .int .i64 0, .int .i64 0, .int .i64 0], .int .i64 pe]) ∧ Below w.heap.size w w' := fun w => by
          refine (rplan_any xs.length mn w).mono ?_
          rintro e w' ⟨rfl, hb⟩
          refine ⟨?_, hb⟩
          unfold planC
          rw [if_neg hpl, hpe]; rfl
        have C3 := Lib.hid c3
        have hpe' : (pe != 0) = true := by rw [hpe] at hpl; simpa using hpl
        clear c3 hpe hpl
        go_wp2_with fail
        refine (C2.out _).mono ?_
        rintro e w' ⟨rfl, rfl⟩
        go_wp2_with fail
        refine (C3.out _).mono ?_
        rintro e w6 ⟨rfl, hb6⟩
        have B6 := Lib.hid hb6
        clear hb6
        go_upto_region 10 with fail
        generalize hw8 : w6.alloc _ = w8
        have G6 : Hid (Blk w8 w6.heap.size 54 _) := hw8 ▸ Blk.new _ _ _
        have B6 : Hid (Below w1.heap.size w1 w8) := hw8 ▸ B6.out.alloc B6.out.size _
        clear hw8
        have G2 := Lib.hid (G2.out.below B6.out G2.out.lt)
        have B := Lib.hid (B.out.trans (B6.out.mono B.out.size))
        clear hcw C2 C3
        have x0 : True := trivial
        go_upto_region 10 with fail
        refine wp_region_ext (by kernel_rfl) (by kernel_rfl) ?_
        repeat (go_big_quiet_step (fail))
        refine wpQuiet_nil ?_
        rintro _ ⟨u, rfl⟩
        have G2 := Lib.hid (G2.out.below u.below G2.out.lt)
        have B := Lib.hid (B.out.trans (u.below.mono B.out.size))
        generalize u.val = w7 at G2 B
        have p0 : w7.cell? ⟨w.heap.size, 0, none⟩ = some (.int .i64 0) := G2.out.cell 0 rfl
        have f0 : w7.frozen? ⟨w.heap.size, 0, none⟩ = false := G2.out.frozen 0
        have p1 : w7.cell? ⟨w.heap.size, 1, none⟩ = some (.int .i64 0) := G2.out.cell 1 rfl
        have f1 : w7.frozen? ⟨w.heap.size, 1, none⟩ = false := G2.out.frozen 1
        have p2 : w7.cell? ⟨w.heap.size, 2, none⟩ = some (.int .i64 0) := G2.out.cell 2 rfl
        have f2 : w7.frozen? ⟨w.heap.size, 2, none⟩ = false := G2.out.frozen 2
        have p3 : w7.cell? ⟨w.heap.size, 3, none⟩ = some (.int .i64 0) := G2.out.cell 3 rfl
        have f3 : w7.frozen? ⟨w.heap.size, 3, none⟩ = false := G2.out.frozen 3
        have p4 : w7.cell? ⟨w.heap.size, 4, none⟩ = some (.int .i64 0) := G2.out.cell 4 rfl
        have f4 : w7.frozen? ⟨w.heap.size, 4, none⟩ = false := G2.out.frozen 4
        have p5 : w7.cell? ⟨w.heap.size, 5, none⟩ = some (.int .i64 0) := G2.out.cell 5 rfl
        have f5 : w7.frozen? ⟨w.heap.size, 5, none⟩ = false := G2.out.frozen 5
        go_wp2
        refine bodyPost_ret (results_ct rfl rfl rfl ((((((G2.out.set_ 0 _).set_ 1 _).set_ 2 _).set_ 3 _).set_ 4 _).set_ 5 _) Tryz.underlying54 rfl (by kernel_rfl)) rfl ?_
        exact of_none HO.out (((((((B.out.setCell (Nat.le_refl _) _).setCell (Nat.le_refl _) _).setCell (Nat.le_refl _) _).setCell (Nat.le_refl _) _).setCell (Nat.le_refl _) _).setCell (Nat.le_refl _) _))
      case pos =>
        have HPL := Lib.hid hpl
        have hp := planE_iff.1 hpl
        obtain ⟨d, hd⟩ : ∃ d : Nat, dataN mn = d := ⟨_, rfl⟩
        have hdi : (3 : Int) + ((mn : Int) + 1) / 2 = (d : Int) := by unfold dataN at hd; omega
        obtain ⟨bn, hbn⟩ : ∃ n, xs.length = n := ⟨_, rfl⟩
        have c3 : ∀ w, Calls Tryz.prog 97 #[.int .i64 xs.length, .int .i64 mn] w fun e w' => e = .returned (.tuple #[.agg #[.int .i64 bn, .int .i64 mn, .int .i64 1, .int .i64 2, .int .i64 3, .int .i64 d], .int .i64 0]) ∧ Below w.heap.size w w' := fun w => by
          refine (rplan_any xs.length mn w).mono ?_
          rintro e w' ⟨rfl, hb⟩
          refine ⟨?_, hb⟩
          unfold planC geomC
          rw [if_pos hpl, hpl, hdi, hbn]
        have C3 := Lib.hid c3
        have HD := Lib.hid hd
        have HLEN : Hid (bn = xs.length) := hbn.symm
        rw [hd, hbn] at hp
        have HP := Lib.hid hp
        have hb2 : bn ≤ 1000000 := by omega
        clear c3 hpl hd hdi hp hbn
        go_wp2_with fail
        refine (C2.out _).mono ?_
        rintro e w' ⟨rfl, rfl⟩
        go_wp2_with fail
        refine (C3.out _).mono ?_
        rintro e w6 ⟨rfl, hb6⟩
        have B6 := Lib.hid hb6
        clear hb6
        go_upto_region 10 with fail
        generalize hw8 : w6.alloc _ = w8
        have G6 : Hid (Blk w8 w6.heap.size 54 _) := hw8 ▸ Blk.new _ _ _
        have B6 : Hid (Below w1.heap.size w1 w8) := hw8 ▸ B6.out.alloc B6.out.size _
        clear hw8
        have G2 := Lib.hid (G2.out.below B6.out G2.out.lt)
        have B := Lib.hid (B.out.trans (B6.out.mono B.out.size))
        clear hcw C2 C3
        have HCW0 := Lib.hid ((B6.out.cell (p := ⟨b, o, none⟩) hbw).trans HC0.out)
        have HCW2 := Lib.hid ((B6.out.cell (p := ⟨b, o + 2, none⟩) hbw).trans HC2.out)
        have v0 : ∀ u : Ext w8, u.val.cell? ⟨b, o, none⟩ = some (.string s0) := fun u => u.cell HCW0.out
        have x0 : ∀ u : Ext w8, u.val.cell? ⟨w6.heap.size, 0, none⟩ = some (.int .i64 bn) := fun u => u.cell (G6.out.cell 0 rfl)
        have x1 : ∀ u : Ext w8, u.val.cell? ⟨w6.heap.size, 1, none⟩ = some (.int .i64 mn) := fun u => u.cell (G6.out.cell 1 rfl)
        have x2 : ∀ u : Ext w8, u.val.cell? ⟨w6.heap.size, 2, none⟩ = some (.int .i64 1) := fun u => u.cell (G6.out.cell 2 rfl)
        have x3 : ∀ u : Ext w8, u.val.cell? ⟨w6.heap.size, 3, none⟩ = some (.int .i64 2) := fun u => u.cell (G6.out.cell 3 rfl)
        have x4 : ∀ u : Ext w8, u.val.cell? ⟨w6.heap.size, 4, none⟩ = some (.int .i64 3) := fun u => u.cell (G6.out.cell 4 rfl)
        have x5 : ∀ u : Ext w8, u.val.cell? ⟨w6.heap.size, 5, none⟩ = some (.int .i64 d) := fun u => u.cell (G6.out.cell 5 rfl)
        have C4 : Hid (∀ w, Calls Tryz.prog 98 #[.agg #[.int .i64 bn, .int .i64 mn, .int .i64 1, .int .i64 2, .int .i64 3, .int .i64 d]] w fun e w' => e = .returned (.string (headB bn mn)) ∧ Below w.heap.size w w') := fun w => rhead_any bn mn 1 2 3 d w (by omega) (by omega)
        by_cases hfi : s0 = headB bn mn
        case neg =>
          have HO := Lib.hid (show ofR xs = none from ofR_none.2 fun hv => hfi (by rw [← HS0.out, hv.2.2.1, HMN.out, HLEN.out]))
          have t2 := str_ne hfi
          clear hfi
          go_upto_region 10 with fail
          refine wp_region_ext (by kernel_rfl) (by kernel_rfl) ?_
          repeat (go_big_quiet_step (first
            | (go_at_call 98; with_reducible exact Ext.call (C4.out _))))
          refine wpQuiet_nil ?_
          rintro _ ⟨u, rfl⟩
          have G2 := Lib.hid (G2.out.below u.below G2.out.lt)
          have B := Lib.hid (B.out.trans (u.below.mono B.out.size))
          clear v0 x0 x1 x2 x3 x4 x5
          generalize u.val = w7 at G2 B
          have p0 : w7.cell? ⟨w.heap.size, 0, none⟩ = some (.int .i64 0) := G2.out.cell 0 rfl
          have f0 : w7.frozen? ⟨w.heap.size, 0, none⟩ = false := G2.out.frozen 0
          have p1 : w7.cell? ⟨w.heap.size, 1, none⟩ = some (.int .i64 0) := G2.out.cell 1 rfl
          have f1 : w7.frozen? ⟨w.heap.size, 1, none⟩ = false := G2.out.frozen 1
          have p2 : w7.cell? ⟨w.heap.size, 2, none⟩ = some (.int .i64 0) := G2.out.cell 2 rfl
          have f2 : w7.frozen? ⟨w.heap.size, 2, none⟩ = false := G2.out.frozen 2
          have p3 : w7.cell? ⟨w.heap.size, 3, none⟩ = some (.int .i64 0) := G2.out.cell 3 rfl
          have f3 : w7.frozen? ⟨w.heap.size, 3, none⟩ = false := G2.out.frozen 3
          have p4 : w7.cell? ⟨w.heap.size, 4, none⟩ = some (.int .i64 0) := G2.out.cell 4 rfl
          have f4 : w7.frozen? ⟨w.heap.size, 4, none⟩ = false := G2.out.frozen 4
          have p5 : w7.cell? ⟨w.heap.size, 5, none⟩ = some (.int .i64 0) := G2.out.cell 5 rfl
          have f5 : w7.frozen? ⟨w.heap.size, 5, none⟩ = false := G2.out.frozen 5
          go_wp2
          refine bodyPost_ret (results_ct rfl rfl rfl ((((((G2.out.set_ 0 _).set_ 1 _).set_ 2 _).set_ 3 _).set_ 4 _).set_ 5 _) Tryz.underlying54 rfl (by kernel_rfl)) rfl ?_
          exact of_none HO.out (((((((B.out.setCell (Nat.le_refl _) _).setCell (Nat.le_refl _) _).setCell (Nat.le_refl _) _).setCell (Nat.le_refl _) _).setCell (Nat.le_refl _) _).setCell (Nat.le_refl _) _))
        have HFI := Lib.hid hfi
        have t2 : (!s0.toList == (headB bn mn).toList) = false := by rw [hfi]; simp
        clear hfi
        go_upto_region 10 with fail
        refine wp_region_ext (by kernel_rfl) (by kernel_rfl) ?_
        repeat (go_big_quiet_step (first
          | (go_at_call 98; with_reducible exact Ext.call (C4.out _))))
        refine wpQuiet_nil ?_
        rintro _ ⟨u, rfl⟩
        have G2 := Lib.hid (G2.out.below u.below G2.out.lt)
        have G6 := Lib.hid (G6.out.below u.below G6.out.lt)
        have B := Lib.hid (B.out.trans (u.below.mono B.out.size))
        have hq2 : u.val.cell? ⟨b, o + 2, none⟩ = some (.string s2) := u.cell HCW2.out
        clear v0 x0 x1 x2 x3 x4 x5 t2 HCW0 HCW2
        generalize u.val = w7 at G2 B G6 hq2
        have C5 : Hid (∀ i : Nat, i < 1024 → Calls Tryz.prog 81 #[.string s2, .int .i64 i] w7 fun e w' => e = .returned (.bool (bitL (blkL xs 2) i)) ∧ w7 = w') := fun i hi => by rw [HE2.out]; exact rbit_any s2 i w7 hS2 hi
        have p0 : w7.cell? ⟨w.heap.size, 0, none⟩ = some (.int .i64 0) := G2.out.cell 0 rfl
        have f0 : w7.frozen? ⟨w.heap.size, 0, none⟩ = false := G2.out.frozen 0
        have p1 : w7.cell? ⟨w.heap.size, 1, none⟩ = some (.int .i64 0) := G2.out.cell 1 rfl
        have f1 : w7.frozen? ⟨w.heap.size, 1, none⟩ = false := G2.out.frozen 1
        have p2 : w7.cell? ⟨w.heap.size, 2, none⟩ = some (.int .i64 0) := G2.out.cell 2 rfl
        have f2 : w7.frozen? ⟨w.heap.size, 2, none⟩ = false := G2.out.frozen 2
        have p3 : w7.cell? ⟨w.heap.size, 3, none⟩ = some (.int .i64 0) := G2.out.cell 3 rfl
        have f3 : w7.frozen? ⟨w.heap.size, 3, none⟩ = false := G2.out.frozen 3
        have p4 : w7.cell? ⟨w.heap.size, 4, none⟩ = some (.int .i64 0) := G2.out.cell 4 rfl
        have f4 : w7.frozen? ⟨w.heap.size, 4, none⟩ = false := G2.out.frozen 4
        have p5 : w7.cell? ⟨w.heap.size, 5, none⟩ = some (.int .i64 0) := G2.out.cell 5 rfl
        have f5 : w7.frozen? ⟨w.heap.size, 5, none⟩ = false := G2.out.frozen 5
        have y0 : w7.cell? ⟨w6.heap.size, 0, none⟩ = some (.int .i64 bn) := G6.out.cell 0 rfl
        have y5 : w7.cell? ⟨w6.heap.size, 5, none⟩ = some (.int .i64 d) := G6.out.cell 5 rfl
        go_wp2
        go_loop [8] (fun i => ∃ k : Nat, k ≤ 1024 ∧ i = .int .i64 k ∧ Hid (∀ j, j < k → (j < d → bitL (blkL xs 2) j = true) ∧ (bn ≤ j → bitL (blkL xs 2) j = false))) (fun i => 1024 - (intOf i).toNat)
        case atStart => exact ⟨0, by omega, rfl, fun j hj => by omega⟩
        case round =>
          obtain ⟨k, hk, rfl, HK⟩ := hrel
          by_cases hlt2 : k < 1024
          · have C6 := Lib.hid (C5.out k hlt2)
            cases hbit : bitL (blkL xs 2) k with
            | false =>
              rw [hbit] at C6
              by_cases hkd : k < d
              · have HO := Lib.hid (or_bad (xs := xs) hlt2 (.inl ⟨by rw [HMN.out, HD.out]; exact hkd, hbit⟩))
                have s1 : decide (k < d) = true := by simpa using hkd
                clear hbit
                go_wp2_with (go_at_call 81; refine C6.out.mono ?_; rintro e w' ⟨rfl, rfl⟩)
                refine bodyPost_ret (results_ct rfl rfl rfl ((((((G2.out.set_ 0 _).set_ 1 _).set_ 2 _).set_ 3 _).set_ 4 _).set_ 5 _) Tryz.underlying54 rfl (by kernel_rfl)) rfl ?_
                exact of_none HO.out (((((((B.out.setCell (Nat.le_refl _) _).setCell (Nat.le_refl _) _).setCell (Nat.le_refl _) _).setCell (Nat.le_refl _) _).setCell (Nat.le_refl _) _).setCell (Nat.le_refl _) _))
              · have s1 : decide (k < d) = false := by simpa using hkd
                have HBT := Lib.hid hbit
                clear hbit
                by_cases hkb : bn ≤ k
                all_goals
                  go_wp2_with (go_at_call 81; refine C6.out.mono ?_; rintro e w' ⟨rfl, rfl⟩)
                  go_round
                  case rel => exact ⟨k + 1, by omega, by go_num, fun j hj => by
                    by_cases e : j = k
                    · subst e; exact ⟨fun h => absurd h (by omega), fun _ => HBT.out⟩
                    · exact HK.out j (by omega)⟩
                  case measure => simp [intOf]; omega
            | true =>
              rw [hbit] at C6
              have HBT := Lib.hid hbit
              clear hbit
              by_cases hkb : bn ≤ k
              · have HO := Lib.hid (or_bad (xs := xs) hlt2 (.inr ⟨by rw [← HLEN.out]; exact hkb, HBT.out⟩))
                have s1 : decide (k < d) = false := by have := HP.out; simp; omega
                have s2 : decide (bn ≤ k) = true := by simpa using hkb
                go_wp2_with (go_at_call 81; refine C6.out.mono ?_; rintro e w' ⟨rfl, rfl⟩)
                refine bodyPost_ret (results_ct rfl rfl rfl ((((((G2.out.set_ 0 _).set_ 1 _).set_ 2 _).set_ 3 _).set_ 4 _).set_ 5 _) Tryz.underlying54 rfl (by kernel_rfl)) rfl ?_
                exact of_none HO.out (((((((B.out.setCell (Nat.le_refl _) _).setCell (Nat.le_refl _) _).setCell (Nat.le_refl _) _).setCell (Nat.le_refl _) _).setCell (Nat.le_refl _) _).setCell (Nat.le_refl _) _))
              · have s2 : decide (bn ≤ k) = false := by simpa using hkb
                by_cases hkd : k < d
                all_goals
                  go_wp2_with (go_at_call 81; refine C6.out.mono ?_; rintro e w' ⟨rfl, rfl⟩)
                  go_round
                  case rel => exact ⟨k + 1, by omega, by go_num, fun j hj => by
                    by_cases e : j = k
                    · subst e; exact ⟨fun _ => HBT.out, fun h => absurd h (by omega)⟩
                    · exact HK.out j (by omega)⟩
                  case measure => simp [intOf]; omega
          · have HO : Hid (ofR xs = some mn) := ofR_some.2 ⟨HN.out, HPL.out, by rw [HS0.out, HFI.out, HLEN.out], by
              rw [bitsOk_iff, HD.out, ← HLEN.out]
              intro i hi
              exact HK.out i (by omega)⟩
            have y1 : w7.cell? ⟨w6.heap.size, 1, none⟩ = some (.int .i64 mn) := G6.out.cell 1 rfl
            have y2 : w7.cell? ⟨w6.heap.size, 2, none⟩ = some (.int .i64 1) := G6.out.cell 2 rfl
            have y3 : w7.cell? ⟨w6.heap.size, 3, none⟩ = some (.int .i64 2) := G6.out.cell 3 rfl
            have y4 : w7.cell? ⟨w6.heap.size, 4, none⟩ = some (.int .i64 3) := G6.out.cell 4 rfl
            go_wp2
            refine bodyPost_ret (results_ct rfl rfl rfl ((((((G2.out.set_ 0 _).set_ 1 _).set_ 2 _).set_ 3 _).set_ 4 _).set_ 5 _) Tryz.underlying54 rfl (by kernel_rfl)) rfl ?_
            unfold OfPost
            rw [HO.out, ← HLEN.out]
            unfold ofE
            dsimp only
            rw [HD.out]
            exact ⟨rfl, (((((((B.out.setCell (Nat.le_refl _) _).setCell (Nat.le_refl _) _).setCell (Nat.le_refl _) _).setCell (Nat.le_refl _) _).setCell (Nat.le_refl _) _).setCell (Nat.le_refl _) _))⟩
theorem rof_any (A : Option Addr) (c : Nat) (xs : List ByteArray) (w : World) (hx : xs.length ≤ 1000000) (h : RowAt w w.heap.size A (xs.map .string)) :
    Calls Tryz.prog 73 #[.slice A xs.length c] w (OfPost xs w) := by
  by_cases h3 : xs.length < 3
  · exact rof_short A c xs w h3
  by_cases hn : ∀ s ∈ xs, s.size = 128
  · exact rof_good A c xs w h3 hx h hn
  · exact rof_bad A c xs w h3 hx h hn
end Go.Proofs.YtoanladhikdcaaaGreat
