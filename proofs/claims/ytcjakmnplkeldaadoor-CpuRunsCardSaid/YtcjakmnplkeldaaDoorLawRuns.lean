/-
  CpuRuns: the walk.
-/
import Derived.Test.YtcjakmnplkeldaaDoorRunsPlain
namespace Go.Proofs.YtcjakmnplkeldaaDoor
open Go.RowKit
set_option linter.unusedVariables false
set_option linter.unusedSimpArgs false
set_option maxRecDepth 100000
def RunR (l : List Pte) (n m gc gs gd : Nat) (w : World) (s2 s10 t11 : Value) (wr : World) : Prop := ∃ (i : Nat) (R : List Nat) (pc : Nat) (xs : List ByteArray) (A A2 : Option Addr) (c c2 : Nat), i ≤ m ∧ t11 = .int .i64 i ∧ s2 = .slice A n c ∧ s10 = .slice A2 n c2 ∧
  Hid (RowAt wr wr.heap.size A (xs.map .string)) ∧ Hid (RowAt wr wr.heap.size A2 (xs.map .string)) ∧ Hid (A = none → n = 0 ∧ c = 0) ∧ Hid (A2 = none → n = 0 ∧ c2 = 0) ∧ Hid (Regs R) ∧ pc < 4294967296 ∧ Hid (xs.length = n) ∧
  Hid (Blk wr gc 25 (cpuC R pc)) ∧ Hid (Blk wr gd 25 (cpuC R pc)) ∧ Hid (Blk wr gs 29 (pteL l).toArray) ∧ Hid (Below w.heap.size w wr)
set_option maxHeartbeats 4000000 in
theorem law_runs (R : List Nat) (pc : Nat) (l : List Pte) (A : Option Addr) (c : Nat) (xs : List ByteArray) (nb : Nat) (w : World) (ht : Tab5 w) (hR : Regs R) (hp : pc < 4294967296) (hl : l.length = 16) (hx : xs.length ≤ maxLen) (hs : ∀ s ∈ xs, s.size ≤ 9223372036854775807)
    (h : RowAt w w.heap.size A (xs.map .string)) (h0 : A = none → xs.length = 0 ∧ c = 0) (hn : nb < 256) :
    Calls Tryd.prog 4 #[.agg (cpuC R pc), .agg (pteL l).toArray, .slice A xs.length c, .int .u8 nb] w fun e w' => e = .returned (.bool true) ∧ Below w.heap.size w w' := by
  obtain ⟨m, hm⟩ : ∃ m, nb % 40 = m := ⟨_, rfl⟩
  have s0 : IntKind.i64.wrap (nb : Int) = (nb : Int) := IntWalk.i64_in _ (by omega)
  have e1 : (nb : Int).tmod 40 = (m : Nat) := by rw [Int.tmod_eq_emod_of_nonneg (by omega)]; omega
  have m40 : m < 40 := by omega
  clear hm
  have HT := Lib.hid ht
  have HR := Lib.hid hR
  have HL := Lib.hid hl
  have HX := Lib.hid hx
  have HS := Lib.hid hs
  have HA := Lib.hid h
  have H0 := Lib.hid h0
  clear ht hR hl hx hs h h0
  have C0 : Hid (Blk ((w.alloc (.cells (cpuC R pc) 25)).alloc (.cells (pteL l).toArray 29)) w.heap.size 25 (cpuC R pc)) := (Blk.new w _ _).alloc _
  have S0 : Hid (Blk ((w.alloc (.cells (cpuC R pc) 25)).alloc (.cells (pteL l).toArray 29)) (w.heap.size + 1) 29 (pteL l).toArray) := by
    have := Blk.new (w.alloc (.cells (cpuC R pc) 25)) 29 (pteL l).toArray
    rwa [World.size_alloc] at this
  have B0 : Hid (Below w.heap.size w ((w.alloc (.cells (cpuC R pc) 25)).alloc (.cells (pteL l).toArray 29))) := ((Below.refl _ _).alloc (Nat.le_refl _) _).alloc (by simp) _
  go_enter Tryd.func4, Tryd.ntmps4
  go_wp2_with fail
  refine (alive14_any _ (HT.out.later B0.out)).mono ?_
  rintro e w0 ⟨rfl, hb⟩
  have Cc := Lib.hid (C0.out.below hb C0.out.lt)
  have S := Lib.hid (S0.out.below hb S0.out.lt)
  have B := Lib.hid (B0.out.trans (hb.mono B0.out.size))
  clear hb C0 S0 B0
  have RA := Lib.hid ((HA.out.below B.out).mono B.out.size)
  go_wp2_with fail
  refine (great14_any A c xs w0 HX.out HS.out RA.out).mono ?_
  rintro e w' ⟨he, rfl⟩
  rcases he with rfl | ⟨rfl, hsm⟩
  · go_wp2
    go_ret
    exact ⟨rfl, B.out⟩
  have x16 : xs.length ≤ 16 := hsm.1
  clear hsm
  obtain ⟨n, hnn⟩ : ∃ n, xs.length = n := ⟨_, rfl⟩
  have HN := Lib.hid hnn
  have h0' := H0.out
  rw [hnn] at h0' x16 ⊢
  have H0n := Lib.hid h0'
  clear hnn h0' H0
  have hgd := Cc.out.lt
  have hgs := S.out.lt
  go_wp2_with (first
    | (refine load_blk 25 (.tmp 4) w.heap.size 25 (cpuC R pc) _ rfl rfl rfl Cc.out Tryd.underlying25 rfl (cpu_size HR.out.1) ?_; go_frame)
    | (refine store_blk 25 (.tmp 9) (.tmp 18) w0.heap.size 25 zC (cpuC R pc) rfl rfl rfl rfl (Blk.new w0 _ _) (by rw [cpuC_size, HR.out.1]; rfl) (cpu_size HR.out.1) (cpuC_one _ _) ?_; intro w2 hr2 hg2; go_frame))
  have D := Lib.hid hr2
  replace RA := Lib.hid (row_past ((RA.out.below ((Below.refl _ _).alloc (Nat.le_refl _) _)).mono (by simp)) (Blk.new w0 25 zC) (fun v hv => by simp [zC] at hv; exact ⟨_, _, hv⟩) hg2)
  replace Cc := Lib.hid ((Cc.out.alloc _).grown hg2 (ne_blk (by omega)))
  replace S := Lib.hid ((S.out.alloc _).grown hg2 (ne_blk (by omega)))
  replace B := Lib.hid ((B.out.alloc B.out.size _).grown hg2 (by have := B.out.size; simp; omega) (fun k hk => by cases hk; exact B.out.size))
  clear hr2 hg2
  generalize w0.heap.size = gd at *
  go_loopw [2, 10, 11] (fun s2 s10 t11 wr => RunR l n m w.heap.size (w.heap.size + 1) gd w s2 s10 t11 wr) (fun _ _ i _ => m - (intOf i).toNat)
  case atStart => exact ⟨0, R, pc, xs, A, A, c, c, Nat.zero_le _, rfl, rfl, rfl, RA, RA, H0n, H0n, HR, hp, HN, Cc, D, S, B⟩
  case round =>
    clear RA HR HN H0n D Cc S B HX HS HA hp
    obtain ⟨i, R, pc, xs, A, A2, c, c2, hi, rfl, rfl, rfl, RA, RB, HA0, HB0, HR, hp, HN, Cc, D, S, B⟩ := hrel
    by_cases hlt : i < m
    · have ki : (i : Int) < (m : Int) := by omega
      have SO := Lib.hid (step_ok (l := l) (xs := xs) HR.out hp)
      have pa := fun w => step_out (rfl : stepR R pc l xs = stepR R pc l xs) A c w HR.out hp HL.out (by rw [HN.out]; omega)
      have pb := fun w => rstep_out (rfl : stepR R pc l xs = stepR R pc l xs) A2 c2 w HR.out hp HL.out (by rw [HN.out]; omega)
      rw [HN.out] at pa pb SO
      have PA := Lib.hid pa
      have PB := Lib.hid pb
      clear pa pb
      generalize stepR R pc l xs = o at *
      obtain ⟨Q, qc, ys, kd, nn⟩ := o
      have HQ := Lib.hid SO.out.R
      have hqc : qc < 4294967296 := SO.out.pc
      have HY := Lib.hid SO.out.xs
      try dsimp only at PA PB HQ HY
      rw [HY.out] at PA PB
      have RO := Lib.hid HQ.out.1
      have RO0 := Lib.hid HR.out.1
      clear SO
      have hgd' := D.out.lt
      have hz : wr.heap.size < wr.heap.size + 1 := by omega
      have E1 : Hid (Blk ((wr.alloc (.cells zE 34)).alloc (.cells zE 34)) wr.heap.size 34 zE) := (Blk.new wr _ _).alloc _
      have E2 : Hid (Blk ((wr.alloc (.cells zE 34)).alloc (.cells zE 34)) (wr.heap.size + 1) 34 zE) := by
        have := Blk.new (wr.alloc (.cells zE 34)) 34 zE
        rwa [World.size_alloc] at this
      have hbl : Hid (Below wr.heap.size wr ((wr.alloc (.cells zE 34)).alloc (.cells zE 34))) := ((Below.refl _ _).alloc (Nat.le_refl _) _).alloc (by simp) _
      replace RA := Lib.hid ((RA.out.below hbl.out).mono hbl.out.size)
      replace RB := Lib.hid ((RB.out.below hbl.out).mono hbl.out.size)
      replace Cc := Lib.hid (Cc.out.below hbl.out Cc.out.lt)
      replace D := Lib.hid (D.out.below hbl.out D.out.lt)
      replace S := Lib.hid (S.out.below hbl.out S.out.lt)
      replace B := Lib.hid (B.out.trans (hbl.out.mono B.out.size))
      clear hbl
      go_wp2_with (first
        | (refine load_blk 25 (.tmp 4) w.heap.size 25 (cpuC R pc) _ rfl rfl rfl Cc.out Tryd.underlying25 rfl (cpu_size RO0.out) ?_; go_frame)
        | (refine load_blk 29 (.tmp 5) (w.heap.size + 1) 29 (pteL l).toArray _ rfl rfl rfl S.out Tryd.underlying29 rfl (space_size HL.out) ?_; go_frame))
      refine (PA.out _ RA.out HA0.out (HT.out.later B.out)).mono ?_
      rintro e wa ⟨⟨Aa, ca, rfl, hra, h0a, _⟩, hba⟩
      have RM := Lib.hid hra
      have HM0 := Lib.hid h0a
      replace RB := Lib.hid ((RB.out.below hba).mono hba.size)
      replace Cc := Lib.hid (Cc.out.below hba Cc.out.lt)
      replace D := Lib.hid (D.out.below hba D.out.lt)
      replace S := Lib.hid (S.out.below hba S.out.lt)
      replace E1 := Lib.hid (E1.out.below hba E1.out.lt)
      replace E2 := Lib.hid (E2.out.below hba E2.out.lt)
      replace B := Lib.hid (B.out.trans (hba.mono B.out.size))
      clear hba hra h0a RA HA0 PA
      generalize wr.heap.size = ge at *
      go_wp2_with (first
        | (refine store_blk 25 (.tmp 4) (.tmp 32) w.heap.size 25 (cpuC R pc) (cpuC Q qc) rfl rfl rfl rfl Cc.out (by simp only [cpuC_size, RO.out, RO0.out]) (cpu_size RO.out) (cpuC_one _ _) ?_; intro wa4 hra4 hga4; go_frame)
        | (refine store_blk 34 (.tmp 12) (.tmp 34) ge 34 zE (evC kd nn) rfl rfl rfl rfl (E1.out.grown hga4 (ne_blk (by omega))) rfl ev_info (evC_one _ _) ?_; intro wa5 hra5 hga5; go_frame)
        | (refine load_blk 25 (.tmp 9) gd 25 (cpuC R pc) _ rfl rfl rfl ((D.out.grown hga4 (ne_blk (by omega))).grown hga5 (ne_blk (by omega))) Tryd.underlying25 rfl (cpu_size RO0.out) ?_; go_frame)
        | (refine load_blk 29 (.tmp 5) (w.heap.size + 1) 29 (pteL l).toArray _ rfl rfl rfl ((S.out.grown hga4 (ne_blk (by omega))).grown hga5 (ne_blk (by omega))) Tryd.underlying29 rfl (space_size HL.out) ?_; go_frame))
      replace RM := Lib.hid (row_past (row_past RM.out Cc.out (cpuC_ints _ _) hga4) (E1.out.grown hga4 (ne_blk (by omega))) (evC_ints 0 0) hga5)
      replace RB := Lib.hid (row_past (row_past RB.out Cc.out (cpuC_ints _ _) hga4) (E1.out.grown hga4 (ne_blk (by omega))) (evC_ints 0 0) hga5)
      replace B := Lib.hid ((B.out.grown hga4 B.out.size (fun k hk => by cases hk; omega)).grown hga5 (B.out.grown hga4 B.out.size (fun k hk => by cases hk; omega)).size (fun k hk => by cases hk; omega))
      replace Cc := Lib.hid (hra4.grown hga5 (ne_blk (by omega)))
      replace D := Lib.hid ((D.out.grown hga4 (ne_blk (by omega))).grown hga5 (ne_blk (by omega)))
      replace S := Lib.hid ((S.out.grown hga4 (ne_blk (by omega))).grown hga5 (ne_blk (by omega)))
      replace E2 := Lib.hid ((E2.out.grown hga4 (ne_blk (by omega))).grown hga5 (ne_blk (by omega)))
      replace E1 := Lib.hid hra5
      clear hra4 hga4 hra5 hga5
      refine (PB.out _ RB.out HB0.out).mono ?_
      rintro e wb ⟨⟨Ab, cb, rfl, hrb, h0b⟩, hbb⟩
      have RN := Lib.hid hrb
      have HN0 := h0b
      replace RM := Lib.hid ((RM.out.below hbb).mono hbb.size)
      replace Cc := Lib.hid (Cc.out.below hbb Cc.out.lt)
      replace D := Lib.hid (D.out.below hbb D.out.lt)
      replace S := Lib.hid (S.out.below hbb S.out.lt)
      replace E1 := Lib.hid (E1.out.below hbb E1.out.lt)
      replace E2 := Lib.hid (E2.out.below hbb E2.out.lt)
      replace B := Lib.hid (B.out.trans (hbb.mono B.out.size))
      clear hbb hrb h0b RB HB0 PB
      have heq := fun w => cpuC_neq (pc := qc) RO.out w
      go_wp2_with (first
        | (refine store_blk 25 (.tmp 9) (.tmp 40) gd 25 (cpuC R pc) (cpuC Q qc) rfl rfl rfl rfl D.out (by simp only [cpuC_size, RO.out, RO0.out]) (cpu_size RO.out) (cpuC_one _ _) ?_; intro wb4 hrb4 hgb4; go_frame)
        | (refine store_blk 34 (.tmp 13) (.tmp 42) (ge + 1) 34 zE (evC kd nn) rfl rfl rfl rfl (E2.out.grown hgb4 (ne_blk (by omega))) rfl ev_info (evC_one _ _) ?_; intro wb5 hrb5 hgb5; have ke0 : wb5.cell? ⟨ge, 0, none⟩ = some (.int .i64 _) := Blk.cell ((E1.out.grown hgb4 (ne_blk (by omega))).grown hgb5 (ne_blk (by omega))) 0 rfl; have ke1 : wb5.cell? ⟨ge, 1, none⟩ = some (.int .u32 _) := Blk.cell ((E1.out.grown hgb4 (ne_blk (by omega))).grown hgb5 (ne_blk (by omega))) 1 rfl; have kf0 : wb5.cell? ⟨ge + 1, 0, none⟩ = some (.int .i64 _) := Blk.cell hrb5 0 rfl; have kf1 : wb5.cell? ⟨ge + 1, 1, none⟩ = some (.int .u32 _) := Blk.cell hrb5 1 rfl; go_frame)
        | (refine load_blk 25 (.tmp 4) w.heap.size 25 (cpuC Q qc) _ rfl rfl rfl ((Cc.out.grown hgb4 (ne_blk (by omega))).grown hgb5 (ne_blk (by omega))) Tryd.underlying25 rfl (cpu_size RO.out) ?_; go_frame)
        | (refine load_blk 25 (.tmp 9) gd 25 (cpuC Q qc) _ rfl rfl rfl (hrb4.grown hgb5 (ne_blk (by omega))) Tryd.underlying25 rfl (cpu_size RO.out) ?_; go_frame))
      replace RM := Lib.hid (row_past (row_past RM.out D.out (cpuC_ints _ _) hgb4) (E2.out.grown hgb4 (ne_blk (by omega))) (evC_ints 0 0) hgb5)
      replace RN := Lib.hid (row_past (row_past RN.out D.out (cpuC_ints _ _) hgb4) (E2.out.grown hgb4 (ne_blk (by omega))) (evC_ints 0 0) hgb5)
      replace B := Lib.hid ((B.out.grown hgb4 B.out.size (fun k hk => by cases hk; omega)).grown hgb5 (B.out.grown hgb4 B.out.size (fun k hk => by cases hk; omega)).size (fun k hk => by cases hk; omega))
      replace Cc := Lib.hid ((Cc.out.grown hgb4 (ne_blk (by omega))).grown hgb5 (ne_blk (by omega)))
      replace D := Lib.hid (hrb4.grown hgb5 (ne_blk (by omega)))
      replace S := Lib.hid ((S.out.grown hgb4 (ne_blk (by omega))).grown hgb5 (ne_blk (by omega)))
      replace E1 := Lib.hid ((E1.out.grown hgb4 (ne_blk (by omega))).grown hgb5 (ne_blk (by omega)))
      clear hrb4 hgb4 hrb5 hgb5 ke0 ke1 kf0 kf1 heq E2
      have yl : ys.length ≤ maxLen := by rw [HY.out]; unfold maxLen; omega
      have cs := same14_any Aa Ab ca cb ys ys wb5 yl yl RM.out RN.out
      rw [show sameN ys ys = 1 from if_pos rfl, HY.out] at cs
      have CS := Lib.hid cs
      clear cs yl
      refine CS.out.mono ?_
      rintro e wz ⟨rfl, hbz⟩
      replace RM := Lib.hid ((RM.out.below hbz).mono hbz.size)
      replace RN := Lib.hid ((RN.out.below hbz).mono hbz.size)
      replace Cc := Lib.hid (Cc.out.below hbz Cc.out.lt)
      replace D := Lib.hid (D.out.below hbz D.out.lt)
      replace S := Lib.hid (S.out.below hbz S.out.lt)
      replace E1 := Lib.hid (E1.out.below hbz E1.out.lt)
      replace B := Lib.hid (B.out.trans (hbz.mono B.out.size))
      have ke0 : wz.cell? ⟨ge, 0, none⟩ = some (.int .i64 kd) := Blk.cell E1.out 0 rfl
      clear hbz CS
      by_cases hk : kd = 0
      · have t1 : (kd != 0) = false := by simp [hk]
        clear hk
        go_wp2
        go_roundw
        case rel => exact ⟨i + 1, Q, qc, ys, Aa, Ab, ca, cb, by omega, by go_num, rfl, rfl, RM, RN, HM0, HN0, HQ, hqc, HY, Cc, D, S, B⟩
        case measure => simp [intOf]; omega
      · have t1 : (kd != 0) = true := by simpa using hk
        clear hk
        go_wp2
        go_ret
        exact ⟨rfl, B.out⟩
    · have ki : ¬ (i : Int) < (m : Int) := by omega
      go_wp2
      go_ret
      exact ⟨rfl, B.out⟩
end Go.Proofs.YtcjakmnplkeldaaDoor
