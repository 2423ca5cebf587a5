/-
  CpuArith: the walk.
-/
import Derived.Test.YtcjakmnplkeldaaDoorLawSteps
import Derived.Test.YtcjakmnplkeldaaDoorArithPlain
namespace Go.Proofs.YtcjakmnplkeldaaDoor
open Go.RowKit
set_option linter.unusedVariables false
set_option linter.unusedSimpArgs false
set_option maxRecDepth 100000
set_option maxHeartbeats 8000000 in
theorem law_arith (op a b cc : Nat) (imm : Int) (R : List Nat) (pc : Nat) (w : World) (ht : Tab5 w) (ho : op < 256) (hi1 : -2147483648 ≤ imm) (hi2 : imm < 2147483648) (hR : Regs R) (hp : pc < 4294967296) :
    Calls Tryd.prog 5 #[.agg (insC5 op a b cc imm), .agg (cpuC R pc)] w fun e w' => e = .returned (.bool true) ∧ Below w.heap.size w w' := by
  have HT := Lib.hid ht
  have HR := Lib.hid hR
  have RL := Lib.hid hR.1
  have CE := Lib.hid (fun w => renc_any ⟨op, a, b, cc, imm⟩ w ho hi1 hi2)
  have CO := Lib.hid (fun w => one_any ⟨op, a, b, cc, imm⟩ w ho hi1 hi2)
  clear ht hR
  unfold EncPost encE at CE
  unfold insE at CO
  dsimp only at CE CO
  have I0 : Hid (Blk ((w.alloc (.cells (insC5 op a b cc imm) 41)).alloc (.cells (cpuC R pc) 25)) w.heap.size 41 (insC5 op a b cc imm)) := (Blk.new w _ _).alloc _
  have C0 : Hid (Blk ((w.alloc (.cells (insC5 op a b cc imm) 41)).alloc (.cells (cpuC R pc) 25)) (w.heap.size + 1) 25 (cpuC R pc)) := by
    have := Blk.new (w.alloc (.cells (insC5 op a b cc imm) 41)) 25 (cpuC R pc)
    rwa [World.size_alloc] at this
  have B0 : Hid (Below w.heap.size w ((w.alloc (.cells (insC5 op a b cc imm) 41)).alloc (.cells (cpuC R pc) 25))) := ((Below.refl _ _).alloc (Nat.le_refl _) _).alloc (by simp) _
  go_enter Tryd.func5, Tryd.ntmps5
  go_wp2_with fail
  refine (alive14_any _ (HT.out.later B0.out)).mono ?_
  rintro e w0 ⟨rfl, hb⟩
  have I := Lib.hid (I0.out.below hb I0.out.lt)
  have Cc := Lib.hid (C0.out.below hb C0.out.lt)
  have B := Lib.hid (B0.out.trans (hb.mono B0.out.size))
  clear hb C0 I0 B0
  go_wp2_with (refine load_blk 41 (.tmp 2) w.heap.size 41 (insC5 op a b cc imm) _ rfl rfl rfl I.out Tryd.underlying41 rfl ins5_info ?_; go_frame)
  refine (CE.out _).mono ?_
  rintro e w1 ⟨rfl, hb⟩
  replace I := Lib.hid (I.out.below hb I.out.lt)
  replace Cc := Lib.hid (Cc.out.below hb Cc.out.lt)
  replace B := Lib.hid (B.out.trans (hb.mono B.out.size))
  clear hb CE
  have i0 : w1.cell? ⟨w.heap.size, 0, none⟩ = some (.int .u8 op) := I.out.cell 0 rfl
  by_cases hc0 : (encR ⟨op, a, b, cc, imm⟩).2 = 0
  rotate_left
  · have t1 : ((encR ⟨op, a, b, cc, imm⟩).2 != 0) = true := by simpa using hc0
    generalize (encR ⟨op, a, b, cc, imm⟩).2 = code at *
    generalize (encR ⟨op, a, b, cc, imm⟩).1 = word at *
    clear hc0
    go_wp2
    go_ret
    exact ⟨rfl, B.out⟩
  have HC0 := Lib.hid hc0
  rw [hc0]
  clear hc0
  by_cases h19 : ¬ op ≤ 19
  · have t2 : decide ((19 : Int) < (op : Int)) = true := by simp; omega
    have t2' : (19 : Int) < (op : Int) := by omega
    generalize (encR ⟨op, a, b, cc, imm⟩).1 = word at *
    clear h19
    go_wp2
    go_ret
    exact ⟨rfl, B.out⟩
  have h19' : op ≤ 19 := by omega
  have t2 : decide ((19 : Int) < (op : Int)) = false := by simp; omega
  have t2' : ¬ (19 : Int) < (op : Int) := by omega
  have EP := enc_parts HC0.out
  have op1 : 1 ≤ op := EP.1
  have ba : a ≤ 15 := EP.2.2.1
  have bb : b ≤ 15 := EP.2.2.2.1
  have bc : cc ≤ 15 := EP.2.2.2.2.1
  clear h19 EP
  have PS := ar_step (R := R) (zeros 128) HC0.out h19'
  have PA := Lib.hid (fun A c w => step_out PS A c w HR.out (by decide) pages16 (by show 2 ≤ 1000000; decide))
  have PB := Lib.hid (fun A c w => rstep_out PS A c w HR.out (by decide) pages16 (by show 2 ≤ 1000000; decide))
  have RD : Hid ((arR ⟨op, a, b, cc, imm⟩ R).length = 16) := arR_len RL.out
  have DZ : Hid ((arR ⟨op, a, b, cc, imm⟩ R).getD 0 0 = 0) := arR_zero RL.out
  have DA : Hid (a ≠ 0 → (arR ⟨op, a, b, cc, imm⟩ R).getD a 0 = arV ⟨op, a, b, cc, imm⟩ R) := fun h => arR_a RL.out ba h
  have HV : Hid (arV ⟨op, a, b, cc, imm⟩ R = arV ⟨op, a, b, cc, imm⟩ R) := rfl
  clear PS HC0
  generalize pgB [(encR ⟨op, a, b, cc, imm⟩).1] = pg at *
  generalize (encR ⟨op, a, b, cc, imm⟩).1 = word at *
  generalize zeros 128 = z at *
  generalize arR ⟨op, a, b, cc, imm⟩ R = D at *
  go_wp2_with (refine load_blk 41 (.tmp 2) w.heap.size 41 (insC5 op a b cc imm) _ rfl rfl rfl I.out Tryd.underlying41 rfl ins5_info ?_; go_frame)
  refine (CO.out _).mono ?_
  rintro e w2 ⟨⟨gl, rfl, hgl, hgw⟩, hb⟩
  have G := Lib.hid hgl
  replace I := Lib.hid (I.out.below hb I.out.lt)
  replace Cc := Lib.hid (Cc.out.below hb Cc.out.lt)
  replace B := Lib.hid (B.out.trans (hb.mono B.out.size))
  have hcl := Cc.out.lt
  clear hgl hb CO i0
  go_wp2_with (first
    | (refine store_blk 29 (.tmp 8) (.tmp 35) w2.heap.size 29 (pteL (List.replicate 16 ⟨false, false, 0⟩)).toArray (pteL onePages).toArray rfl rfl rfl rfl (Blk.new w2 _ _) rfl (space_size rfl) (by decide) ?_; intro w3 hs3 hg3; have S3 := Lib.hid hs3; have C3 := Lib.hid ((Cc.out.alloc _).grown hg3 (ne_blk (by omega))); go_frame)
    | (refine store_cell 22 (.tmp 36) (.const (.int .u32 0)) (w.heap.size + 1) 16 .u32 0 _ rfl rfl rfl rfl (by intro; kernel_rfl) (C3.out.cell 16 (cpuC_pc RL.out)) (C3.out.frozen 16) ?_; intro w4 hw4; have C4 : Hid (Blk w4 (w.heap.size + 1) 25 (cpuC R 0)) := (by show Blk _ _ _ _; rw [← hw4, ← cpuC_setpc (pc := pc) (v := 0) RL.out]; exact C3.out.set_ 16 _); have S4 : Hid (Blk w4 w2.heap.size 29 (pteL onePages).toArray) := (by show Blk _ _ _ _; rw [← hw4]; exact S3.out.far (by show w2.heap.size ≠ w.heap.size + 1; omega) _); have G4 : Hid (Blk w4 gl 9 #[.string pg, .string z]) := (by show Blk _ _ _ _; rw [← hw4]; exact ((G.out.alloc _).grown hg3 (ne_blk (by have := G.out.lt; omega))).far (by show gl ≠ w.heap.size + 1; exact blk_ne ((G.out.alloc _).grown hg3 (ne_blk (by have := G.out.lt; omega))) C3.out (by decide)) _); have I4 : Hid (Blk w4 w.heap.size 41 (insC5 op a b cc imm)) := (by show Blk _ _ _ _; rw [← hw4]; exact ((I.out.alloc _).grown hg3 (ne_blk (by have := I.out.lt; omega))).far (by show w.heap.size ≠ w.heap.size + 1; omega) _); have B4 : Hid (Below w.heap.size w w4) := (by show Below _ _ _; rw [← hw4]; exact ((B.out.alloc B.out.size _).grown hg3 (by have := B.out.size; simp; omega) (fun k hk => by cases hk; exact B.out.size)).setCell (by show w.heap.size ≤ w.heap.size + 1; omega) _); clear hw4; go_frame)
    | (refine load_blk 25 (.tmp 3) (w.heap.size + 1) 25 (cpuC R 0) _ rfl rfl rfl C4.out Tryd.underlying25 rfl (cpu_size RL.out) ?_; go_frame)
    | (refine load_blk 29 (.tmp 8) w2.heap.size 29 (pteL onePages).toArray _ rfl rfl rfl S4.out Tryd.underlying29 rfl (space_size rfl) ?_; go_frame))
  clear G I Cc B S3 C3 hs3 hg3
  refine (PA.out _ _ _ G4.out.two (fun e => by cases e) (HT.out.later B4.out)).mono ?_
  rintro e wa ⟨⟨Aa, ca, rfl, hra, h0a, _⟩, hba⟩
  have RM := Lib.hid hra
  have G := Lib.hid (G4.out.below hba G4.out.lt)
  have I := Lib.hid (I4.out.below hba I4.out.lt)
  have Cc := Lib.hid (C4.out.below hba C4.out.lt)
  have hlt := Cc.out.lt
  have S := Lib.hid (S4.out.below hba S4.out.lt)
  have B := Lib.hid (B4.out.trans (hba.mono B4.out.size))
  clear hba hra h0a G4 I4 C4 S4 B4
  generalize w2.heap.size = gs at *
  go_wp2_with (first
    | (refine store_blk 25 (.tmp 9) (.tmp 42) wa.heap.size 25 zC (cpuC D 4) rfl rfl rfl rfl ((Blk.new wa _ _).alloc _) (by rw [cpuC_size, RD.out]; rfl) (cpu_size RD.out) (cpuC_one _ _) ?_; intro wa4 hra4 hga4; go_frame)
    | (refine store_blk 34 (.tmp 11) (.tmp 44) (wa.heap.size + 1) 34 zE (evC 0 0) rfl rfl rfl rfl (ev_new hga4) rfl ev_info (evC_one _ _) ?_; intro wa5 hra5 hga5; go_frame)
    | (refine load_blk 25 (.tmp 3) (w.heap.size + 1) 25 (cpuC R 0) _ rfl rfl rfl (two_keep hga4 hga5 Cc.out) Tryd.underlying25 rfl (cpu_size RL.out) ?_; go_frame)
    | (refine load_blk 29 (.tmp 8) gs 29 (pteL onePages).toArray _ rfl rfl rfl (two_keep hga4 hga5 S.out) Tryd.underlying29 rfl (space_size rfl) ?_; go_frame))
  replace RM := Lib.hid (two_row hga4 hga5 RM.out)
  replace G := Lib.hid (two_keep hga4 hga5 G.out)
  replace I := Lib.hid (two_keep hga4 hga5 I.out)
  replace Cc := Lib.hid (two_keep hga4 hga5 Cc.out)
  have Da := Lib.hid (hra4.grown hga5 (ne_blk (by omega)))
  have Ea := Lib.hid hra5
  replace B := Lib.hid (two_below hga4 hga5 B.out)
  clear hra4 hga4 hra5 hga5 S
  refine (PB.out _ _ _ G.out.two (fun e => by cases e)).mono ?_
  rintro e wb ⟨⟨Ab, cb, rfl, _, _⟩, hbb⟩
  replace Da := Lib.hid (Da.out.below hbb Da.out.lt)
  replace Ea := Lib.hid (Ea.out.below hbb Ea.out.lt)
  replace G := Lib.hid (G.out.below hbb G.out.lt)
  replace I := Lib.hid (I.out.below hbb I.out.lt)
  replace Cc := Lib.hid (Cc.out.below hbb Cc.out.lt)
  replace RM := Lib.hid ((RM.out.below hbb).mono hbb.size)
  replace B := Lib.hid (B.out.trans (hbb.mono B.out.size))
  clear hbb
  have heq := fun w => cpuC_neq (pc := 4) RD.out w
  go_wp2_with (first
    | (refine store_blk 25 (.tmp 12) (.tmp 50) wb.heap.size 25 zC (cpuC D 4) rfl rfl rfl rfl ((Blk.new wb _ _).alloc _) (by rw [cpuC_size, RD.out]; rfl) (cpu_size RD.out) (cpuC_one _ _) ?_; intro wb4 hrb4 hgb4; go_frame)
    | (refine store_blk 34 (.tmp 14) (.tmp 52) (wb.heap.size + 1) 34 zE (evC 0 0) rfl rfl rfl rfl (ev_new hgb4) rfl ev_info (evC_one _ _) ?_; intro wb5 hrb5 hgb5; have ke0 : wb5.cell? ⟨wa.heap.size + 1, 0, none⟩ = some (.int .i64 0) := Blk.cell (two_keep hgb4 hgb5 Ea.out) 0 rfl; have ke1 : wb5.cell? ⟨wa.heap.size + 1, 1, none⟩ = some (.int .u32 0) := Blk.cell (two_keep hgb4 hgb5 Ea.out) 1 rfl; go_frame)
    | (refine load_blk 25 (.tmp 9) wa.heap.size 25 (cpuC D 4) _ rfl rfl rfl (two_keep hgb4 hgb5 Da.out) Tryd.underlying25 rfl (cpu_size RD.out) ?_; go_frame)
    | (refine load_blk 25 (.tmp 12) wb.heap.size 25 (cpuC D 4) _ rfl rfl rfl (hrb4.grown hgb5 (ne_blk (by omega))) Tryd.underlying25 rfl (cpu_size RD.out) ?_; go_frame))
  have cs := same14_any Aa (some ⟨gl, 0, none⟩) ca 2 [pg, z] [pg, z] wb5 (by show 2 ≤ maxLen; decide) (by show 2 ≤ maxLen; decide) (two_row hgb4 hgb5 RM.out) (two_keep hgb4 hgb5 G.out).two
  rw [show sameN [pg, z] [pg, z] = 1 from if_pos rfl] at cs
  have CS := Lib.hid cs
  replace Da := Lib.hid (two_keep hgb4 hgb5 Da.out)
  replace I := Lib.hid (two_keep hgb4 hgb5 I.out)
  replace Cc := Lib.hid (two_keep hgb4 hgb5 Cc.out)
  replace B := Lib.hid (two_below hgb4 hgb5 B.out)
  clear cs hrb4 hgb4 hrb5 hgb5 ke0 ke1 heq Ea G RM PA PB
  refine CS.out.mono ?_
  rintro e wz ⟨rfl, hbz⟩
  replace Da := Lib.hid (Da.out.below hbz Da.out.lt)
  replace I := Lib.hid (I.out.below hbz I.out.lt)
  replace Cc := Lib.hid (Cc.out.below hbz Cc.out.lt)
  replace B := Lib.hid (B.out.trans (hbz.mono B.out.size))
  clear hbz CS
  generalize wa.heap.size = gd at *
  have d16 : wz.cell? ⟨gd, 16, none⟩ = some (.int .u32 (4 : Int)) := Da.out.cell 16 (cpuC_pc RD.out)
  have d0 : wz.cell? ⟨gd, 0, none⟩ = some (.int .u32 (0 : Int)) := by rw [Da.out.cell 0 (cpuC_reg (by rw [RD.out]; decide)), DZ.out]; rfl
  have ia0 := I.out.cell 0 (v := .int .u8 (op : Nat)) rfl
  obtain ⟨vb, hvb⟩ : ∃ vb, (R.set 0 0).getD b 0 = vb := ⟨_, rfl⟩
  obtain ⟨vv, hvv⟩ : ∃ vv, (R.set 0 0).getD cc 0 = vv := ⟨_, rfl⟩
  obtain ⟨dv, hdv⟩ : ∃ dv, arV ⟨op, a, b, cc, imm⟩ R = dv := ⟨_, rfl⟩
  have hR0 : Regs (R.set 0 0) := HR.out.set_ 0 (by decide)
  have lvb : vb < 4294967296 := by rw [← hvb]; exact hR0.get b
  have lvv : vv < 4294967296 := by rw [← hvv]; exact hR0.get cc
  have HDV : Hid (op ≤ 13 → dv = thrR op vb vv) := fun h => by rw [← hdv, ← hvb, ← hvv]; unfold arV; rw [if_pos h]
  have HVB := Lib.hid hvb
  have HVV := Lib.hid hvv
  rw [hdv] at DA
  clear hvb hvv hdv HV hR0
  have la16 : (a : Int) < 16 := by omega
  have lb16 : (b : Int) < 16 := by omega
  have lc16 : (cc : Int) < 16 := by omega
  go_wp2_with (refine store_cell 22 (.tmp 79) (.const (.int .u32 0)) (w.heap.size + 1) 0 .u32 0 _ rfl rfl rfl rfl (by intro; kernel_rfl) (Cc.out.cell 0 (cpuC_reg (by rw [RL.out]; decide))) (Cc.out.frozen 0) ?_; intro wy hwy; have CY : Hid (Blk wy (w.heap.size + 1) 25 (cpuC (R.set 0 0) 0)) := (by show Blk _ _ _ _; rw [← hwy, ← cpuC_set (v := 0) (by rw [RL.out]; decide)]; exact Cc.out.set_ 0 _); have DY : Hid (Blk wy gd 25 (cpuC D 4)) := (by show Blk _ _ _ _; rw [← hwy]; exact Da.out.far (by show gd ≠ w.heap.size + 1; omega) _); have IY : Hid (Blk wy w.heap.size 41 (insC5 op a b cc imm)) := (by show Blk _ _ _ _; rw [← hwy]; exact I.out.far (by show w.heap.size ≠ w.heap.size + 1; omega) _); have BY : Hid (Below w.heap.size w wy) := (by show Below _ _ _; rw [← hwy]; exact B.out.setCell (by show w.heap.size ≤ w.heap.size + 1; omega) _); clear hwy; go_frame)
  have RY : Hid ((R.set 0 0).length = 16) := by show _ = _; rw [List.length_set]; exact RL.out
  have i0 : wy.cell? ⟨w.heap.size, 0, none⟩ = some (.int .u8 op) := IY.out.cell 0 rfl
  have i1 : wy.cell? ⟨w.heap.size, 1, none⟩ = some (.int .u8 a) := IY.out.cell 1 rfl
  have i2 : wy.cell? ⟨w.heap.size, 2, none⟩ = some (.int .u8 b) := IY.out.cell 2 rfl
  have i3 : wy.cell? ⟨w.heap.size, 3, none⟩ = some (.int .u8 cc) := IY.out.cell 3 rfl
  have r1 : wy.cell? ⟨w.heap.size + 1, b, none⟩ = some (.int .u32 vb) := by rw [CY.out.cell b (cpuC_reg (by rw [RY.out]; omega)), HVB.out]
  have r2 : wy.cell? ⟨w.heap.size + 1, cc, none⟩ = some (.int .u32 vv) := by rw [CY.out.cell cc (cpuC_reg (by rw [RY.out]; omega)), HVV.out]
  clear d16 d0 ia0 I Cc Da B
  go_quiet (fail)
  by_cases ha0 : a = 0
  · have t3 : ((a : Int) == 0) = true := by simp [ha0]
    clear ha0
    go_wp2
    go_ret
    exact ⟨rfl, below_drewN BY.out _⟩
  have t3 : ((a : Int) == 0) = false := by simp [ha0]
  have da : wy.cell? ⟨gd, a, none⟩ = some (.int .u32 dv) := by rw [DY.out.cell a (cpuC_reg (by rw [RD.out]; omega)), DA.out ha0]
  clear ha0 DA
  by_cases o1 : op = 1
  · subst o1
    have hd := HDV.out (by decide)
    have e1 : (((dv : Int) - (vv : Int)) % 4294967296 == (vb : Int)) = true := by rw [hd, ar_1 lvb lvv]; simp
    clear hd
    go_wp2
    go_ret
    exact ⟨rfl, below_drewN BY.out _⟩
  have n1 : ((op : Int) == 1) = false := by simp; omega
  by_cases o4 : op = 4
  · subst o4
    have hd := HDV.out (by decide)
    by_cases hv0 : vv = 0
    · have e1 : ((vv : Int) == 0) = true := by simp [hv0]
      clear hd hv0
      go_wp2
      go_ret
      exact ⟨rfl, below_drewN BY.out _⟩
    · have e1 : ((vv : Int) == 0) = false := by simp [hv0]
      have h4 := ar_4 (b := vb) hv0
      rw [← hd] at h4
      obtain ⟨p, hpp⟩ : ∃ p, dv * vv = p := ⟨_, rfl⟩
      rw [hpp] at h4
      have e2 : (dv : Int) * (vv : Int) = (p : Int) := by rw [← hpp]; simp
      have e3 : decide ((p : Int) ≤ (vb : Int)) = true := by simp; omega
      have e4 : decide ((vb : Int) < (p : Int) + (vv : Int)) = true := by simp; omega
      have e7 : IntKind.u64.wrap ((p : Int) + (vv : Int)) = (p : Int) + (vv : Int) := IntWalk.u64_in _ (by omega)
      have e8 : IntKind.u64.wrap (p : Int) = (p : Int) := IntWalk.u64_in _ (by omega)
      have ldv : dv < 4294967296 := by have := Nat.le_mul_of_pos_right dv (show 0 < vv by omega); omega
      have e9 : IntKind.u64.wrap (dv : Int) = (dv : Int) := IntWalk.u64_in _ (by omega)
      have e10 : p ≤ vb := h4.1
      have e11 : vb < p + vv := h4.2
      clear hd hv0 h4 hpp
      go_wp2
      go_ret
      exact ⟨rfl, below_drewN BY.out _⟩
  have n4 : ((op : Int) == 4) = false := by simp; omega
  by_cases o9 : op = 9
  · subst o9
    have hd := HDV.out (by decide)
    have HD := Lib.hid hd
    have k32 : ((vv : Int) % 32) < 32 := by omega
    have k33 : (0 : Int) ≤ (vv : Int) % 32 := by omega
    clear hd
    go_wp2
    go_ret
    refine ⟨ret_bool ?_, below_drewN BY.out _⟩
    rw [HD.out]
    show (((vb * 2 ^ (vv % 32) % 4294967296 : Nat) : Int) == _) = true
    simp
  have n9 : ((op : Int) == 9) = false := by simp; omega
  by_cases o11 : op = 11
  · subst o11
    have hd := HDV.out (by decide)
    have HD := Lib.hid hd
    have HSG := Lib.hid (wrap32_sg vb lvb)
    clear hd
    go_wp2
    go_ret
    refine ⟨ret_bool ?_, below_drewN BY.out _⟩
    rw [HD.out, HSG.out]
    show (((sg vb / 2 ^ (vv % 32) % 4294967296).toNat : Int) == _) = true
    rw [Int.toNat_of_nonneg (Int.emod_nonneg _ (by decide))]
    simp
  have n11 : ((op : Int) == 11) = false := by simp; omega
  by_cases o12 : op = 12
  · subst o12
    have hd := HDV.out (by decide)
    have HD := Lib.hid hd
    have H1 := Lib.hid (wrap32_sg vb lvb)
    have H2 := Lib.hid (wrap32_sg vv lvv)
    clear hd
    go_wp2
    go_ret
    refine ⟨ret_bool ?_, below_drewN BY.out _⟩
    rw [HD.out, H1.out, H2.out]
    show ((((if sg vb < sg vv then 1 else 0 : Nat) : Int) == 1) == decide (sg vb < sg vv)) = true
    by_cases h : sg vb < sg vv <;> simp [h]
  have n12 : ((op : Int) == 12) = false := by simp; omega
  go_wp2
  go_ret
  exact ⟨rfl, below_drewN BY.out _⟩
end Go.Proofs.YtcjakmnplkeldaaDoor
