/-
  What cpu.Step computes.
-/
import Derived.Test.YtcjakmnplkeldaaDoorCpuSpec
import Derived.Test.YtcjakmnplkeldaaDoorIsaPlain
import Derived.Outline
namespace Go.Proofs.YtcjakmnplkeldaaDoor
open Go.RowKit
set_option linter.unusedVariables false
set_option linter.unusedSimpArgs false
set_option maxRecDepth 100000
theorem loadR_four {xs : List ByteArray} {l : List Pte} {a v : Nat} (h : loadR xs l a 4 = some v) : v < 4294967296 := by
  unfold loadR at h
  split at h
  · split at h
    · injection h with h
      subst h
      exact leN_four _ _ (by omega)
    · cases h
  · cases h
theorem zC_cpu : zC = cpuC (List.replicate 16 0) 0 := rfl
set_option maxHeartbeats 4000000 in
theorem step_any (R : List Nat) (pc : Nat) (l : List Pte) (A : Option Addr) (c : Nat) (xs : List ByteArray) (w : World) (hR : Regs R) (hp : pc < 4294967296) (hl : l.length = 16) (hx : xs.length ≤ 1000000) (h : RowAt w w.heap.size A (xs.map .string)) (h0 : A = none → xs.length = 0 ∧ c = 0) (ht : Tab5 w) :
    Calls Tryd.prog 13 #[.agg (cpuC R pc), .agg (pteL l).toArray, .slice A xs.length c] w (StepPost (stepR R pc l xs) w) := by
  have HR := Lib.hid hR
  have HL := Lib.hid hl
  have HA := Lib.hid h
  have H0 := Lib.hid h0
  have HT := Lib.hid ht
  have S0 : Hid (St w (((((w.alloc (.cells (cpuC R pc) 25)).alloc (.cells (pteL l).toArray 29)).alloc (.cells zC 25)).alloc (.cells zE 34)).alloc (.cells zC 25)) R pc l (List.replicate 16 0) 0 zC zE) := by
    have z1 : (w.alloc (.cells (cpuC R pc) 25)).heap.size = w.heap.size + 1 := by simp
    have z2 : ((w.alloc (.cells (cpuC R pc) 25)).alloc (.cells (pteL l).toArray 29)).heap.size = w.heap.size + 1 + 1 := by simp
    have z3 : (((w.alloc (.cells (cpuC R pc) 25)).alloc (.cells (pteL l).toArray 29)).alloc (.cells zC 25)).heap.size = w.heap.size + 1 + 1 + 1 := by simp
    have z4 : ((((w.alloc (.cells (cpuC R pc) 25)).alloc (.cells (pteL l).toArray 29)).alloc (.cells zC 25)).alloc (.cells zE 34)).heap.size = w.heap.size + 1 + 1 + 1 + 1 := by simp
    refine ⟨((((Blk.new w _ _).alloc _).alloc _).alloc _).alloc _, ?_, ?_, ?_, ?_, (((((Below.refl _ _).alloc (Nat.le_refl _) _).alloc (by simp) _).alloc (by simp; omega) _).alloc (by simp; omega) _).alloc (by simp; omega) _⟩
    · rw [← z1]; exact (((Blk.new _ _ _).alloc _).alloc _).alloc _
    · rw [← z2]; exact ((Blk.new _ _ _).alloc _).alloc _
    · rw [← z3]; exact (Blk.new _ _ _).alloc _
    · rw [← z4]; exact Blk.new _ _ _
  clear hR hl h h0 ht
  go_enter Tryd.func13, Tryd.ntmps13
  go_wp2_with (first
    | (refine load_blk 25 (.tmp 3) w.heap.size 25 (cpuC R pc) _ rfl rfl rfl ((((Blk.new w 25 (cpuC R pc)).alloc _).alloc _).alloc _) Tryd.underlying25 rfl (cpu_size HR.out.1) ?_; go_frame)
    | (refine store_blk 25 (.tmp 9) (.tmp 23) (w.heap.size + 1 + 1 + 1 + 1) 25 (cpuC (List.replicate 16 0) 0) (cpuC R pc) rfl rfl rfl rfl S0.out.was (by rw [cpuC_size, cpuC_size, HR.out.1]; rfl) (cpu_size HR.out.1) (cpuC_one _ _) ?_; intro w1 hr1 hg1))
  have S1 : Hid (St w w1 R pc l R pc zC zE) := S0.out.putwas hr1 hg1
  clear hr1 hg1 S0
  refine (clone_any A xs.length c xs w1 rfl hx ((HA.out.below S1.out.below).mono S1.out.below.size) H0.out).mono ?_
  rintro e w2 ⟨v, rfl, hown, hb2⟩
  have K2 : Hid (Cs w w2 R pc l R pc zC zE v xs) := ⟨S1.out.later hb2, own_base hown S1.out.below.size⟩
  obtain ⟨A2, c2, hv2, hr2, h02⟩ := own_read K2.out.2
  have RV := Lib.hid hr2
  replace H0 := Lib.hid h02
  subst hv2
  have q1 : w2.cell? ⟨w.heap.size, 16, none⟩ = some (.int .u32 (pc : Nat)) := K2.out.1.c.cell 16 (cpuC_pc HR.out.1)
  clear hown hb2 hr2 h02 S1 HA
  go_wp2_with (refine load_blk 29 (.tmp 4) (w.heap.size + 1) 29 (pteL l).toArray _ rfl rfl rfl K2.out.1.s Tryd.underlying29 rfl (space_size HL.out) ?_; go_frame)
  refine (load_any A2 c2 xs l pc 4 _ hx RV.out HL.out (.inr rfl) hp).mono ?_
  rintro e w3 ⟨rfl, hb3⟩
  have K3 := Lib.hid (K2.out.later hb3)
  replace RV := Lib.hid ((RV.out.below hb3).mono hb3.size)
  clear q1 hb3 K2
  cases hld : loadR xs l pc 4 with
  | none =>
    have HP : Hid (stepR R pc l xs = ⟨R, pc, xs, 2, pc⟩) := by show _ = _; unfold stepR; rw [hld]
    clear hld
    unfold loadE
    go_wp2
    have ne : Nonempty (Stg (RetC w R pc l R pc (cpuC R pc) (evC 2 pc) (.slice A2 xs.length c2) xs (fun _ => True))) := ⟨⟨0, w3, K3.out, trivial⟩⟩
    have q1 : ∀ u : Stg (RetC w R pc l R pc (cpuC R pc) (evC 2 pc) (.slice A2 xs.length c2) xs (fun _ => True)), u.val.cell? ⟨w.heap.size, 16, none⟩ = some (.int .u32 (pc : Nat)) := fun u => u.prf.1.1.c.cell 16 (cpuC_pc HR.out.1)
    refine wp_region_late 0 5 (RetC w R pc l R pc (cpuC R pc) (evC 2 pc) (.slice A2 xs.length c2) xs (fun _ => True)) (by kernel_rfl) (by kernel_rfl) ⟨K3.out.drew, trivial⟩ ?_
    simp only [List.take_succ_cons, List.take_zero, List.drop_succ_cons, List.drop_zero]
    refine wpQuiet_nil ?_
    repeat (first
      | go_big_quiet_step (fail)
      | (go_big_quiet_want; refine quiet_load_blk 25 (.tmp 9) (w.heap.size + 1 + 1 + 1 + 1) 25 (cpuC R pc) _ rfl rfl (by rintro _ ⟨u, rfl⟩; exact u.prf.1.1.was) Tryd.underlying25 rfl (cpu_size HR.out.1) ?_; go_frame; go_big_quiet_on))
    refine wpQuiet_nil ?_
    refine wpT_store 25 (.tmp 6) (.tmp 36) (w.heap.size + 1 + 1) 25 (cpuC R pc) rfl rfl rfl rfl rfl (cpu_size HR.out.1) (cpuC_one _ _) (fun w' hw => ⟨_, hw.1.1.oc, by rw [cpuC_size, HR.out.1]; rfl⟩) (fun w' w2 hw hb hg => ⟨hw.1.putoc hb hg, trivial⟩) ?_
    refine wpT_assign (.tmp 37) rfl (fun w' hw => hw) ?_
    refine wpT_store 34 (.tmp 8) (.tmp 40) (w.heap.size + 1 + 1 + 1) 34 (evC 2 pc) rfl rfl rfl rfl rfl ev_info (evC_one _ _) (fun w' hw => ⟨_, hw.1.1.oe, rfl⟩) (fun w' w2 hw hb hg => ⟨hw.1.putoe hb hg, trivial⟩) ?_
    refine wpT_nil ?_
    intro w4 hw4
    have KF := Lib.hid hw4.1
    have RL := Lib.hid HR.out.1
    go_wp2
    refine bodyPost_ret (results_ctc rfl rfl rfl rfl KF.out.1.oc Tryd.underlying25 rfl (cpu_size RL.out) KF.out.1.oe Tryd.underlying34 rfl ev_info) rfl ?_
    rw [HP.out]
    exact ⟨_, rfl, KF.out.2, KF.out.1.below⟩
  | some word =>
    have hword := loadR_four hld
    unfold loadE
    go_wp2_with fail
    refine (dec_any word _ hword).mono ?_
    rintro e w4 ⟨rfl, hb4⟩
    have K4 := Lib.hid (K3.out.later hb4)
    replace RV := Lib.hid ((RV.out.below hb4).mono hb4.size)
    clear hb4 K3
    cases hdc : decR word with
    | none =>
      have HP : Hid (stepR R pc l xs = ⟨R, pc, xs, 3, word⟩) := by show _ = _; unfold stepR; rw [hld]; dsimp only; rw [hdc]
      clear hld hdc
      unfold decE insE
      dsimp only
      have K5 := Lib.hid (K4.out.alloc (.cells #[.int .u8 0, .int .u8 0, .int .u8 0, .int .u8 0, .int .i32 0] 41))
      go_wp2_with (first
        | (refine load_blk 25 (.tmp 9) (w.heap.size + 1 + 1 + 1 + 1) 25 (cpuC R pc) _ rfl rfl rfl K5.out.1.was Tryd.underlying25 rfl (cpu_size HR.out.1) ?_; go_frame)
        | (refine store_blk 25 (.tmp 6) (.tmp 48) (w.heap.size + 1 + 1) 25 zC (cpuC R pc) rfl rfl rfl rfl K5.out.1.oc (by rw [cpuC_size, HR.out.1]; rfl) (cpu_size HR.out.1) (cpuC_one _ _) ?_; intro w5 hr5 hg5)
        | (refine store_blk 34 (.tmp 8) (.tmp 51) (w.heap.size + 1 + 1 + 1) 34 zE (evC 3 word) rfl rfl rfl rfl (K5.out.putoc hr5 hg5).1.oe rfl ev_info (evC_one _ _) ?_; intro w6 hr6 hg6))
      have KF := Lib.hid ((K5.out.putoc hr5 hg5).putoe hr6 hg6)
      have RL := Lib.hid HR.out.1
      go_wp2
      refine bodyPost_ret (results_ctc rfl rfl rfl rfl KF.out.1.oc Tryd.underlying25 rfl (cpu_size RL.out) KF.out.1.oe Tryd.underlying34 rfl ev_info) rfl ?_
      rw [HP.out]
      exact ⟨_, rfl, KF.out.2, KF.out.1.below⟩
    | some x =>
      have HX := Lib.hid hdc
      have HW := Lib.hid hld
      obtain ⟨bo, ba, bb, bc, bi1, bi2⟩ := dec_bounds hdc
      unfold decE insE
      dsimp only
      clear hld hdc
      obtain ⟨op, a, b, cc, imm⟩ := x
      dsimp only at bo ba bb bc bi1 bi2
      obtain ⟨pc1, hpc1⟩ : ∃ pc1, (pc + 4) % 4294967296 = pc1 := ⟨_, rfl⟩
      have e1 : ((pc : Int) + 4) % 4294967296 = (pc1 : Nat) := by omega
      have q0 : w4.cell? ⟨w.heap.size, 0, none⟩ = some (.int .u32 (R.getD 0 0 : Nat)) := K4.out.1.c.cell 0 (cpuC_reg (by rw [HR.out.1]; decide))
      have f0 : w4.frozen? ⟨w.heap.size, 0, none⟩ = false := K4.out.1.c.frozen 0
      have q16 : w4.cell? ⟨w.heap.size, 16, none⟩ = some (.int .u32 (pc : Nat)) := K4.out.1.c.cell 16 (cpuC_pc HR.out.1)
      have f16 : w4.frozen? ⟨w.heap.size, 16, none⟩ = false := K4.out.1.c.frozen 16
      have hz4 := K4.out.1.c.lt
      have hR0 : Regs (R.set 0 0) := HR.out.set_ 0 (by decide)
      have HR0 := Lib.hid hR0
      obtain ⟨va, hva⟩ : ∃ va, (R.set 0 0).getD a 0 = va := ⟨_, rfl⟩
      obtain ⟨vb, hvb⟩ : ∃ vb, (R.set 0 0).getD b 0 = vb := ⟨_, rfl⟩
      obtain ⟨im, him⟩ : ∃ im, (imm % 4294967296).toNat = im := ⟨_, rfl⟩
      have lva : va < 4294967296 := by rw [← hva]; exact hR0.get a
      have lvb : vb < 4294967296 := by rw [← hvb]; exact hR0.get b
      have lim : im < 4294967296 := by omega
      have e2 : imm % 4294967296 = (im : Nat) := by omega
      have lpc1 : pc1 < 4294967296 := by omega
      have op1 : 1 ≤ op := (enc_parts (by rw [dec_some HX.out])).1
      have HP : Hid (stepR R pc l xs = stDo R pc l xs ⟨op, a, b, cc, imm⟩ va vb im pc1 (R.set 0 0)) := by
        show _ = _
        unfold stepR
        rw [HW.out]
        dsimp only
        rw [HX.out]
        dsimp only
        rw [hva, hvb, him, hpc1]
      have HVA := Lib.hid hva
      have HVB := Lib.hid hvb
      clear hva hvb him hpc1 hR0 HX HW
      go_wp2
      have K5 : Hid (Cs w (((w4.setCell ⟨w.heap.size, 0, none⟩ (.int .u32 0)).setCell ⟨w.heap.size, 16, none⟩ (.int .u32 (pc1 : Nat))).alloc (.cells #[.int .u8 op, .int .u8 a, .int .u8 b, .int .u8 cc, .int .i32 imm] 41)) (R.set 0 0) pc1 l R pc zC zE (.slice A2 xs.length c2) xs) :=
        ((K4.out.reg (u := 0) (by rw [HR.out.1]; decide)).setpc HR0.out.1).alloc _
      have I5 : Hid (Blk (((w4.setCell ⟨w.heap.size, 0, none⟩ (.int .u32 0)).setCell ⟨w.heap.size, 16, none⟩ (.int .u32 (pc1 : Nat))).alloc (.cells #[.int .u8 op, .int .u8 a, .int .u8 b, .int .u8 cc, .int .i32 imm] 41)) w4.heap.size 41 #[.int .u8 op, .int .u8 a, .int .u8 b, .int .u8 cc, .int .i32 imm]) := by
        have := Blk.new ((w4.setCell ⟨w.heap.size, 0, none⟩ (.int .u32 0)).setCell ⟨w.heap.size, 16, none⟩ (.int .u32 (pc1 : Nat))) 41 #[.int .u8 op, .int .u8 a, .int .u8 b, .int .u8 cc, .int .i32 imm]
        rwa [show ((w4.setCell ⟨w.heap.size, 0, none⟩ (.int .u32 0)).setCell ⟨w.heap.size, 16, none⟩ (.int .u32 (pc1 : Nat))).heap.size = w4.heap.size by simp] at this
      generalize (((w4.setCell ⟨w.heap.size, 0, none⟩ (.int .u32 0)).setCell ⟨w.heap.size, 16, none⟩ (.int .u32 (pc1 : Nat))).alloc (.cells #[.int .u8 op, .int .u8 a, .int .u8 b, .int .u8 cc, .int .i32 imm] 41)) = w5 at *
      have hgw := K4.out.1.lt
      generalize w4.heap.size = gi at *
      clear q0 f0 q16 f16 hz4 K4
      have p1 : ∀ u : Ext w5, u.val.cell? ⟨gi, 1, none⟩ = some (.int .u8 a) := fun u => u.cell (I5.out.cell 1 rfl)
      have p2 : ∀ u : Ext w5, u.val.cell? ⟨gi, 2, none⟩ = some (.int .u8 b) := fun u => u.cell (I5.out.cell 2 rfl)
      have p4 : ∀ u : Ext w5, u.val.cell? ⟨gi, 4, none⟩ = some (.int .i32 imm) := fun u => u.cell (I5.out.cell 4 rfl)
      have r1 : ∀ u : Ext w5, u.val.cell? ⟨w.heap.size, a, none⟩ = some (.int .u32 va) := fun u => u.cell (by rw [K5.out.1.c.cell a (cpuC_reg (by rw [HR0.out.1]; omega)), HVA.out])
      have r2 : ∀ u : Ext w5, u.val.cell? ⟨w.heap.size, b, none⟩ = some (.int .u32 vb) := fun u => u.cell (by rw [K5.out.1.c.cell b (cpuC_reg (by rw [HR0.out.1]; omega)), HVB.out])
      have a16 : (a : Int) < 16 := by omega
      have b16 : (b : Int) < 16 := by omega
      have c16 : (cc : Int) < 16 := by omega
      refine wp_region_ext (by kernel_rfl) (by kernel_rfl) ?_
      repeat (go_big_quiet_step (fail))
      refine wpQuiet_nil ?_
      rintro _ ⟨u, rfl⟩
      have K6 := Lib.hid (K5.out.later u.below)
      have I6 := Lib.hid (I5.out.below u.below I5.out.lt)
      clear p1 p2 p4 r1 r2 K5 I5 RV
      generalize u.val = w6 at *
      rw [e2]
      have hz6 := I6.out.lt
      have hy6 := K6.out.1.lt
      have i0 : w6.cell? ⟨gi, 0, none⟩ = some (.int .u8 op) := I6.out.cell 0 rfl
      have hge : w.heap.size + 1 + 1 + 1 + 1 < w6.heap.size := hy6
      have K7 : Hid (Cs w (w6.alloc (.cells #[.int .i64 0, .int .u32 0] 34)) (R.set 0 0) pc1 l R pc zC zE (.slice A2 xs.length c2) xs) := K6.out.alloc _
      have I7 : Hid (Blk (w6.alloc (.cells #[.int .i64 0, .int .u32 0] 34)) gi 41 #[.int .u8 op, .int .u8 a, .int .u8 b, .int .u8 cc, .int .i32 imm]) := I6.out.alloc _
      have V7 : Hid (Blk (w6.alloc (.cells #[.int .i64 0, .int .u32 0] 34)) w6.heap.size 34 (evC 0 0)) := Blk.new w6 _ _
      obtain ⟨A7, c7, hv7, hr7, h07⟩ := own_read K7.out.2
      obtain ⟨rfl, rfl⟩ : A7 = A2 ∧ c7 = c2 := by cases hv7; exact ⟨rfl, rfl⟩
      have RV := Lib.hid hr7
      clear hr7 hv7 h07
      by_cases o13 : op ≤ 13
      · have t13 : decide ((op : Int) ≤ 13) = true := by simp; omega
        have t13' : (op : Int) ≤ 13 := by omega
        obtain ⟨vc, hvc⟩ : ∃ vc, (R.set 0 0).getD cc 0 = vc := ⟨_, rfl⟩
        have lvc : vc < 4294967296 := by rw [← hvc]; exact HR0.out.get cc
        have HVC := Lib.hid hvc
        have HQ : Hid (stepR R pc l xs = ⟨((R.set 0 0).set a (thrR op vb vc)).set 0 0, pc1, xs, 0, 0⟩) := HP.out.trans (by unfold stDo; dsimp only; rw [if_pos o13, hvc])
        clear hvc
        go_wp2
        generalize (w6.alloc (.cells #[.int .i64 0, .int .u32 0] 34)) = w7 at *
        have hgi := I7.out.lt
        have hgel := V7.out.lt
        generalize w6.heap.size = ge at *
        clear K6 I6 i0 hz6 hy6
        have ne : Nonempty (Stg (fun k w' => Cs w w' (if k = 0 then R.set 0 0 else (R.set 0 0).set a (thrR op vb vc)) pc1 l R pc zC zE (.slice A7 xs.length c7) xs ∧ Blk w' gi 41 #[.int .u8 op, .int .u8 a, .int .u8 b, .int .u8 cc, .int .i32 imm] ∧ Blk w' ge 34 (evC 0 0))) := ⟨⟨0, w7, K7.out, I7.out, V7.out⟩⟩
        have ne0 : Nonempty (Stg0 (fun k w' => Cs w w' (if k = 0 then R.set 0 0 else (R.set 0 0).set a (thrR op vb vc)) pc1 l R pc zC zE (.slice A7 xs.length c7) xs ∧ Blk w' gi 41 #[.int .u8 op, .int .u8 a, .int .u8 b, .int .u8 cc, .int .i32 imm] ∧ Blk w' ge 34 (evC 0 0))) := ⟨⟨w7, K7.out, I7.out, V7.out⟩⟩
        have p1 : ∀ u : Stg0 (fun k w' => Cs w w' (if k = 0 then R.set 0 0 else (R.set 0 0).set a (thrR op vb vc)) pc1 l R pc zC zE (.slice A7 xs.length c7) xs ∧ Blk w' gi 41 #[.int .u8 op, .int .u8 a, .int .u8 b, .int .u8 cc, .int .i32 imm] ∧ Blk w' ge 34 (evC 0 0)), u.val.cell? ⟨gi, 1, none⟩ = some (.int .u8 a) := fun u => u.prf.2.1.cell 1 rfl
        have p3 : ∀ u : Stg0 (fun k w' => Cs w w' (if k = 0 then R.set 0 0 else (R.set 0 0).set a (thrR op vb vc)) pc1 l R pc zC zE (.slice A7 xs.length c7) xs ∧ Blk w' gi 41 #[.int .u8 op, .int .u8 a, .int .u8 b, .int .u8 cc, .int .i32 imm] ∧ Blk w' ge 34 (evC 0 0)), u.val.cell? ⟨gi, 3, none⟩ = some (.int .u8 cc) := fun u => u.prf.2.1.cell 3 rfl
        have r3 : ∀ u : Stg0 (fun k w' => Cs w w' (if k = 0 then R.set 0 0 else (R.set 0 0).set a (thrR op vb vc)) pc1 l R pc zC zE (.slice A7 xs.length c7) xs ∧ Blk w' gi 41 #[.int .u8 op, .int .u8 a, .int .u8 b, .int .u8 cc, .int .i32 imm] ∧ Blk w' ge 34 (evC 0 0)), u.val.cell? ⟨w.heap.size, cc, none⟩ = some (.int .u32 vc) := fun u => by rw [u.prf.1.1.c.cell cc (cpuC_reg (by rw [if_pos rfl, HR0.out.1]; omega)), if_pos rfl, HVC.out]
        have hcf := fun x y w => rk_call op x y w op1 o13
        refine wp_region_late 11 13 (fun k w' => Cs w w' (if k = 0 then R.set 0 0 else (R.set 0 0).set a (thrR op vb vc)) pc1 l R pc zC zE (.slice A7 xs.length c7) xs ∧ Blk w' gi 41 #[.int .u8 op, .int .u8 a, .int .u8 b, .int .u8 cc, .int .i32 imm] ∧ Blk w' ge 34 (evC 0 0)) (by kernel_rfl) (by kernel_rfl) ⟨K7.out.drew, I7.out, V7.out⟩ ?_
        simp only [List.take_succ_cons, List.take_zero, List.drop_succ_cons, List.drop_zero]
        repeat (go_big_quiet_step (first
          | (go_at_call 24; with_reducible exact Stg0.call_same (reckon_any op _ op1 o13))
          | (with_reducible exact Stg0.call_same (rk_any op vb vc _ op1 o13 lvb lvc))))
        refine wpQuiet_nil ?_
        repeat (go_big_quiet_step (fail))
        refine wpQuiet_nil ?_
        refine wpT_cons #[] undef rfl (by intro d h; cases h) (fun w8 hw8 => ?_) ?_
        · have q0 := hw8.1.1.c.cell a (cpuC_reg (by rw [if_pos rfl, HR0.out.1]; omega))
          have f0 := hw8.1.1.c.frozen a
          refine store_cell 22 (.tmp 91) (.tmp 89) w.heap.size a .u32 _ _ rfl rfl rfl rfl (by intro; kernel_rfl) q0 f0 ?_
          intro w9 hw9
          refine ⟨rfl, ?_⟩
          rw [← hw9]
          exact ⟨hw8.1.reg (by rw [if_pos rfl, HR0.out.1]; omega), hw8.2.1.far (by show gi ≠ w.heap.size; omega) _, hw8.2.2.far (by show ge ≠ w.heap.size; omega) _⟩
        refine wpT_nil ?_
        intro w8 hw8
        have K8 : Hid (Cs w w8 ((R.set 0 0).set a (thrR op vb vc)) pc1 l R pc zC zE (.slice A7 xs.length c7) xs) := hw8.1
        have V8 := Lib.hid hw8.2.2
        have RL8 : Hid (((R.set 0 0).set a (thrR op vb vc)).length = 16) := by show _ = _; rw [List.length_set]; exact HR0.out.1
        clear hw8 p1 p3 r3 ne ne0 K7 I7 V7 hcf
        have q0 := K8.out.1.c.cell 0 (cpuC_reg (by rw [RL8.out]; decide))
        have f0 := K8.out.1.c.frozen 0
        go_wp2_with (first
          | (refine store_cell 22 (.tmp 207) (.const (.int .u32 0)) w.heap.size 0 .u32 0 _ rfl rfl rfl rfl (by intro; kernel_rfl) q0 f0 ?_; intro w9 hw9; go_frame))
        have K9 : Hid (Cs w w9 (((R.set 0 0).set a (thrR op vb vc)).set 0 0) pc1 l R pc zC zE (.slice A7 xs.length c7) xs) := by show Cs _ _ _ _ _ _ _ _ _ _ _; rw [← hw9]; exact K8.out.reg (u := 0) (by rw [RL8.out]; decide)
        have V9 : Hid (Blk w9 ge 34 (evC 0 0)) := by show Blk _ _ _ _; rw [← hw9]; exact V8.out.far (by show ge ≠ w.heap.size; omega) _
        have RL9 : Hid ((((R.set 0 0).set a (thrR op vb vc)).set 0 0).length = 16) := by show _ = _; rw [List.length_set]; exact RL8.out
        clear q0 f0 hw9 K8 V8
        have ne : Nonempty (Stg (RetC w (((R.set 0 0).set a (thrR op vb vc)).set 0 0) pc1 l R pc (cpuC (((R.set 0 0).set a (thrR op vb vc)).set 0 0) pc1) (evC 0 0) (.slice A7 xs.length c7) xs (fun w' => Blk w' ge 34 (evC 0 0)))) := ⟨⟨0, w9, K9.out, V9.out⟩⟩
        refine wp_region_late 0 3 (RetC w (((R.set 0 0).set a (thrR op vb vc)).set 0 0) pc1 l R pc (cpuC (((R.set 0 0).set a (thrR op vb vc)).set 0 0) pc1) (evC 0 0) (.slice A7 xs.length c7) xs (fun w' => Blk w' ge 34 (evC 0 0))) (by kernel_rfl) (by kernel_rfl) ⟨K9.out.drew, V9.out⟩ ?_
        simp only [List.take_succ_cons, List.take_zero, List.drop_succ_cons, List.drop_zero]
        refine wpQuiet_nil ?_
        repeat (first
          | go_big_quiet_step (fail)
          | (go_big_quiet_want; refine quiet_load_blk 25 (.tmp 3) w.heap.size 25 (cpuC (((R.set 0 0).set a (thrR op vb vc)).set 0 0) pc1) _ rfl rfl (by rintro _ ⟨u, rfl⟩; exact u.prf.1.1.c) Tryd.underlying25 rfl (cpu_size RL9.out) ?_; go_frame; go_big_quiet_on)
          | (go_big_quiet_want; refine quiet_load_blk 34 (.tmp 17) ge 34 (evC 0 0) _ rfl rfl (by rintro _ ⟨u, rfl⟩; exact u.prf.2) Tryd.underlying34 rfl ev_info ?_; go_frame; go_big_quiet_on))
        refine wpQuiet_nil ?_
        refine wpT_store 25 (.tmp 6) (.tmp 208) (w.heap.size + 1 + 1) 25 (cpuC (((R.set 0 0).set a (thrR op vb vc)).set 0 0) pc1) rfl rfl rfl rfl rfl (cpu_size RL9.out) (cpuC_one _ _) (fun w' hw => ⟨_, hw.1.1.oc, by rw [cpuC_size, RL9.out]; rfl⟩) (fun w' w2 hw hb hg => ⟨hw.1.putoc hb hg, hw.2.grown hg (ne_blk (by omega))⟩) ?_
        refine wpT_assign (.tmp 209) rfl (fun w' hw => hw) ?_
        refine wpT_store 34 (.tmp 8) (.tmp 210) (w.heap.size + 1 + 1 + 1) 34 (evC 0 0) rfl rfl rfl rfl rfl ev_info (evC_one _ _) (fun w' hw => ⟨_, hw.1.1.oe, rfl⟩) (fun w' w2 hw hb hg => ⟨hw.1.putoe hb hg, hw.2.grown hg (ne_blk (by omega))⟩) ?_
        refine wpT_nil ?_
        intro w10 hw10
        have KF := Lib.hid hw10.1
        go_wp2
        refine bodyPost_ret (results_ctc rfl rfl rfl rfl KF.out.1.oc Tryd.underlying25 rfl (cpu_size RL9.out) KF.out.1.oe Tryd.underlying34 rfl ev_info) rfl ?_
        rw [HQ.out]
        exact ⟨_, rfl, KF.out.2, KF.out.1.below⟩
      · by_cases o18 : op ≤ 18
        · have t13 : decide ((op : Int) ≤ 13) = false := by simp; omega
          have t18 : decide ((op : Int) ≤ 18) = true := by simp; omega
          obtain ⟨j, hj⟩ : ∃ j, op - 14 = j := ⟨_, rfl⟩
          obtain ⟨wn, hwn⟩ : ∃ wn, wnR op = wn := ⟨_, rfl⟩
          have e3 : (op : Int) - 14 = (j : Nat) := by omega
          have j5 : (j : Int) < 5 := by omega
          obtain ⟨wn1, wn13⟩ := wnR_range (op := op) (by omega) (by omega)
          rw [hwn] at wn1 wn13
          have HWN : Hid ((([1, 6, 7, 8, 12] : List Nat).getD j 0) = wn) := by show _ = _; rw [← hwn, ← hj]; rfl
          have HQ : Hid (stepR R pc l xs = ⟨((R.set 0 0).set a (thrR wn vb im)).set 0 0, pc1, xs, 0, 0⟩) := HP.out.trans (by unfold stDo; dsimp only; rw [if_neg (by omega), if_pos (by omega)]; rw [hwn])
          clear hj hwn
          go_wp2
          generalize (w6.alloc (.cells #[.int .i64 0, .int .u32 0] 34)) = w7 at *
          have hgi := I7.out.lt
          have hgel := V7.out.lt
          generalize w6.heap.size = ge at *
          clear K6 I6 i0 hz6 hy6
          have ne : Nonempty (Stg (fun k w' => Cs w w' (if k = 0 then R.set 0 0 else (R.set 0 0).set a (thrR wn vb im)) pc1 l R pc zC zE (.slice A7 xs.length c7) xs ∧ Blk w' gi 41 #[.int .u8 op, .int .u8 a, .int .u8 b, .int .u8 cc, .int .i32 imm] ∧ Blk w' ge 34 (evC 0 0))) := ⟨⟨0, w7, K7.out, I7.out, V7.out⟩⟩
          have ne0 : Nonempty (Stg0 (fun k w' => Cs w w' (if k = 0 then R.set 0 0 else (R.set 0 0).set a (thrR wn vb im)) pc1 l R pc zC zE (.slice A7 xs.length c7) xs ∧ Blk w' gi 41 #[.int .u8 op, .int .u8 a, .int .u8 b, .int .u8 cc, .int .i32 imm] ∧ Blk w' ge 34 (evC 0 0))) := ⟨⟨w7, K7.out, I7.out, V7.out⟩⟩
          have p1 : ∀ u : Stg0 (fun k w' => Cs w w' (if k = 0 then R.set 0 0 else (R.set 0 0).set a (thrR wn vb im)) pc1 l R pc zC zE (.slice A7 xs.length c7) xs ∧ Blk w' gi 41 #[.int .u8 op, .int .u8 a, .int .u8 b, .int .u8 cc, .int .i32 imm] ∧ Blk w' ge 34 (evC 0 0)), u.val.cell? ⟨gi, 1, none⟩ = some (.int .u8 a) := fun u => u.prf.2.1.cell 1 rfl
          have r3 : ∀ u : Stg0 (fun k w' => Cs w w' (if k = 0 then R.set 0 0 else (R.set 0 0).set a (thrR wn vb im)) pc1 l R pc zC zE (.slice A7 xs.length c7) xs ∧ Blk w' gi 41 #[.int .u8 op, .int .u8 a, .int .u8 b, .int .u8 cc, .int .i32 imm] ∧ Blk w' ge 34 (evC 0 0)), u.val.cell? ⟨0, j, none⟩ = some (.int .u8 wn) := fun u => by have := HT.out.later u.prf.1.1.below j (by omega); rw [HWN.out] at this; exact this
          have hcf := fun x y w => rk_call wn x y w wn1 wn13
          refine wp_region_late 10 12 (fun k w' => Cs w w' (if k = 0 then R.set 0 0 else (R.set 0 0).set a (thrR wn vb im)) pc1 l R pc zC zE (.slice A7 xs.length c7) xs ∧ Blk w' gi 41 #[.int .u8 op, .int .u8 a, .int .u8 b, .int .u8 cc, .int .i32 imm] ∧ Blk w' ge 34 (evC 0 0)) (by kernel_rfl) (by kernel_rfl) ⟨K7.out.drew, I7.out, V7.out⟩ ?_
          simp only [List.take_succ_cons, List.take_zero, List.drop_succ_cons, List.drop_zero]
          repeat (go_big_quiet_step (first
            | (go_at_call 24; with_reducible exact Stg0.call_same (reckon_any wn _ wn1 wn13))
            | (with_reducible exact Stg0.call_same (rk_any wn vb im _ wn1 wn13 lvb lim))))
          refine wpQuiet_nil ?_
          repeat (go_big_quiet_step (fail))
          refine wpQuiet_nil ?_
          refine wpT_cons #[] undef rfl (by intro d h; cases h) (fun w8 hw8 => ?_) ?_
          · have q0 := hw8.1.1.c.cell a (cpuC_reg (by rw [if_pos rfl, HR0.out.1]; omega))
            have f0 := hw8.1.1.c.frozen a
            refine store_cell 22 (.tmp 106) (.tmp 104) w.heap.size a .u32 _ _ rfl rfl rfl rfl (by intro; kernel_rfl) q0 f0 ?_
            intro w9 hw9
            refine ⟨rfl, ?_⟩
            rw [← hw9]
            exact ⟨hw8.1.reg (by rw [if_pos rfl, HR0.out.1]; omega), hw8.2.1.far (by show gi ≠ w.heap.size; omega) _, hw8.2.2.far (by show ge ≠ w.heap.size; omega) _⟩
          refine wpT_nil ?_
          intro w8 hw8
          have K8 : Hid (Cs w w8 ((R.set 0 0).set a (thrR wn vb im)) pc1 l R pc zC zE (.slice A7 xs.length c7) xs) := hw8.1
          have V8 := Lib.hid hw8.2.2
          have RL8 : Hid (((R.set 0 0).set a (thrR wn vb im)).length = 16) := by show _ = _; rw [List.length_set]; exact HR0.out.1
          clear hw8 p1 r3 ne ne0 K7 I7 V7 hcf
          have q0 := K8.out.1.c.cell 0 (cpuC_reg (by rw [RL8.out]; decide))
          have f0 := K8.out.1.c.frozen 0
          go_wp2_with (first
            | (refine store_cell 22 (.tmp 207) (.const (.int .u32 0)) w.heap.size 0 .u32 0 _ rfl rfl rfl rfl (by intro; kernel_rfl) q0 f0 ?_; intro w9 hw9; go_frame))
          have K9 : Hid (Cs w w9 (((R.set 0 0).set a (thrR wn vb im)).set 0 0) pc1 l R pc zC zE (.slice A7 xs.length c7) xs) := by show Cs _ _ _ _ _ _ _ _ _ _ _; rw [← hw9]; exact K8.out.reg (u := 0) (by rw [RL8.out]; decide)
          have V9 : Hid (Blk w9 ge 34 (evC 0 0)) := by show Blk _ _ _ _; rw [← hw9]; exact V8.out.far (by show ge ≠ w.heap.size; omega) _
          have RL9 : Hid ((((R.set 0 0).set a (thrR wn vb im)).set 0 0).length = 16) := by show _ = _; rw [List.length_set]; exact RL8.out
          clear q0 f0 hw9 K8 V8
          have ne : Nonempty (Stg (RetC w (((R.set 0 0).set a (thrR wn vb im)).set 0 0) pc1 l R pc (cpuC (((R.set 0 0).set a (thrR wn vb im)).set 0 0) pc1) (evC 0 0) (.slice A7 xs.length c7) xs (fun w' => Blk w' ge 34 (evC 0 0)))) := ⟨⟨0, w9, K9.out, V9.out⟩⟩
          refine wp_region_late 0 3 (RetC w (((R.set 0 0).set a (thrR wn vb im)).set 0 0) pc1 l R pc (cpuC (((R.set 0 0).set a (thrR wn vb im)).set 0 0) pc1) (evC 0 0) (.slice A7 xs.length c7) xs (fun w' => Blk w' ge 34 (evC 0 0))) (by kernel_rfl) (by kernel_rfl) ⟨K9.out.drew, V9.out⟩ ?_
          simp only [List.take_succ_cons, List.take_zero, List.drop_succ_cons, List.drop_zero]
          refine wpQuiet_nil ?_
          repeat (first
            | go_big_quiet_step (fail)
            | (go_big_quiet_want; refine quiet_load_blk 25 (.tmp 3) w.heap.size 25 (cpuC (((R.set 0 0).set a (thrR wn vb im)).set 0 0) pc1) _ rfl rfl (by rintro _ ⟨u, rfl⟩; exact u.prf.1.1.c) Tryd.underlying25 rfl (cpu_size RL9.out) ?_; go_frame; go_big_quiet_on)
            | (go_big_quiet_want; refine quiet_load_blk 34 (.tmp 17) ge 34 (evC 0 0) _ rfl rfl (by rintro _ ⟨u, rfl⟩; exact u.prf.2) Tryd.underlying34 rfl ev_info ?_; go_frame; go_big_quiet_on))
          refine wpQuiet_nil ?_
          refine wpT_store 25 (.tmp 6) (.tmp 208) (w.heap.size + 1 + 1) 25 (cpuC (((R.set 0 0).set a (thrR wn vb im)).set 0 0) pc1) rfl rfl rfl rfl rfl (cpu_size RL9.out) (cpuC_one _ _) (fun w' hw => ⟨_, hw.1.1.oc, by rw [cpuC_size, RL9.out]; rfl⟩) (fun w' w2 hw hb hg => ⟨hw.1.putoc hb hg, hw.2.grown hg (ne_blk (by omega))⟩) ?_
          refine wpT_assign (.tmp 209) rfl (fun w' hw => hw) ?_
          refine wpT_store 34 (.tmp 8) (.tmp 210) (w.heap.size + 1 + 1 + 1) 34 (evC 0 0) rfl rfl rfl rfl rfl ev_info (evC_one _ _) (fun w' hw => ⟨_, hw.1.1.oe, rfl⟩) (fun w' w2 hw hb hg => ⟨hw.1.putoe hb hg, hw.2.grown hg (ne_blk (by omega))⟩) ?_
          refine wpT_nil ?_
          intro w10 hw10
          have KF := Lib.hid hw10.1
          go_wp2
          refine bodyPost_ret (results_ctc rfl rfl rfl rfl KF.out.1.oc Tryd.underlying25 rfl (cpu_size RL9.out) KF.out.1.oe Tryd.underlying34 rfl ev_info) rfl ?_
          rw [HQ.out]
          exact ⟨_, rfl, KF.out.2, KF.out.1.below⟩
        · by_cases o19 : op = 19
          · have t13 : decide ((op : Int) ≤ 13) = false := by simp; omega
            have t18 : decide ((op : Int) ≤ 18) = false := by simp; omega
            have t19 : ((op : Int) == 19) = true := by simp; omega
            have HQ : Hid (stepR R pc l xs = ⟨((R.set 0 0).set a (im * 65536 % 4294967296)).set 0 0, pc1, xs, 0, 0⟩) := HP.out.trans (by unfold stDo; dsimp only; rw [if_neg (by omega), if_neg (by omega), if_pos (by omega)])
            clear o19
            have RL : Hid ((R.set 0 0).length = 16) := HR0.out.1
            have i1 : w6.cell? ⟨gi, 1, none⟩ = some (.int .u8 a) := I6.out.cell 1 rfl
            have q16 : w6.cell? ⟨w.heap.size, 16, none⟩ = some (.int .u32 (pc1 : Nat)) := K6.out.1.c.cell 16 (cpuC_pc RL.out)
            have hzw : w.heap.size < w6.heap.size := by omega
            go_wp2_with (first
              | (refine store_cell 22 (.tmp 115) (.tmp 113) w.heap.size a .u32 _ _ rfl rfl rfl rfl (by intro; kernel_rfl) (K7.out.1.c.cell a (cpuC_reg (by rw [RL.out]; omega))) (K7.out.1.c.frozen a) ?_; intro w8 hw8; have K8 : Hid (Cs w w8 ((R.set 0 0).set a (im * 65536 % 4294967296)) pc1 l R pc zC zE (.slice A7 xs.length c7) xs) := (by rw [← hw8]; exact K7.out.reg' (u := im * 65536 % 4294967296) (by first | omega | rfl) (by rw [RL.out]; omega)); have V8 : Hid (Blk w8 w6.heap.size 34 (evC 0 0)) := (by rw [← hw8]; exact V7.out.far (by show w6.heap.size ≠ w.heap.size; omega) _); have I8 : Hid (Blk w8 gi 41 #[.int .u8 op, .int .u8 a, .int .u8 b, .int .u8 cc, .int .i32 imm]) := (by rw [← hw8]; exact I7.out.far (by show gi ≠ w.heap.size; omega) _); have RL8 : Hid ((((R.set 0 0).set a (im * 65536 % 4294967296))).length = 16) := (by simp only [List.length_set]; exact HR.out.1); have RL := RL8; have q16 := K8.out.1.c.cell 16 (cpuC_pc RL8.out); have i1 : w8.cell? ⟨gi, 1, none⟩ = some (.int .u8 a) := I8.out.cell 1 rfl; have q0 := K8.out.1.c.cell 0 (cpuC_reg (by rw [RL8.out]; decide)); have f0 := K8.out.1.c.frozen 0; clear hw8; go_frame)
              | (refine store_cell 22 (.tmp 207) (.const (.int .u32 0)) w.heap.size 0 .u32 0 _ rfl rfl rfl rfl (by intro; kernel_rfl) q0 f0 ?_; intro w9 hw9; go_frame))
            have K9 : Hid (Cs w w9 (((R.set 0 0).set a (im * 65536 % 4294967296)).set 0 0) pc1 l R pc zC zE (.slice A7 xs.length c7) xs) := by show Cs _ _ _ _ _ _ _ _ _ _ _; rw [← hw9]; exact K8.out.reg (u := 0) (by rw [RL8.out]; decide)
            have V9 : Hid (Blk w9 w6.heap.size 34 (evC 0 0)) := by show Blk _ _ _ _; rw [← hw9]; exact V8.out.far (by show w6.heap.size ≠ w.heap.size; omega) _
            have RL9 : Hid ((((R.set 0 0).set a (im * 65536 % 4294967296)).set 0 0).length = 16) := by show _ = _; rw [List.length_set]; exact RL8.out
            clear q0 f0 hw9 K8 V8
            have ne : Nonempty (Stg (RetC w (((R.set 0 0).set a (im * 65536 % 4294967296)).set 0 0) pc1 l R pc (cpuC (((R.set 0 0).set a (im * 65536 % 4294967296)).set 0 0) pc1) (evC 0 0) (.slice A7 xs.length c7) xs (fun w' => Blk w' w6.heap.size 34 (evC 0 0)))) := ⟨⟨0, w9, K9.out, V9.out⟩⟩
            refine wp_region_late 0 3 (RetC w (((R.set 0 0).set a (im * 65536 % 4294967296)).set 0 0) pc1 l R pc (cpuC (((R.set 0 0).set a (im * 65536 % 4294967296)).set 0 0) pc1) (evC 0 0) (.slice A7 xs.length c7) xs (fun w' => Blk w' w6.heap.size 34 (evC 0 0))) (by kernel_rfl) (by kernel_rfl) ⟨K9.out.drew, V9.out⟩ ?_
            simp only [List.take_succ_cons, List.take_zero, List.drop_succ_cons, List.drop_zero]
            refine wpQuiet_nil ?_
            repeat (first
              | go_big_quiet_step (fail)
              | (go_big_quiet_want; refine quiet_load_blk 25 (.tmp 3) w.heap.size 25 (cpuC (((R.set 0 0).set a (im * 65536 % 4294967296)).set 0 0) pc1) _ rfl rfl (by rintro _ ⟨u, rfl⟩; exact u.prf.1.1.c) Tryd.underlying25 rfl (cpu_size RL9.out) ?_; go_frame; go_big_quiet_on)
              | (go_big_quiet_want; refine quiet_load_blk 34 (.tmp 17) w6.heap.size 34 (evC 0 0) _ rfl rfl (by rintro _ ⟨u, rfl⟩; exact u.prf.2) Tryd.underlying34 rfl ev_info ?_; go_frame; go_big_quiet_on))
            refine wpQuiet_nil ?_
            refine wpT_store 25 (.tmp 6) (.tmp 208) (w.heap.size + 1 + 1) 25 (cpuC (((R.set 0 0).set a (im * 65536 % 4294967296)).set 0 0) pc1) rfl rfl rfl rfl rfl (cpu_size RL9.out) (cpuC_one _ _) (fun w' hw => ⟨_, hw.1.1.oc, by rw [cpuC_size, RL9.out]; rfl⟩) (fun w' w2 hw hb hg => ⟨hw.1.putoc hb hg, hw.2.grown hg (ne_blk (by omega))⟩) ?_
            refine wpT_assign (.tmp 209) rfl (fun w' hw => hw) ?_
            refine wpT_store 34 (.tmp 8) (.tmp 210) (w.heap.size + 1 + 1 + 1) 34 (evC 0 0) rfl rfl rfl rfl rfl ev_info (evC_one _ _) (fun w' hw => ⟨_, hw.1.1.oe, rfl⟩) (fun w' w2 hw hb hg => ⟨hw.1.putoe hb hg, hw.2.grown hg (ne_blk (by omega))⟩) ?_
            refine wpT_nil ?_
            intro w10 hw10
            have KF := Lib.hid hw10.1
            go_wp2
            refine bodyPost_ret (results_ctc rfl rfl rfl rfl KF.out.1.oc Tryd.underlying25 rfl (cpu_size RL9.out) KF.out.1.oe Tryd.underlying34 rfl ev_info) rfl ?_
            rw [HQ.out]
            exact ⟨_, rfl, KF.out.2, KF.out.1.below⟩
          · by_cases o22 : op ≤ 22
            · have t13 : decide ((op : Int) ≤ 13) = false := by simp; omega
              have t18 : decide ((op : Int) ≤ 18) = false := by simp; omega
              have t19 : ((op : Int) == 19) = false := by simp; omega
              have t22 : decide ((op : Int) ≤ 22) = true := by simp; omega
              obtain ⟨ad, had⟩ : ∃ ad, (vb + im) % 4294967296 = ad := ⟨_, rfl⟩
              have e6 : ((vb : Int) + (im : Int)) % 4294967296 = (ad : Nat) := by omega
              have lad : ad < 4294967296 := by omega
              have RL : Hid ((R.set 0 0).length = 16) := HR0.out.1
              have i1 : w6.cell? ⟨gi, 1, none⟩ = some (.int .u8 a) := I6.out.cell 1 rfl
              have q16 : w6.cell? ⟨w.heap.size, 16, none⟩ = some (.int .u32 (pc1 : Nat)) := K6.out.1.c.cell 16 (cpuC_pc RL.out)
              have hzw : w.heap.size < w6.heap.size := by omega
              go_wp2_with (first
                | (refine load_blk 29 (.tmp 4) (w.heap.size + 1) 29 (pteL l).toArray _ rfl rfl rfl K7.out.1.s Tryd.underlying29 rfl (space_size HL.out) ?_; go_frame))
              rw [e6]
              refine (ld_any op A7 c7 xs l ad _ (by omega) (by omega) hx RV.out HL.out lad).mono ?_
              rintro e w71 ⟨rfl, hb71⟩
              replace K7 := Lib.hid (K7.out.later hb71)
              replace I7 := Lib.hid (I7.out.below hb71 I7.out.lt)
              replace V7 := Lib.hid (V7.out.below hb71 V7.out.lt)
              clear i1 q16 K6 I6 i0 RV
              clear hb71
              cases hlv : ldR op xs l ad with
              | none =>
                have HQ : Hid (stepR R pc l xs = ⟨R, pc, xs, 2, ad⟩) := HP.out.trans (by unfold stDo; dsimp only; rw [if_neg (by omega), if_neg (by omega), if_neg (by omega), if_pos (by omega)]; rw [had, hlv])
                clear hlv had
                unfold loadE
                go_wp2_with (first
                  | (refine load_blk 25 (.tmp 9) (w.heap.size + 1 + 1 + 1 + 1) 25 (cpuC R pc) _ rfl rfl rfl K7.out.1.was Tryd.underlying25 rfl (cpu_size HR.out.1) ?_; go_frame)
                  | (refine store_blk 25 (.tmp 6) (.tmp 131) (w.heap.size + 1 + 1) 25 zC (cpuC R pc) rfl rfl rfl rfl K7.out.1.oc (by rw [cpuC_size, HR.out.1]; rfl) (cpu_size HR.out.1) (cpuC_one _ _) ?_; intro w85 hr85 hg85)
                  | (refine store_blk 34 (.tmp 8) (.tmp 136) (w.heap.size + 1 + 1 + 1) 34 zE (evC 2 ad) rfl rfl rfl rfl (K7.out.putoc hr85 hg85).1.oe rfl ev_info (evC_one 2 ad) ?_; intro w86 hr86 hg86)
                  | (refine store_blk 34 (.tmp 8) (.tmp 136) (w.heap.size + 1 + 1 + 1) 34 zE #[.int .i64 2, .int .u32 (((vb : Int) + (im : Int)) % 4294967296)] rfl rfl rfl rfl (K7.out.putoc hr85 hg85).1.oe rfl ev_info (by rw [e6]; exact evC_one 2 ad) ?_; intro w86 hr86 hg86))
                try rw [e6] at hr86
                have KF : Hid (Cs w w86 (R.set 0 0) pc1 l R pc (cpuC R pc) (evC 2 ad) (.slice A7 xs.length c7) xs) := (K7.out.putoc hr85 hg85).putoe hr86 hg86
                have RLF := Lib.hid HR.out.1
                go_wp2
                refine bodyPost_ret (results_ctc rfl rfl rfl rfl KF.out.1.oc Tryd.underlying25 rfl (cpu_size RLF.out) KF.out.1.oe Tryd.underlying34 rfl ev_info) rfl ?_
                rw [HQ.out]
                exact ⟨_, rfl, KF.out.2, KF.out.1.below⟩
              | some v =>
                have HQ : Hid (stepR R pc l xs = ⟨((R.set 0 0).set a v).set 0 0, pc1, xs, 0, 0⟩) := HP.out.trans (by unfold stDo; dsimp only; rw [if_neg (by omega), if_neg (by omega), if_neg (by omega), if_pos (by omega)]; rw [had, hlv])
                clear hlv had
                unfold loadE
                have i1 : w71.cell? ⟨gi, 1, none⟩ = some (.int .u8 a) := I7.out.cell 1 rfl
                go_wp2_with (first
                  | (refine store_cell 22 (.tmp 141) (.tmp 139) w.heap.size a .u32 _ _ rfl rfl rfl rfl (by intro; kernel_rfl) (K7.out.1.c.cell a (cpuC_reg (by rw [RL.out]; omega))) (K7.out.1.c.frozen a) ?_; intro w8 hw8; have K8 : Hid (Cs w w8 ((R.set 0 0).set a v) pc1 l R pc zC zE (.slice A7 xs.length c7) xs) := (by rw [← hw8]; exact K7.out.reg' (u := v) (by first | omega | rfl) (by rw [RL.out]; omega)); have V8 : Hid (Blk w8 w6.heap.size 34 (evC 0 0)) := (by rw [← hw8]; exact V7.out.far (by show w6.heap.size ≠ w.heap.size; omega) _); have I8 : Hid (Blk w8 gi 41 #[.int .u8 op, .int .u8 a, .int .u8 b, .int .u8 cc, .int .i32 imm]) := (by rw [← hw8]; exact I7.out.far (by show gi ≠ w.heap.size; omega) _); have RL8 : Hid ((((R.set 0 0).set a v)).length = 16) := (by simp only [List.length_set]; exact HR.out.1); have RL := RL8; have q16 := K8.out.1.c.cell 16 (cpuC_pc RL8.out); have i1 : w8.cell? ⟨gi, 1, none⟩ = some (.int .u8 a) := I8.out.cell 1 rfl; have q0 := K8.out.1.c.cell 0 (cpuC_reg (by rw [RL8.out]; decide)); have f0 := K8.out.1.c.frozen 0; clear hw8; go_frame)
                  | (refine store_cell 22 (.tmp 207) (.const (.int .u32 0)) w.heap.size 0 .u32 0 _ rfl rfl rfl rfl (by intro; kernel_rfl) q0 f0 ?_; intro w9 hw9; go_frame))
                have K9 : Hid (Cs w w9 (((R.set 0 0).set a v).set 0 0) pc1 l R pc zC zE (.slice A7 xs.length c7) xs) := by show Cs _ _ _ _ _ _ _ _ _ _ _; rw [← hw9]; exact K8.out.reg (u := 0) (by rw [RL8.out]; decide)
                have V9 : Hid (Blk w9 w6.heap.size 34 (evC 0 0)) := by show Blk _ _ _ _; rw [← hw9]; exact V8.out.far (by show w6.heap.size ≠ w.heap.size; omega) _
                have RL9 : Hid ((((R.set 0 0).set a v).set 0 0).length = 16) := by show _ = _; rw [List.length_set]; exact RL8.out
                clear q0 f0 hw9 K8 V8
                have ne : Nonempty (Stg (RetC w (((R.set 0 0).set a v).set 0 0) pc1 l R pc (cpuC (((R.set 0 0).set a v).set 0 0) pc1) (evC 0 0) (.slice A7 xs.length c7) xs (fun w' => Blk w' w6.heap.size 34 (evC 0 0)))) := ⟨⟨0, w9, K9.out, V9.out⟩⟩
                refine wp_region_late 0 3 (RetC w (((R.set 0 0).set a v).set 0 0) pc1 l R pc (cpuC (((R.set 0 0).set a v).set 0 0) pc1) (evC 0 0) (.slice A7 xs.length c7) xs (fun w' => Blk w' w6.heap.size 34 (evC 0 0))) (by kernel_rfl) (by kernel_rfl) ⟨K9.out.drew, V9.out⟩ ?_
                simp only [List.take_succ_cons, List.take_zero, List.drop_succ_cons, List.drop_zero]
                refine wpQuiet_nil ?_
                repeat (first
                  | go_big_quiet_step (fail)
                  | (go_big_quiet_want; refine quiet_load_blk 25 (.tmp 3) w.heap.size 25 (cpuC (((R.set 0 0).set a v).set 0 0) pc1) _ rfl rfl (by rintro _ ⟨u, rfl⟩; exact u.prf.1.1.c) Tryd.underlying25 rfl (cpu_size RL9.out) ?_; go_frame; go_big_quiet_on)
                  | (go_big_quiet_want; refine quiet_load_blk 34 (.tmp 17) w6.heap.size 34 (evC 0 0) _ rfl rfl (by rintro _ ⟨u, rfl⟩; exact u.prf.2) Tryd.underlying34 rfl ev_info ?_; go_frame; go_big_quiet_on))
                refine wpQuiet_nil ?_
                refine wpT_store 25 (.tmp 6) (.tmp 208) (w.heap.size + 1 + 1) 25 (cpuC (((R.set 0 0).set a v).set 0 0) pc1) rfl rfl rfl rfl rfl (cpu_size RL9.out) (cpuC_one _ _) (fun w' hw => ⟨_, hw.1.1.oc, by rw [cpuC_size, RL9.out]; rfl⟩) (fun w' w2 hw hb hg => ⟨hw.1.putoc hb hg, hw.2.grown hg (ne_blk (by omega))⟩) ?_
                refine wpT_assign (.tmp 209) rfl (fun w' hw => hw) ?_
                refine wpT_store 34 (.tmp 8) (.tmp 210) (w.heap.size + 1 + 1 + 1) 34 (evC 0 0) rfl rfl rfl rfl rfl ev_info (evC_one _ _) (fun w' hw => ⟨_, hw.1.1.oe, rfl⟩) (fun w' w2 hw hb hg => ⟨hw.1.putoe hb hg, hw.2.grown hg (ne_blk (by omega))⟩) ?_
                refine wpT_nil ?_
                intro w10 hw10
                have KF := Lib.hid hw10.1
                go_wp2
                refine bodyPost_ret (results_ctc rfl rfl rfl rfl KF.out.1.oc Tryd.underlying25 rfl (cpu_size RL9.out) KF.out.1.oe Tryd.underlying34 rfl ev_info) rfl ?_
                rw [HQ.out]
                exact ⟨_, rfl, KF.out.2, KF.out.1.below⟩
            · by_cases o24 : op ≤ 24
              · have t13 : decide ((op : Int) ≤ 13) = false := by simp; omega
                have t18 : decide ((op : Int) ≤ 18) = false := by simp; omega
                have t19 : ((op : Int) == 19) = false := by simp; omega
                have t22 : decide ((op : Int) ≤ 22) = false := by simp; omega
                have t24 : decide ((op : Int) ≤ 24) = true := by simp; omega
                obtain ⟨ad, had⟩ : ∃ ad, (vb + im) % 4294967296 = ad := ⟨_, rfl⟩
                have e6 : ((vb : Int) + (im : Int)) % 4294967296 = (ad : Nat) := by omega
                have lad : ad < 4294967296 := by omega
                have RL : Hid ((R.set 0 0).length = 16) := HR0.out.1
                have i1 : w6.cell? ⟨gi, 1, none⟩ = some (.int .u8 a) := I6.out.cell 1 rfl
                have q16 : w6.cell? ⟨w.heap.size, 16, none⟩ = some (.int .u32 (pc1 : Nat)) := K6.out.1.c.cell 16 (cpuC_pc RL.out)
                have hzw : w.heap.size < w6.heap.size := by omega
                go_wp2_with (first
                  | (refine load_blk 29 (.tmp 4) (w.heap.size + 1) 29 (pteL l).toArray _ rfl rfl rfl K7.out.1.s Tryd.underlying29 rfl (space_size HL.out) ?_; go_frame))
                rw [e6]
                refine (st_any op A7 c7 xs l ad va _ (by omega) (by omega) hx RV.out H0.out HL.out lad lva).mono ?_
                intro e w71 hq71
                cases hsv : storeR xs l ad (if op = 24 then 1 else 4) va with
                | none =>
                  rw [hsv] at hq71
                  obtain ⟨rfl, hb71⟩ := hq71
                  replace K7 := Lib.hid (K7.out.later hb71)
                  replace I7 := Lib.hid (I7.out.below hb71 I7.out.lt)
                  replace V7 := Lib.hid (V7.out.below hb71 V7.out.lt)
                  clear i1 q16 K6 I6 i0 RV
                  have HQ : Hid (stepR R pc l xs = ⟨R, pc, xs, 2, ad⟩) := HP.out.trans (by unfold stDo; dsimp only; rw [if_neg (by omega), if_neg (by omega), if_neg (by omega), if_neg (by omega), if_pos (by omega)]; rw [had, hsv])
                  clear hsv had hb71
                  go_wp2_with (first
                    | (refine load_blk 25 (.tmp 9) (w.heap.size + 1 + 1 + 1 + 1) 25 (cpuC R pc) _ rfl rfl rfl K7.out.1.was Tryd.underlying25 rfl (cpu_size HR.out.1) ?_; go_frame)
                    | (refine store_blk 25 (.tmp 6) (.tmp 158) (w.heap.size + 1 + 1) 25 zC (cpuC R pc) rfl rfl rfl rfl K7.out.1.oc (by rw [cpuC_size, HR.out.1]; rfl) (cpu_size HR.out.1) (cpuC_one _ _) ?_; intro w85 hr85 hg85)
                    | (refine store_blk 34 (.tmp 8) (.tmp 163) (w.heap.size + 1 + 1 + 1) 34 zE (evC 2 ad) rfl rfl rfl rfl (K7.out.putoc hr85 hg85).1.oe rfl ev_info (evC_one 2 ad) ?_; intro w86 hr86 hg86)
                    | (refine store_blk 34 (.tmp 8) (.tmp 163) (w.heap.size + 1 + 1 + 1) 34 zE #[.int .i64 2, .int .u32 (((vb : Int) + (im : Int)) % 4294967296)] rfl rfl rfl rfl (K7.out.putoc hr85 hg85).1.oe rfl ev_info (by rw [e6]; exact evC_one 2 ad) ?_; intro w86 hr86 hg86))
                  try rw [e6] at hr86
                  have KF : Hid (Cs w w86 (R.set 0 0) pc1 l R pc (cpuC R pc) (evC 2 ad) (.slice A7 xs.length c7) xs) := (K7.out.putoc hr85 hg85).putoe hr86 hg86
                  have RLF := Lib.hid HR.out.1
                  go_wp2
                  refine bodyPost_ret (results_ctc rfl rfl rfl rfl KF.out.1.oc Tryd.underlying25 rfl (cpu_size RLF.out) KF.out.1.oe Tryd.underlying34 rfl ev_info) rfl ?_
                  rw [HQ.out]
                  exact ⟨_, rfl, KF.out.2, KF.out.1.below⟩
                | some ys =>
                  rw [hsv] at hq71
                  obtain ⟨g, cz, rfl, ho71, hb71⟩ := hq71
                  have K8 : Hid (Cs w w71 (R.set 0 0) pc1 l R pc zC zE (.slice (some ⟨g, 0, none⟩) ys.length cz) ys) := ⟨K7.out.1.later hb71, own_base ho71 (by have := K7.out.1.below.size; exact this)⟩
                  replace K7 := Lib.hid (K7.out.later hb71)
                  replace I7 := Lib.hid (I7.out.below hb71 I7.out.lt)
                  replace V7 := Lib.hid (V7.out.below hb71 V7.out.lt)
                  clear i1 q16 K6 I6 i0 RV
                  have HQ : Hid (stepR R pc l xs = ⟨(R.set 0 0).set 0 0, pc1, ys, 0, 0⟩) := HP.out.trans (by unfold stDo; dsimp only; rw [if_neg (by omega), if_neg (by omega), if_neg (by omega), if_neg (by omega), if_pos (by omega)]; rw [had, hsv])
                  clear hsv had hb71 ho71
                  have V8 := V7
                  have RL8 := RL
                  have q0 := K8.out.1.c.cell 0 (cpuC_reg (by rw [RL8.out]; decide))
                  have f0 := K8.out.1.c.frozen 0
                  go_wp2_with (first
                    | (refine store_cell 22 (.tmp 207) (.const (.int .u32 0)) w.heap.size 0 .u32 0 _ rfl rfl rfl rfl (by intro; kernel_rfl) q0 f0 ?_; intro w9 hw9; go_frame))
                  have K9 : Hid (Cs w w9 ((R.set 0 0).set 0 0) pc1 l R pc zC zE (.slice (some ⟨g, 0, none⟩) ys.length cz) ys) := by show Cs _ _ _ _ _ _ _ _ _ _ _; rw [← hw9]; exact K8.out.reg (u := 0) (by rw [RL8.out]; decide)
                  have V9 : Hid (Blk w9 w6.heap.size 34 (evC 0 0)) := by show Blk _ _ _ _; rw [← hw9]; exact V8.out.far (by show w6.heap.size ≠ w.heap.size; omega) _
                  have RL9 : Hid (((R.set 0 0).set 0 0).length = 16) := by show _ = _; rw [List.length_set]; exact RL8.out
                  clear q0 f0 hw9 K8 V8
                  have ne : Nonempty (Stg (RetC w ((R.set 0 0).set 0 0) pc1 l R pc (cpuC ((R.set 0 0).set 0 0) pc1) (evC 0 0) (.slice (some ⟨g, 0, none⟩) ys.length cz) ys (fun w' => Blk w' w6.heap.size 34 (evC 0 0)))) := ⟨⟨0, w9, K9.out, V9.out⟩⟩
                  refine wp_region_late 0 3 (RetC w ((R.set 0 0).set 0 0) pc1 l R pc (cpuC ((R.set 0 0).set 0 0) pc1) (evC 0 0) (.slice (some ⟨g, 0, none⟩) ys.length cz) ys (fun w' => Blk w' w6.heap.size 34 (evC 0 0))) (by kernel_rfl) (by kernel_rfl) ⟨K9.out.drew, V9.out⟩ ?_
                  simp only [List.take_succ_cons, List.take_zero, List.drop_succ_cons, List.drop_zero]
                  refine wpQuiet_nil ?_
                  repeat (first
                    | go_big_quiet_step (fail)
                    | (go_big_quiet_want; refine quiet_load_blk 25 (.tmp 3) w.heap.size 25 (cpuC ((R.set 0 0).set 0 0) pc1) _ rfl rfl (by rintro _ ⟨u, rfl⟩; exact u.prf.1.1.c) Tryd.underlying25 rfl (cpu_size RL9.out) ?_; go_frame; go_big_quiet_on)
                    | (go_big_quiet_want; refine quiet_load_blk 34 (.tmp 17) w6.heap.size 34 (evC 0 0) _ rfl rfl (by rintro _ ⟨u, rfl⟩; exact u.prf.2) Tryd.underlying34 rfl ev_info ?_; go_frame; go_big_quiet_on))
                  refine wpQuiet_nil ?_
                  refine wpT_store 25 (.tmp 6) (.tmp 208) (w.heap.size + 1 + 1) 25 (cpuC ((R.set 0 0).set 0 0) pc1) rfl rfl rfl rfl rfl (cpu_size RL9.out) (cpuC_one _ _) (fun w' hw => ⟨_, hw.1.1.oc, by rw [cpuC_size, RL9.out]; rfl⟩) (fun w' w2 hw hb hg => ⟨hw.1.putoc hb hg, hw.2.grown hg (ne_blk (by omega))⟩) ?_
                  refine wpT_assign (.tmp 209) rfl (fun w' hw => hw) ?_
                  refine wpT_store 34 (.tmp 8) (.tmp 210) (w.heap.size + 1 + 1 + 1) 34 (evC 0 0) rfl rfl rfl rfl rfl ev_info (evC_one _ _) (fun w' hw => ⟨_, hw.1.1.oe, rfl⟩) (fun w' w2 hw hb hg => ⟨hw.1.putoe hb hg, hw.2.grown hg (ne_blk (by omega))⟩) ?_
                  refine wpT_nil ?_
                  intro w10 hw10
                  have KF := Lib.hid hw10.1
                  go_wp2
                  refine bodyPost_ret (results_ctc rfl rfl rfl rfl KF.out.1.oc Tryd.underlying25 rfl (cpu_size RL9.out) KF.out.1.oe Tryd.underlying34 rfl ev_info) rfl ?_
                  rw [HQ.out]
                  exact ⟨_, rfl, KF.out.2, KF.out.1.below⟩
              · by_cases o28 : op ≤ 28
                · have t13 : decide ((op : Int) ≤ 13) = false := by simp; omega
                  have t18 : decide ((op : Int) ≤ 18) = false := by simp; omega
                  have t19 : ((op : Int) == 19) = false := by simp; omega
                  have t22 : decide ((op : Int) ≤ 22) = false := by simp; omega
                  have t24 : decide ((op : Int) ≤ 24) = false := by simp; omega
                  have t28 : decide ((op : Int) ≤ 28) = true := by simp; omega
                  obtain ⟨pc2, hpc2⟩ : ∃ pc2, (pc1 + 4 * im) % 4294967296 = pc2 := ⟨_, rfl⟩
                  have RL : Hid ((R.set 0 0).length = 16) := HR0.out.1
                  have i1 : w6.cell? ⟨gi, 1, none⟩ = some (.int .u8 a) := I6.out.cell 1 rfl
                  have q16 : w6.cell? ⟨w.heap.size, 16, none⟩ = some (.int .u32 (pc1 : Nat)) := K6.out.1.c.cell 16 (cpuC_pc RL.out)
                  have hzw : w.heap.size < w6.heap.size := by omega
                  go_wp2_with fail
                  refine (taken_any op va vb _ (by omega) (by omega) lva lvb).mono ?_
                  rintro e w71 ⟨rfl, rfl⟩
                  cases htk : tkR op va vb with
                  | true =>
                    have HQ : Hid (stepR R pc l xs = ⟨(R.set 0 0).set 0 0, pc2, xs, 0, 0⟩) := HP.out.trans (by unfold stDo; dsimp only; rw [if_neg (by omega), if_neg (by omega), if_neg (by omega), if_neg (by omega), if_neg (by omega), if_pos (by omega)]; rw [if_pos htk, hpc2])
                    clear htk
                    go_wp2_with (first
                      | (refine store_cell 22 (.tmp 177) (.tmp 176) w.heap.size 16 .u32 _ _ rfl rfl rfl rfl (by intro; kernel_rfl) (K7.out.1.c.cell 16 (cpuC_pc RL.out)) (K7.out.1.c.frozen 16) ?_; intro w8 hw8; have K8 : Hid (Cs w w8 (R.set 0 0) pc2 l R pc zC zE (.slice A7 xs.length c7) xs) := (by rw [← hw8]; exact K7.out.setpc' (u := pc2) (by first | omega | rfl) RL.out); have V8 : Hid (Blk w8 w6.heap.size 34 (evC 0 0)) := (by rw [← hw8]; exact V7.out.far (by show w6.heap.size ≠ w.heap.size; omega) _); have I8 : Hid (Blk w8 gi 41 #[.int .u8 op, .int .u8 a, .int .u8 b, .int .u8 cc, .int .i32 imm]) := (by rw [← hw8]; exact I7.out.far (by show gi ≠ w.heap.size; omega) _); have RL8 : Hid (((R.set 0 0)).length = 16) := (by simp only [List.length_set]; exact HR.out.1); have RL := RL8; have q16 := K8.out.1.c.cell 16 (cpuC_pc RL8.out); have i1 : w8.cell? ⟨gi, 1, none⟩ = some (.int .u8 a) := I8.out.cell 1 rfl; have q0 := K8.out.1.c.cell 0 (cpuC_reg (by rw [RL8.out]; decide)); have f0 := K8.out.1.c.frozen 0; clear hw8; go_frame)
                      | (refine store_cell 22 (.tmp 207) (.const (.int .u32 0)) w.heap.size 0 .u32 0 _ rfl rfl rfl rfl (by intro; kernel_rfl) q0 f0 ?_; intro w9 hw9; go_frame))
                    have K9 : Hid (Cs w w9 ((R.set 0 0).set 0 0) pc2 l R pc zC zE (.slice A7 xs.length c7) xs) := by show Cs _ _ _ _ _ _ _ _ _ _ _; rw [← hw9]; exact K8.out.reg (u := 0) (by rw [RL8.out]; decide)
                    have V9 : Hid (Blk w9 w6.heap.size 34 (evC 0 0)) := by show Blk _ _ _ _; rw [← hw9]; exact V8.out.far (by show w6.heap.size ≠ w.heap.size; omega) _
                    have RL9 : Hid (((R.set 0 0).set 0 0).length = 16) := by show _ = _; rw [List.length_set]; exact RL8.out
                    clear q0 f0 hw9 K8 V8
                    have ne : Nonempty (Stg (RetC w ((R.set 0 0).set 0 0) pc2 l R pc (cpuC ((R.set 0 0).set 0 0) pc2) (evC 0 0) (.slice A7 xs.length c7) xs (fun w' => Blk w' w6.heap.size 34 (evC 0 0)))) := ⟨⟨0, w9, K9.out, V9.out⟩⟩
                    refine wp_region_late 0 3 (RetC w ((R.set 0 0).set 0 0) pc2 l R pc (cpuC ((R.set 0 0).set 0 0) pc2) (evC 0 0) (.slice A7 xs.length c7) xs (fun w' => Blk w' w6.heap.size 34 (evC 0 0))) (by kernel_rfl) (by kernel_rfl) ⟨K9.out.drew, V9.out⟩ ?_
                    simp only [List.take_succ_cons, List.take_zero, List.drop_succ_cons, List.drop_zero]
                    refine wpQuiet_nil ?_
                    repeat (first
                      | go_big_quiet_step (fail)
                      | (go_big_quiet_want; refine quiet_load_blk 25 (.tmp 3) w.heap.size 25 (cpuC ((R.set 0 0).set 0 0) pc2) _ rfl rfl (by rintro _ ⟨u, rfl⟩; exact u.prf.1.1.c) Tryd.underlying25 rfl (cpu_size RL9.out) ?_; go_frame; go_big_quiet_on)
                      | (go_big_quiet_want; refine quiet_load_blk 34 (.tmp 17) w6.heap.size 34 (evC 0 0) _ rfl rfl (by rintro _ ⟨u, rfl⟩; exact u.prf.2) Tryd.underlying34 rfl ev_info ?_; go_frame; go_big_quiet_on))
                    refine wpQuiet_nil ?_
                    refine wpT_store 25 (.tmp 6) (.tmp 208) (w.heap.size + 1 + 1) 25 (cpuC ((R.set 0 0).set 0 0) pc2) rfl rfl rfl rfl rfl (cpu_size RL9.out) (cpuC_one _ _) (fun w' hw => ⟨_, hw.1.1.oc, by rw [cpuC_size, RL9.out]; rfl⟩) (fun w' w2 hw hb hg => ⟨hw.1.putoc hb hg, hw.2.grown hg (ne_blk (by omega))⟩) ?_
                    refine wpT_assign (.tmp 209) rfl (fun w' hw => hw) ?_
                    refine wpT_store 34 (.tmp 8) (.tmp 210) (w.heap.size + 1 + 1 + 1) 34 (evC 0 0) rfl rfl rfl rfl rfl ev_info (evC_one _ _) (fun w' hw => ⟨_, hw.1.1.oe, rfl⟩) (fun w' w2 hw hb hg => ⟨hw.1.putoe hb hg, hw.2.grown hg (ne_blk (by omega))⟩) ?_
                    refine wpT_nil ?_
                    intro w10 hw10
                    have KF := Lib.hid hw10.1
                    go_wp2
                    refine bodyPost_ret (results_ctc rfl rfl rfl rfl KF.out.1.oc Tryd.underlying25 rfl (cpu_size RL9.out) KF.out.1.oe Tryd.underlying34 rfl ev_info) rfl ?_
                    rw [HQ.out]
                    exact ⟨_, rfl, KF.out.2, KF.out.1.below⟩
                  | false =>
                    have HQ : Hid (stepR R pc l xs = ⟨(R.set 0 0).set 0 0, pc1, xs, 0, 0⟩) := HP.out.trans (by unfold stDo; dsimp only; rw [if_neg (by omega), if_neg (by omega), if_neg (by omega), if_neg (by omega), if_neg (by omega), if_pos (by omega)]; rw [if_neg (by rw [htk]; decide)])
                    clear htk
                    have K8 := K7
                    have V8 := V7
                    have RL8 := RL
                    have q0 := K8.out.1.c.cell 0 (cpuC_reg (by rw [RL8.out]; decide))
                    have f0 := K8.out.1.c.frozen 0
                    go_wp2_with (first
                      | (refine store_cell 22 (.tmp 207) (.const (.int .u32 0)) w.heap.size 0 .u32 0 _ rfl rfl rfl rfl (by intro; kernel_rfl) q0 f0 ?_; intro w9 hw9; go_frame))
                    have K9 : Hid (Cs w w9 ((R.set 0 0).set 0 0) pc1 l R pc zC zE (.slice A7 xs.length c7) xs) := by show Cs _ _ _ _ _ _ _ _ _ _ _; rw [← hw9]; exact K8.out.reg (u := 0) (by rw [RL8.out]; decide)
                    have V9 : Hid (Blk w9 w6.heap.size 34 (evC 0 0)) := by show Blk _ _ _ _; rw [← hw9]; exact V8.out.far (by show w6.heap.size ≠ w.heap.size; omega) _
                    have RL9 : Hid (((R.set 0 0).set 0 0).length = 16) := by show _ = _; rw [List.length_set]; exact RL8.out
                    clear q0 f0 hw9 K8 V8
                    have ne : Nonempty (Stg (RetC w ((R.set 0 0).set 0 0) pc1 l R pc (cpuC ((R.set 0 0).set 0 0) pc1) (evC 0 0) (.slice A7 xs.length c7) xs (fun w' => Blk w' w6.heap.size 34 (evC 0 0)))) := ⟨⟨0, w9, K9.out, V9.out⟩⟩
                    refine wp_region_late 0 3 (RetC w ((R.set 0 0).set 0 0) pc1 l R pc (cpuC ((R.set 0 0).set 0 0) pc1) (evC 0 0) (.slice A7 xs.length c7) xs (fun w' => Blk w' w6.heap.size 34 (evC 0 0))) (by kernel_rfl) (by kernel_rfl) ⟨K9.out.drew, V9.out⟩ ?_
                    simp only [List.take_succ_cons, List.take_zero, List.drop_succ_cons, List.drop_zero]
                    refine wpQuiet_nil ?_
                    repeat (first
                      | go_big_quiet_step (fail)
                      | (go_big_quiet_want; refine quiet_load_blk 25 (.tmp 3) w.heap.size 25 (cpuC ((R.set 0 0).set 0 0) pc1) _ rfl rfl (by rintro _ ⟨u, rfl⟩; exact u.prf.1.1.c) Tryd.underlying25 rfl (cpu_size RL9.out) ?_; go_frame; go_big_quiet_on)
                      | (go_big_quiet_want; refine quiet_load_blk 34 (.tmp 17) w6.heap.size 34 (evC 0 0) _ rfl rfl (by rintro _ ⟨u, rfl⟩; exact u.prf.2) Tryd.underlying34 rfl ev_info ?_; go_frame; go_big_quiet_on))
                    refine wpQuiet_nil ?_
                    refine wpT_store 25 (.tmp 6) (.tmp 208) (w.heap.size + 1 + 1) 25 (cpuC ((R.set 0 0).set 0 0) pc1) rfl rfl rfl rfl rfl (cpu_size RL9.out) (cpuC_one _ _) (fun w' hw => ⟨_, hw.1.1.oc, by rw [cpuC_size, RL9.out]; rfl⟩) (fun w' w2 hw hb hg => ⟨hw.1.putoc hb hg, hw.2.grown hg (ne_blk (by omega))⟩) ?_
                    refine wpT_assign (.tmp 209) rfl (fun w' hw => hw) ?_
                    refine wpT_store 34 (.tmp 8) (.tmp 210) (w.heap.size + 1 + 1 + 1) 34 (evC 0 0) rfl rfl rfl rfl rfl ev_info (evC_one _ _) (fun w' hw => ⟨_, hw.1.1.oe, rfl⟩) (fun w' w2 hw hb hg => ⟨hw.1.putoe hb hg, hw.2.grown hg (ne_blk (by omega))⟩) ?_
                    refine wpT_nil ?_
                    intro w10 hw10
                    have KF := Lib.hid hw10.1
                    go_wp2
                    refine bodyPost_ret (results_ctc rfl rfl rfl rfl KF.out.1.oc Tryd.underlying25 rfl (cpu_size RL9.out) KF.out.1.oe Tryd.underlying34 rfl ev_info) rfl ?_
                    rw [HQ.out]
                    exact ⟨_, rfl, KF.out.2, KF.out.1.below⟩
                · by_cases o29 : op = 29
                  · have t13 : decide ((op : Int) ≤ 13) = false := by simp; omega
                    have t18 : decide ((op : Int) ≤ 18) = false := by simp; omega
                    have t19 : ((op : Int) == 19) = false := by simp; omega
                    have t22 : decide ((op : Int) ≤ 22) = false := by simp; omega
                    have t24 : decide ((op : Int) ≤ 24) = false := by simp; omega
                    have t28 : decide ((op : Int) ≤ 28) = false := by simp; omega
                    have t29 : ((op : Int) == 29) = true := by simp; omega
                    obtain ⟨pc2, hpc2⟩ : ∃ pc2, (pc1 + 4 * im) % 4294967296 = pc2 := ⟨_, rfl⟩
                    have HQ : Hid (stepR R pc l xs = ⟨((R.set 0 0).set a pc1).set 0 0, pc2, xs, 0, 0⟩) := HP.out.trans (by unfold stDo; dsimp only; rw [if_neg (by omega), if_neg (by omega), if_neg (by omega), if_neg (by omega), if_neg (by omega), if_neg (by omega), if_pos (by omega)]; rw [hpc2])
                    clear o29
                    have RL : Hid ((R.set 0 0).length = 16) := HR0.out.1
                    have i1 : w6.cell? ⟨gi, 1, none⟩ = some (.int .u8 a) := I6.out.cell 1 rfl
                    have q16 : w6.cell? ⟨w.heap.size, 16, none⟩ = some (.int .u32 (pc1 : Nat)) := K6.out.1.c.cell 16 (cpuC_pc RL.out)
                    have hzw : w.heap.size < w6.heap.size := by omega
                    go_wp2_with (first
                      | (refine store_cell 22 (.tmp 186) (.tmp 184) w.heap.size a .u32 _ _ rfl rfl rfl rfl (by intro; kernel_rfl) (K7.out.1.c.cell a (cpuC_reg (by rw [RL.out]; omega))) (K7.out.1.c.frozen a) ?_; intro w8 hw8; have K8 : Hid (Cs w w8 ((R.set 0 0).set a pc1) pc1 l R pc zC zE (.slice A7 xs.length c7) xs) := (by rw [← hw8]; exact K7.out.reg' (u := pc1) (by first | omega | rfl) (by rw [RL.out]; omega)); have V8 : Hid (Blk w8 w6.heap.size 34 (evC 0 0)) := (by rw [← hw8]; exact V7.out.far (by show w6.heap.size ≠ w.heap.size; omega) _); have I8 : Hid (Blk w8 gi 41 #[.int .u8 op, .int .u8 a, .int .u8 b, .int .u8 cc, .int .i32 imm]) := (by rw [← hw8]; exact I7.out.far (by show gi ≠ w.heap.size; omega) _); have RL8 : Hid ((((R.set 0 0).set a pc1)).length = 16) := (by simp only [List.length_set]; exact HR.out.1); have RL := RL8; have q16 := K8.out.1.c.cell 16 (cpuC_pc RL8.out); have i1 : w8.cell? ⟨gi, 1, none⟩ = some (.int .u8 a) := I8.out.cell 1 rfl; have q0 := K8.out.1.c.cell 0 (cpuC_reg (by rw [RL8.out]; decide)); have f0 := K8.out.1.c.frozen 0; clear hw8; go_frame)
                      | (refine store_cell 22 (.tmp 192) (.tmp 191) w.heap.size 16 .u32 _ _ rfl rfl rfl rfl (by intro; kernel_rfl) (K8.out.1.c.cell 16 (cpuC_pc RL.out)) (K8.out.1.c.frozen 16) ?_; intro w85 hw85; have K85 : Hid (Cs w w85 ((R.set 0 0).set a pc1) pc2 l R pc zC zE (.slice A7 xs.length c7) xs) := (by rw [← hw85]; exact K8.out.setpc' (u := pc2) (by first | omega | rfl) RL.out); have V85 : Hid (Blk w85 w6.heap.size 34 (evC 0 0)) := (by rw [← hw85]; exact V8.out.far (by show w6.heap.size ≠ w.heap.size; omega) _); have I85 : Hid (Blk w85 gi 41 #[.int .u8 op, .int .u8 a, .int .u8 b, .int .u8 cc, .int .i32 imm]) := (by rw [← hw85]; exact I8.out.far (by show gi ≠ w.heap.size; omega) _); have RL85 : Hid ((((R.set 0 0).set a pc1)).length = 16) := (by simp only [List.length_set]; exact HR.out.1); have RL := RL85; have q16 := K85.out.1.c.cell 16 (cpuC_pc RL85.out); have i1 : w85.cell? ⟨gi, 1, none⟩ = some (.int .u8 a) := I85.out.cell 1 rfl; have q0 := K85.out.1.c.cell 0 (cpuC_reg (by rw [RL85.out]; decide)); have f0 := K85.out.1.c.frozen 0; clear hw85; go_frame)
                      | (refine store_cell 22 (.tmp 207) (.const (.int .u32 0)) w.heap.size 0 .u32 0 _ rfl rfl rfl rfl (by intro; kernel_rfl) q0 f0 ?_; intro w9 hw9; go_frame))
                    have K9 : Hid (Cs w w9 (((R.set 0 0).set a pc1).set 0 0) pc2 l R pc zC zE (.slice A7 xs.length c7) xs) := by show Cs _ _ _ _ _ _ _ _ _ _ _; rw [← hw9]; exact K85.out.reg (u := 0) (by rw [RL85.out]; decide)
                    have V9 : Hid (Blk w9 w6.heap.size 34 (evC 0 0)) := by show Blk _ _ _ _; rw [← hw9]; exact V85.out.far (by show w6.heap.size ≠ w.heap.size; omega) _
                    have RL9 : Hid ((((R.set 0 0).set a pc1).set 0 0).length = 16) := by show _ = _; rw [List.length_set]; exact RL85.out
                    clear q0 f0 hw9 K85 V85
                    have ne : Nonempty (Stg (RetC w (((R.set 0 0).set a pc1).set 0 0) pc2 l R pc (cpuC (((R.set 0 0).set a pc1).set 0 0) pc2) (evC 0 0) (.slice A7 xs.length c7) xs (fun w' => Blk w' w6.heap.size 34 (evC 0 0)))) := ⟨⟨0, w9, K9.out, V9.out⟩⟩
                    refine wp_region_late 0 3 (RetC w (((R.set 0 0).set a pc1).set 0 0) pc2 l R pc (cpuC (((R.set 0 0).set a pc1).set 0 0) pc2) (evC 0 0) (.slice A7 xs.length c7) xs (fun w' => Blk w' w6.heap.size 34 (evC 0 0))) (by kernel_rfl) (by kernel_rfl) ⟨K9.out.drew, V9.out⟩ ?_
                    simp only [List.take_succ_cons, List.take_zero, List.drop_succ_cons, List.drop_zero]
                    refine wpQuiet_nil ?_
                    repeat (first
                      | go_big_quiet_step (fail)
                      | (go_big_quiet_want; refine quiet_load_blk 25 (.tmp 3) w.heap.size 25 (cpuC (((R.set 0 0).set a pc1).set 0 0) pc2) _ rfl rfl (by rintro _ ⟨u, rfl⟩; exact u.prf.1.1.c) Tryd.underlying25 rfl (cpu_size RL9.out) ?_; go_frame; go_big_quiet_on)
                      | (go_big_quiet_want; refine quiet_load_blk 34 (.tmp 17) w6.heap.size 34 (evC 0 0) _ rfl rfl (by rintro _ ⟨u, rfl⟩; exact u.prf.2) Tryd.underlying34 rfl ev_info ?_; go_frame; go_big_quiet_on))
                    refine wpQuiet_nil ?_
                    refine wpT_store 25 (.tmp 6) (.tmp 208) (w.heap.size + 1 + 1) 25 (cpuC (((R.set 0 0).set a pc1).set 0 0) pc2) rfl rfl rfl rfl rfl (cpu_size RL9.out) (cpuC_one _ _) (fun w' hw => ⟨_, hw.1.1.oc, by rw [cpuC_size, RL9.out]; rfl⟩) (fun w' w2 hw hb hg => ⟨hw.1.putoc hb hg, hw.2.grown hg (ne_blk (by omega))⟩) ?_
                    refine wpT_assign (.tmp 209) rfl (fun w' hw => hw) ?_
                    refine wpT_store 34 (.tmp 8) (.tmp 210) (w.heap.size + 1 + 1 + 1) 34 (evC 0 0) rfl rfl rfl rfl rfl ev_info (evC_one _ _) (fun w' hw => ⟨_, hw.1.1.oe, rfl⟩) (fun w' w2 hw hb hg => ⟨hw.1.putoe hb hg, hw.2.grown hg (ne_blk (by omega))⟩) ?_
                    refine wpT_nil ?_
                    intro w10 hw10
                    have KF := Lib.hid hw10.1
                    go_wp2
                    refine bodyPost_ret (results_ctc rfl rfl rfl rfl KF.out.1.oc Tryd.underlying25 rfl (cpu_size RL9.out) KF.out.1.oe Tryd.underlying34 rfl ev_info) rfl ?_
                    rw [HQ.out]
                    exact ⟨_, rfl, KF.out.2, KF.out.1.below⟩
                  · by_cases o30 : op = 30
                    · have t13 : decide ((op : Int) ≤ 13) = false := by simp; omega
                      have t18 : decide ((op : Int) ≤ 18) = false := by simp; omega
                      have t19 : ((op : Int) == 19) = false := by simp; omega
                      have t22 : decide ((op : Int) ≤ 22) = false := by simp; omega
                      have t24 : decide ((op : Int) ≤ 24) = false := by simp; omega
                      have t28 : decide ((op : Int) ≤ 28) = false := by simp; omega
                      have t29 : ((op : Int) == 29) = false := by simp; omega
                      have t30 : ((op : Int) == 30) = true := by simp; omega
                      obtain ⟨ad, had⟩ : ∃ ad, (vb + im) % 4294967296 = ad := ⟨_, rfl⟩
                      have e6 : ((vb : Int) + (im : Int)) % 4294967296 = (ad : Nat) := by omega
                      have lad : ad < 4294967296 := by omega
                      have HQ : Hid (stepR R pc l xs = ⟨((R.set 0 0).set a pc1).set 0 0, ad, xs, 0, 0⟩) := HP.out.trans (by unfold stDo; dsimp only; rw [if_neg (by omega), if_neg (by omega), if_neg (by omega), if_neg (by omega), if_neg (by omega), if_neg (by omega), if_neg (by omega), if_pos (by omega)]; rw [had])
                      clear o30
                      have RL : Hid ((R.set 0 0).length = 16) := HR0.out.1
                      have i1 : w6.cell? ⟨gi, 1, none⟩ = some (.int .u8 a) := I6.out.cell 1 rfl
                      have q16 : w6.cell? ⟨w.heap.size, 16, none⟩ = some (.int .u32 (pc1 : Nat)) := K6.out.1.c.cell 16 (cpuC_pc RL.out)
                      have hzw : w.heap.size < w6.heap.size := by omega
                      go_wp2_with (first
                        | (refine store_cell 22 (.tmp 201) (.tmp 199) w.heap.size a .u32 _ _ rfl rfl rfl rfl (by intro; kernel_rfl) (K7.out.1.c.cell a (cpuC_reg (by rw [RL.out]; omega))) (K7.out.1.c.frozen a) ?_; intro w8 hw8; have K8 : Hid (Cs w w8 ((R.set 0 0).set a pc1) pc1 l R pc zC zE (.slice A7 xs.length c7) xs) := (by rw [← hw8]; exact K7.out.reg' (u := pc1) (by first | omega | rfl) (by rw [RL.out]; omega)); have V8 : Hid (Blk w8 w6.heap.size 34 (evC 0 0)) := (by rw [← hw8]; exact V7.out.far (by show w6.heap.size ≠ w.heap.size; omega) _); have I8 : Hid (Blk w8 gi 41 #[.int .u8 op, .int .u8 a, .int .u8 b, .int .u8 cc, .int .i32 imm]) := (by rw [← hw8]; exact I7.out.far (by show gi ≠ w.heap.size; omega) _); have RL8 : Hid ((((R.set 0 0).set a pc1)).length = 16) := (by simp only [List.length_set]; exact HR.out.1); have RL := RL8; have q16 := K8.out.1.c.cell 16 (cpuC_pc RL8.out); have i1 : w8.cell? ⟨gi, 1, none⟩ = some (.int .u8 a) := I8.out.cell 1 rfl; have q0 := K8.out.1.c.cell 0 (cpuC_reg (by rw [RL8.out]; decide)); have f0 := K8.out.1.c.frozen 0; clear hw8; go_frame)
                        | (refine store_cell 22 (.tmp 205) (.tmp 204) w.heap.size 16 .u32 _ _ rfl rfl rfl rfl (by intro; kernel_rfl) (K8.out.1.c.cell 16 (cpuC_pc RL.out)) (K8.out.1.c.frozen 16) ?_; intro w85 hw85; have K85 : Hid (Cs w w85 ((R.set 0 0).set a pc1) ad l R pc zC zE (.slice A7 xs.length c7) xs) := (by rw [← hw85]; exact K8.out.setpc' (u := ad) (by first | omega | rfl) RL.out); have V85 : Hid (Blk w85 w6.heap.size 34 (evC 0 0)) := (by rw [← hw85]; exact V8.out.far (by show w6.heap.size ≠ w.heap.size; omega) _); have I85 : Hid (Blk w85 gi 41 #[.int .u8 op, .int .u8 a, .int .u8 b, .int .u8 cc, .int .i32 imm]) := (by rw [← hw85]; exact I8.out.far (by show gi ≠ w.heap.size; omega) _); have RL85 : Hid ((((R.set 0 0).set a pc1)).length = 16) := (by simp only [List.length_set]; exact HR.out.1); have RL := RL85; have q16 := K85.out.1.c.cell 16 (cpuC_pc RL85.out); have i1 : w85.cell? ⟨gi, 1, none⟩ = some (.int .u8 a) := I85.out.cell 1 rfl; have q0 := K85.out.1.c.cell 0 (cpuC_reg (by rw [RL85.out]; decide)); have f0 := K85.out.1.c.frozen 0; clear hw85; go_frame)
                        | (refine store_cell 22 (.tmp 207) (.const (.int .u32 0)) w.heap.size 0 .u32 0 _ rfl rfl rfl rfl (by intro; kernel_rfl) q0 f0 ?_; intro w9 hw9; go_frame))
                      have K9 : Hid (Cs w w9 (((R.set 0 0).set a pc1).set 0 0) ad l R pc zC zE (.slice A7 xs.length c7) xs) := by show Cs _ _ _ _ _ _ _ _ _ _ _; rw [← hw9]; exact K85.out.reg (u := 0) (by rw [RL85.out]; decide)
                      have V9 : Hid (Blk w9 w6.heap.size 34 (evC 0 0)) := by show Blk _ _ _ _; rw [← hw9]; exact V85.out.far (by show w6.heap.size ≠ w.heap.size; omega) _
                      have RL9 : Hid ((((R.set 0 0).set a pc1).set 0 0).length = 16) := by show _ = _; rw [List.length_set]; exact RL85.out
                      clear q0 f0 hw9 K85 V85
                      have ne : Nonempty (Stg (RetC w (((R.set 0 0).set a pc1).set 0 0) ad l R pc (cpuC (((R.set 0 0).set a pc1).set 0 0) ad) (evC 0 0) (.slice A7 xs.length c7) xs (fun w' => Blk w' w6.heap.size 34 (evC 0 0)))) := ⟨⟨0, w9, K9.out, V9.out⟩⟩
                      refine wp_region_late 0 3 (RetC w (((R.set 0 0).set a pc1).set 0 0) ad l R pc (cpuC (((R.set 0 0).set a pc1).set 0 0) ad) (evC 0 0) (.slice A7 xs.length c7) xs (fun w' => Blk w' w6.heap.size 34 (evC 0 0))) (by kernel_rfl) (by kernel_rfl) ⟨K9.out.drew, V9.out⟩ ?_
                      simp only [List.take_succ_cons, List.take_zero, List.drop_succ_cons, List.drop_zero]
                      refine wpQuiet_nil ?_
                      repeat (first
                        | go_big_quiet_step (fail)
                        | (go_big_quiet_want; refine quiet_load_blk 25 (.tmp 3) w.heap.size 25 (cpuC (((R.set 0 0).set a pc1).set 0 0) ad) _ rfl rfl (by rintro _ ⟨u, rfl⟩; exact u.prf.1.1.c) Tryd.underlying25 rfl (cpu_size RL9.out) ?_; go_frame; go_big_quiet_on)
                        | (go_big_quiet_want; refine quiet_load_blk 34 (.tmp 17) w6.heap.size 34 (evC 0 0) _ rfl rfl (by rintro _ ⟨u, rfl⟩; exact u.prf.2) Tryd.underlying34 rfl ev_info ?_; go_frame; go_big_quiet_on))
                      refine wpQuiet_nil ?_
                      refine wpT_store 25 (.tmp 6) (.tmp 208) (w.heap.size + 1 + 1) 25 (cpuC (((R.set 0 0).set a pc1).set 0 0) ad) rfl rfl rfl rfl rfl (cpu_size RL9.out) (cpuC_one _ _) (fun w' hw => ⟨_, hw.1.1.oc, by rw [cpuC_size, RL9.out]; rfl⟩) (fun w' w2 hw hb hg => ⟨hw.1.putoc hb hg, hw.2.grown hg (ne_blk (by omega))⟩) ?_
                      refine wpT_assign (.tmp 209) rfl (fun w' hw => hw) ?_
                      refine wpT_store 34 (.tmp 8) (.tmp 210) (w.heap.size + 1 + 1 + 1) 34 (evC 0 0) rfl rfl rfl rfl rfl ev_info (evC_one _ _) (fun w' hw => ⟨_, hw.1.1.oe, rfl⟩) (fun w' w2 hw hb hg => ⟨hw.1.putoe hb hg, hw.2.grown hg (ne_blk (by omega))⟩) ?_
                      refine wpT_nil ?_
                      intro w10 hw10
                      have KF := Lib.hid hw10.1
                      go_wp2
                      refine bodyPost_ret (results_ctc rfl rfl rfl rfl KF.out.1.oc Tryd.underlying25 rfl (cpu_size RL9.out) KF.out.1.oe Tryd.underlying34 rfl ev_info) rfl ?_
                      rw [HQ.out]
                      exact ⟨_, rfl, KF.out.2, KF.out.1.below⟩
                    · have t13 : decide ((op : Int) ≤ 13) = false := by simp; omega
                      have t18 : decide ((op : Int) ≤ 18) = false := by simp; omega
                      have t19 : ((op : Int) == 19) = false := by simp; omega
                      have t22 : decide ((op : Int) ≤ 22) = false := by simp; omega
                      have t24 : decide ((op : Int) ≤ 24) = false := by simp; omega
                      have t28 : decide ((op : Int) ≤ 28) = false := by simp; omega
                      have t29 : ((op : Int) == 29) = false := by simp; omega
                      have t30 : ((op : Int) == 30) = false := by simp; omega
                      have HQ : Hid (stepR R pc l xs = ⟨(R.set 0 0).set 0 0, pc1, xs, 1, im⟩) := HP.out.trans (by unfold stDo; dsimp only; rw [if_neg (by omega), if_neg (by omega), if_neg (by omega), if_neg (by omega), if_neg (by omega), if_neg (by omega), if_neg (by omega), if_neg (by omega)])
                      have RL : Hid ((R.set 0 0).length = 16) := HR0.out.1
                      have i1 : w6.cell? ⟨gi, 1, none⟩ = some (.int .u8 a) := I6.out.cell 1 rfl
                      have q16 : w6.cell? ⟨w.heap.size, 16, none⟩ = some (.int .u32 (pc1 : Nat)) := K6.out.1.c.cell 16 (cpuC_pc RL.out)
                      have hzw : w.heap.size < w6.heap.size := by omega
                      go_wp2_with (first
                        | (refine store_blk 34 (.tmp 17) (.tmp 75) w6.heap.size 34 (evC 0 0) (evC 1 im) rfl rfl rfl rfl V7.out rfl ev_info (evC_one _ _) ?_; intro w8 hr8 hg8; have K8 : Hid (Cs w w8 (R.set 0 0) pc1 l R pc zC zE (.slice A7 xs.length c7) xs) := K7.out.other V7.out (by decide) hge hg8; have V8 := Lib.hid hr8; have RL8 := RL; have q0 := K8.out.1.c.cell 0 (cpuC_reg (by rw [RL8.out]; decide)); have f0 := K8.out.1.c.frozen 0; clear hr8 hg8; go_frame)
                        | (refine store_cell 22 (.tmp 207) (.const (.int .u32 0)) w.heap.size 0 .u32 0 _ rfl rfl rfl rfl (by intro; kernel_rfl) q0 f0 ?_; intro w9 hw9; go_frame))
                      have K9 : Hid (Cs w w9 ((R.set 0 0).set 0 0) pc1 l R pc zC zE (.slice A7 xs.length c7) xs) := by show Cs _ _ _ _ _ _ _ _ _ _ _; rw [← hw9]; exact K8.out.reg (u := 0) (by rw [RL8.out]; decide)
                      have V9 : Hid (Blk w9 w6.heap.size 34 (evC 1 im)) := by show Blk _ _ _ _; rw [← hw9]; exact V8.out.far (by show w6.heap.size ≠ w.heap.size; omega) _
                      have RL9 : Hid (((R.set 0 0).set 0 0).length = 16) := by show _ = _; rw [List.length_set]; exact RL8.out
                      clear q0 f0 hw9 K8 V8
                      have ne : Nonempty (Stg (RetC w ((R.set 0 0).set 0 0) pc1 l R pc (cpuC ((R.set 0 0).set 0 0) pc1) (evC 1 im) (.slice A7 xs.length c7) xs (fun w' => Blk w' w6.heap.size 34 (evC 1 im)))) := ⟨⟨0, w9, K9.out, V9.out⟩⟩
                      refine wp_region_late 0 3 (RetC w ((R.set 0 0).set 0 0) pc1 l R pc (cpuC ((R.set 0 0).set 0 0) pc1) (evC 1 im) (.slice A7 xs.length c7) xs (fun w' => Blk w' w6.heap.size 34 (evC 1 im))) (by kernel_rfl) (by kernel_rfl) ⟨K9.out.drew, V9.out⟩ ?_
                      simp only [List.take_succ_cons, List.take_zero, List.drop_succ_cons, List.drop_zero]
                      refine wpQuiet_nil ?_
                      repeat (first
                        | go_big_quiet_step (fail)
                        | (go_big_quiet_want; refine quiet_load_blk 25 (.tmp 3) w.heap.size 25 (cpuC ((R.set 0 0).set 0 0) pc1) _ rfl rfl (by rintro _ ⟨u, rfl⟩; exact u.prf.1.1.c) Tryd.underlying25 rfl (cpu_size RL9.out) ?_; go_frame; go_big_quiet_on)
                        | (go_big_quiet_want; refine quiet_load_blk 34 (.tmp 17) w6.heap.size 34 (evC 1 im) _ rfl rfl (by rintro _ ⟨u, rfl⟩; exact u.prf.2) Tryd.underlying34 rfl ev_info ?_; go_frame; go_big_quiet_on))
                      refine wpQuiet_nil ?_
                      refine wpT_store 25 (.tmp 6) (.tmp 208) (w.heap.size + 1 + 1) 25 (cpuC ((R.set 0 0).set 0 0) pc1) rfl rfl rfl rfl rfl (cpu_size RL9.out) (cpuC_one _ _) (fun w' hw => ⟨_, hw.1.1.oc, by rw [cpuC_size, RL9.out]; rfl⟩) (fun w' w2 hw hb hg => ⟨hw.1.putoc hb hg, hw.2.grown hg (ne_blk (by omega))⟩) ?_
                      refine wpT_assign (.tmp 209) rfl (fun w' hw => hw) ?_
                      refine wpT_store 34 (.tmp 8) (.tmp 210) (w.heap.size + 1 + 1 + 1) 34 (evC 1 im) rfl rfl rfl rfl rfl ev_info (evC_one _ _) (fun w' hw => ⟨_, hw.1.1.oe, rfl⟩) (fun w' w2 hw hb hg => ⟨hw.1.putoe hb hg, hw.2.grown hg (ne_blk (by omega))⟩) ?_
                      refine wpT_nil ?_
                      intro w10 hw10
                      have KF := Lib.hid hw10.1
                      go_wp2
                      refine bodyPost_ret (results_ctc rfl rfl rfl rfl KF.out.1.oc Tryd.underlying25 rfl (cpu_size RL9.out) KF.out.1.oe Tryd.underlying34 rfl ev_info) rfl ?_
                      rw [HQ.out]
                      exact ⟨_, rfl, KF.out.2, KF.out.1.below⟩
end Go.Proofs.YtcjakmnplkeldaaDoor
