/-
  What the document's Step computes: the same word as the program's.
-/
import Derived.Test.YtcjakmnplkeldaaDoorRefB
import Derived.Test.YtcjakmnplkeldaaDoorRDec
import Derived.Deep.Cut
namespace Go.Proofs.YtcjakmnplkeldaaDoor
open Go.RowKit
set_option linter.unusedVariables false
set_option linter.unusedSimpArgs false
set_option maxRecDepth 100000
def RStepPost (o : StepO) (w : World) (e : Ending) (w' : World) : Prop :=
  ∃ A c, e = .returned (.tuple #[.agg (cpuC o.R o.pc), .slice A o.xs.length c, .agg #[.int .i64 o.kind, .int .u32 (o.n : Nat)]]) ∧ RowAt w' w'.heap.size A (o.xs.map .string) ∧ (A = none → o.xs.length = 0 ∧ c = 0) ∧ Below w.heap.size w w'
theorem setN_eq (R : List Nat) (a v : Nat) : setN (R.set 0 0) a v = ((R.set 0 0).set a v).set 0 0 := by
  unfold setN
  by_cases h : a = 0
  · subst h; rw [if_pos rfl, List.set_set, List.set_set]
  · rw [if_neg h, List.set_comm _ _ (by omega : a ≠ 0), List.set_set]
section
variable {w wr wr' : World} {R : List Nat} {pc : Nat} {l : List Pte} {Rw : List Nat} {pcw : Nat} {oc oe : Array Value}
theorem St.putc (h : St w wr R pc l Rw pcw oc oe) {R' : List Nat} {pc' : Nat} (hb : Blk wr' w.heap.size 25 (cpuC R' pc')) (hg : wr.grownBy wr' (some w.heap.size)) : St w wr' R' pc' l Rw pcw oc oe :=
  ⟨hb, h.s.grown hg (ne_blk (by omega)), h.oc.grown hg (ne_blk (by omega)), h.oe.grown hg (ne_blk (by omega)), h.was.grown hg (ne_blk (by omega)), h.below.grown hg h.below.size (fun k hk => by cases hk; omega)⟩
theorem St.setpc' (h : St w wr R pc l Rw pcw oc oe) {u : Nat} {n : Int} (hn : n = (u : Nat)) (hR : R.length = 16) : St w (wr.setCell ⟨w.heap.size, 16, none⟩ (.int .u32 n)) R u l Rw pcw oc oe := by
  subst hn; exact h.setpc hR
theorem St.alloc (h : St w wr R pc l Rw pcw oc oe) (o : Obj) : St w (wr.alloc o) R pc l Rw pcw oc oe := h.later ((Below.refl _ _).alloc (Nat.le_refl _) _)
theorem St.drew (h : St w wr R pc l Rw pcw oc oe) : St w wr.drew R pc l Rw pcw oc oe := h.later (Below.refl _ _).drew
end
theorem ins5_info {op a b cc : Nat} {imm : Int} : (Tryd.prog.info? 41).map (·.size) = some (insC5 op a b cc imm).size := by
  show _ = some 5
  kernel_rfl
theorem hide_other {w wr wr' : World} {R : List Nat} {pc : Nat} {l : List Pte} {Rw : List Nat} {pcw : Nat} {oc oe : Array Value} (h : St w wr R pc l Rw pcw oc oe) {g : Nat} (hlt : w.heap.size + 1 + 1 + 1 + 1 < g) (hg : wr.grownBy wr' (some g)) : St w wr' R pc l Rw pcw oc oe :=
  ⟨h.c.grown hg (ne_blk (by omega)), h.s.grown hg (ne_blk (by omega)), h.oc.grown hg (ne_blk (by omega)), h.oe.grown hg (ne_blk (by omega)), h.was.grown hg (ne_blk (by omega)), h.below.grown hg h.below.size (fun k hk => by cases hk; omega)⟩
theorem own_off {g n c k : Nat} (h : g < k) : (Value.slice (some ⟨g, 0, none⟩) n c).ownBlock ≠ some k := fun e => by have e2 : g = k := Option.some.inj e; omega
theorem own_off2 {g n c k : Nat} (h : k < g) : (Value.slice (some ⟨g, 0, none⟩) n c).ownBlock ≠ some k := fun e => by have e2 : g = k := Option.some.inj e; omega
def RetS (w : World) (R : List Nat) (pc : Nat) (l : List Pte) (Rw : List Nat) (pcw : Nat) (nc ne : Array Value) (k : Nat) (w' : World) : Prop :=
  St w w' R pc l Rw pcw (if k = 0 then zC else nc) (if k ≤ 2 then zE else ne)
set_option maxHeartbeats 8000000 in
theorem rstep_any (R : List Nat) (pc : Nat) (l : List Pte) (A : Option Addr) (c : Nat) (xs : List ByteArray) (w : World) (hR : Regs R) (hp : pc < 4294967296) (hl : l.length = 16) (hx : xs.length ≤ 1000000) (h : RowAt w w.heap.size A (xs.map .string)) (h0 : A = none → xs.length = 0 ∧ c = 0) :
    Calls Tryd.prog 14 #[.agg (cpuC R pc), .agg (pteL l).toArray, .slice A xs.length c] w (RStepPost (stepR R pc l xs) w) := by
  have HR := Lib.hid hR
  have HL := Lib.hid hl
  have HA := Lib.hid h
  have H0 := Lib.hid h0
  have S0 : Hid (St w (((((w.alloc (.cells (cpuC R pc) 25)).alloc (.cells (pteL l).toArray 29)).alloc (.cells zC 25)).alloc (.cells zE 34)).alloc (.cells zC 25)) R pc l (List.replicate 16 0) 0 zC zE) := by
    have z1 : (w.alloc (.cells (cpuC R pc) 25)).heap.size = w.heap.size + 1 := by simp
    have z2 : ((w.alloc (.cells (cpuC R pc) 25)).alloc (.cells (pteL l).toArray 29)).heap.size = w.heap.size + 1 + 1 := by simp
    have z3 : (((w.alloc (.cells (cpuC R pc) 25)).alloc (.cells (pteL l).toArray 29)).alloc (.cells zC 25)).heap.size = w.heap.size + 1 + 1 + 1 := by simp
    have z4 : ((((w.alloc (.cells (cpuC R pc) 25)).alloc (.cells (pteL l).toArray 29)).alloc (.cells zC 25)).alloc (.cells zE 34)).heap.size = w.heap.size + 1 + 1 + 1 + 1 := by simp
    refine ⟨((((Blk.new w _ _).alloc _).alloc _).alloc _).alloc _, ?_, ?_, ?_, ?_, (((((Below.refl _ _).alloc (Nat.le_refl _) _).alloc (by simp) _).alloc (by simp; omega) _).alloc (by simp; omega) _).alloc (by simp; omega) _⟩
    · rw [← z1]; exact (((Blk.new _ _ _).alloc _).alloc _).alloc _
    · rw [← z2]; exact ((Blk.new _ _ _).alloc _).alloc _
    · rw [← z3]; exact (Blk.new _ _ _).alloc _
    · rw [← z4]; exact Blk.new _ _ _
  clear hR hl h h0
  go_enter Tryd.func14, Tryd.ntmps14
  go_wp2_with (first
    | (refine load_blk 25 (.tmp 3) w.heap.size 25 (cpuC R pc) _ rfl rfl rfl ((((Blk.new w 25 (cpuC R pc)).alloc _).alloc _).alloc _) Tryd.underlying25 rfl (cpu_size HR.out.1) ?_; go_frame)
    | (refine store_blk 25 (.tmp 9) (.tmp 21) (w.heap.size + 1 + 1 + 1 + 1) 25 (cpuC (List.replicate 16 0) 0) (cpuC R pc) rfl rfl rfl rfl S0.out.was (by rw [cpuC_size, cpuC_size, HR.out.1]; rfl) (cpu_size HR.out.1) (cpuC_one _ _) ?_; intro w1 hr1 hg1; have K1 : Hid (St w w1 R pc l R pc zC zE) := (S0.out.putwas hr1 hg1); have q1 : w1.cell? ⟨w.heap.size, 16, none⟩ = some (.int .u32 (pc : Nat)) := (K1.out.c.cell 16 (cpuC_pc HR.out.1)); go_frame)
    | (refine load_blk 29 (.tmp 4) (w.heap.size + 1) 29 (pteL l).toArray _ rfl rfl rfl K1.out.s Tryd.underlying29 rfl (space_size HL.out) ?_; go_frame))
  have RV := Lib.hid ((HA.out.below K1.out.below).mono K1.out.below.size)
  clear hr1 hg1 S0
  refine (rload_any A c xs l pc 4 _ hx RV.out HL.out (.inr rfl) hp).mono ?_
  rintro e w3 ⟨rfl, hb3⟩
  have K3 := Lib.hid (K1.out.later hb3)
  clear q1 hb3 K1 RV
  cases hld : loadR xs l pc 4 with
  | none =>
    have HP : Hid (stepR R pc l xs = ⟨R, pc, xs, 2, pc⟩) := by show _ = _; unfold stepR; rw [hld]
    clear hld
    unfold loadE
    go_wp2
    have ne : Nonempty (Stg (RetS w R pc l R pc (cpuC R pc) (evC 2 pc))) := ⟨⟨0, w3, K3.out⟩⟩
    have q1 : ∀ u : Stg (RetS w R pc l R pc (cpuC R pc) (evC 2 pc)), u.val.cell? ⟨w.heap.size, 16, none⟩ = some (.int .u32 (pc : Nat)) := fun u => (show St _ _ _ _ _ _ _ _ _ from u.prf).c.cell 16 (cpuC_pc HR.out.1)
    refine wp_region_late 0 5 (RetS w R pc l R pc (cpuC R pc) (evC 2 pc)) (by kernel_rfl) (by kernel_rfl) K3.out.drew ?_
    simp only [List.take_succ_cons, List.take_zero, List.drop_succ_cons, List.drop_zero]
    refine wpQuiet_nil ?_
    repeat (first
      | go_big_quiet_step (fail)
      | (go_big_quiet_want; refine quiet_load_blk 25 (.tmp 9) (w.heap.size + 1 + 1 + 1 + 1) 25 (cpuC R pc) _ rfl rfl (by rintro _ ⟨u, rfl⟩; exact (show St _ _ _ _ _ _ _ _ _ from u.prf).was) Tryd.underlying25 rfl (cpu_size HR.out.1) ?_; go_frame; go_big_quiet_on))
    refine wpQuiet_nil ?_
    refine wpT_store 25 (.tmp 6) (.tmp 32) (w.heap.size + 1 + 1) 25 (cpuC R pc) rfl rfl rfl rfl rfl (cpu_size HR.out.1) (cpuC_one _ _) (fun w' hw => ⟨_, (show St _ _ _ _ _ _ _ _ _ from hw).oc, by rw [cpuC_size, HR.out.1]; rfl⟩) (fun w' w2 hw hb hg => (show St _ _ _ _ _ _ _ _ _ from hw).putoc hb hg) ?_
    refine wpT_assign (.tmp 33) rfl (fun w' hw => hw) ?_
    refine wpT_store 34 (.tmp 8) (.tmp 36) (w.heap.size + 1 + 1 + 1) 34 (evC 2 pc) rfl rfl rfl rfl rfl ev_info (evC_one _ _) (fun w' hw => ⟨_, (show St _ _ _ _ _ _ _ _ _ from hw).oe, rfl⟩) (fun w' w2 hw hb hg => (show St _ _ _ _ _ _ _ _ _ from hw).putoe hb hg) ?_
    refine wpT_nil ?_
    intro w4 hw4
    have KF : Hid (St w w4 R pc l R pc (cpuC R pc) (evC 2 pc)) := hw4
    have RL := Lib.hid HR.out.1
    go_wp2
    refine bodyPost_ret (results_ctc rfl rfl rfl rfl KF.out.oc Tryd.underlying25 rfl (cpu_size RL.out) KF.out.oe Tryd.underlying34 rfl ev_info) rfl ?_
    rw [HP.out]
    exact ⟨A, c, rfl, (HA.out.below KF.out.below).mono KF.out.below.size, H0.out, KF.out.below⟩
  | some word =>
    have hword := loadR_four hld
    unfold loadE
    go_wp2_with fail
    refine (rdec_any word _ hword).mono ?_
    rintro e w4 ⟨rfl, hb4⟩
    have K4 := Lib.hid (K3.out.later hb4)
    clear hb4 K3
    cases hdc : decR word with
    | none =>
      have HP : Hid (stepR R pc l xs = ⟨R, pc, xs, 3, word⟩) := by show _ = _; unfold stepR; rw [hld]; dsimp only; rw [hdc]
      clear hld hdc
      unfold decE insE
      dsimp only
      have K5 := Lib.hid (K4.out.alloc (.cells #[.int .u8 0, .int .u8 0, .int .u8 0, .int .u8 0, .int .i32 0] 41))
      go_wp2_with (first
        | (refine load_blk 25 (.tmp 9) (w.heap.size + 1 + 1 + 1 + 1) 25 (cpuC R pc) _ rfl rfl rfl K5.out.was Tryd.underlying25 rfl (cpu_size HR.out.1) ?_; go_frame)
        | (refine store_blk 25 (.tmp 6) (.tmp 44) (w.heap.size + 1 + 1) 25 zC (cpuC R pc) rfl rfl rfl rfl K5.out.oc (by rw [cpuC_size, HR.out.1]; rfl) (cpu_size HR.out.1) (cpuC_one _ _) ?_; intro w5 hr5 hg5; go_frame)
        | (refine store_blk 34 (.tmp 8) (.tmp 47) (w.heap.size + 1 + 1 + 1) 34 zE (evC 3 word) rfl rfl rfl rfl (K5.out.putoc hr5 hg5).oe rfl ev_info (evC_one _ _) ?_; intro w6 hr6 hg6; go_frame))
      have KF := Lib.hid ((K5.out.putoc hr5 hg5).putoe hr6 hg6)
      have RL := Lib.hid HR.out.1
      refine bodyPost_ret (results_ctc rfl rfl rfl rfl KF.out.oc Tryd.underlying25 rfl (cpu_size RL.out) KF.out.oe Tryd.underlying34 rfl ev_info) rfl ?_
      rw [HP.out]
      exact ⟨A, c, rfl, (HA.out.below KF.out.below).mono KF.out.below.size, H0.out, KF.out.below⟩
    | some x =>
      have HX := Lib.hid hdc
      have HW := Lib.hid hld
      obtain ⟨bo, ba, bb, bc, bi1, bi2⟩ := dec_bounds hdc
      unfold decE insE
      dsimp only
      clear hld hdc
      obtain ⟨op, a, b, cc, imm⟩ := x
      dsimp only at bo ba bb bc bi1 bi2
      obtain ⟨pc1, hpc1⟩ : ∃ pc1, (pc + 4) % 4294967296 = pc1 := ⟨_, rfl⟩
      have e1 : ((pc : Int) + 4) % 4294967296 = (pc1 : Nat) := by omega
      have q0 : (w4.alloc (.cells #[.int .u8 op, .int .u8 a, .int .u8 b, .int .u8 cc, .int .i32 imm] 41)).cell? ⟨w.heap.size, 0, none⟩ = some (.int .u32 (R.getD 0 0 : Nat)) := (K4.out.alloc _).c.cell 0 (cpuC_reg (by rw [HR.out.1]; decide))
      have f0 : (w4.alloc (.cells #[.int .u8 op, .int .u8 a, .int .u8 b, .int .u8 cc, .int .i32 imm] 41)).frozen? ⟨w.heap.size, 0, none⟩ = false := (K4.out.alloc _).c.frozen 0
      have hR0 : Regs (R.set 0 0) := HR.out.set_ 0 (by decide)
      have HR0 := Lib.hid hR0
      have RL := Lib.hid hR0.1
      obtain ⟨va, hva⟩ : ∃ va, (R.set 0 0).getD a 0 = va := ⟨_, rfl⟩
      obtain ⟨vb, hvb⟩ : ∃ vb, (R.set 0 0).getD b 0 = vb := ⟨_, rfl⟩
      obtain ⟨im, him⟩ : ∃ im, (imm % 4294967296).toNat = im := ⟨_, rfl⟩
      have lva : va < 4294967296 := by rw [← hva]; exact hR0.get a
      have lvb : vb < 4294967296 := by rw [← hvb]; exact hR0.get b
      have lim : im < 4294967296 := by omega
      have e2 : imm % 4294967296 = (im : Nat) := by omega
      have lpc1 : pc1 < 4294967296 := by omega
      have op1 : 1 ≤ op := (enc_parts (by rw [dec_some HX.out])).1
      have HP : Hid (stepR R pc l xs = stDo R pc l xs ⟨op, a, b, cc, imm⟩ va vb im pc1 (R.set 0 0)) := by
        show _ = _
        unfold stepR
        rw [HW.out]
        dsimp only
        rw [HX.out]
        dsimp only
        rw [hva, hvb, him, hpc1]
      have HVA := Lib.hid hva
      have HVB := Lib.hid hvb
      have HIM := Lib.hid him
      have hn := fun w => rnumber_any imm w
      rw [e2] at hn
      have CN := Lib.hid hn
      clear hva hvb him hpc1 hR0 HX HW hn
      go_wp2_with (refine store_cell 22 (.tmp 49) (.const (.int .u32 0)) w.heap.size 0 .u32 0 _ rfl rfl rfl rfl (by intro; kernel_rfl) q0 f0 ?_; intro w5 hw5; go_frame)
      have K5 : Hid (St w w5 (R.set 0 0) pc l R pc zC zE) := by show St _ _ _ _ _ _ _ _ _; rw [← hw5]; exact (K4.out.alloc _).reg (v := 0) (by rw [HR.out.1]; decide)
      have hgw := K4.out.lt
      have I5 : Hid (Blk w5 w4.heap.size 41 #[.int .u8 op, .int .u8 a, .int .u8 b, .int .u8 cc, .int .i32 imm]) := by show Blk _ _ _ _; rw [← hw5]; exact (Blk.new w4 _ _).far (by show w4.heap.size ≠ w.heap.size; omega) _
      generalize w4.heap.size = gi at *
      clear q0 f0 hw5 K4
      have p2 : ∀ u : Ext w5, u.val.cell? ⟨gi, 2, none⟩ = some (.int .u8 b) := fun u => u.cell (I5.out.cell 2 rfl)
      have p4 : ∀ u : Ext w5, u.val.cell? ⟨gi, 4, none⟩ = some (.int .i32 imm) := fun u => u.cell (I5.out.cell 4 rfl)
      have r2 : ∀ u : Ext w5, u.val.cell? ⟨w.heap.size, b, none⟩ = some (.int .u32 vb) := fun u => u.cell (by rw [K5.out.c.cell b (cpuC_reg (by rw [RL.out]; omega)), HVB.out])
      have la16 : a < 16 := by omega
      have lb16 : b < 16 := by omega
      have a16 : (a : Int) < 16 := by omega
      have b16 : (b : Int) < 16 := by omega
      have c16 : (cc : Int) < 16 := by omega
      refine wp_region_ext (by kernel_rfl) (by kernel_rfl) ?_
      repeat (go_big_quiet_step (first
        | (go_at_call 30; with_reducible exact Ext.call_same (CN.out _))))
      refine wpQuiet_nil ?_
      rintro _ ⟨u, rfl⟩
      have K6 := Lib.hid (K5.out.later u.below)
      have I6 := Lib.hid (I5.out.below u.below I5.out.lt)
      clear p2 p4 r2 K5 I5 CN
      generalize u.val = w6 at *
      clear u
      have q16 : w6.cell? ⟨w.heap.size, 16, none⟩ = some (.int .u32 (pc : Nat)) := K6.out.c.cell 16 (cpuC_pc RL.out)
      have f16 : w6.frozen? ⟨w.heap.size, 16, none⟩ = false := K6.out.c.frozen 16
      go_upto_region 13 with fail
      rw [e1]
      have K7 : Hid (St w (w6.setCell ⟨w.heap.size, 16, none⟩ (.int .u32 (pc1 : Nat))) (R.set 0 0) pc1 l R pc zC zE) := K6.out.setpc RL.out
      have I7 : Hid (Blk (w6.setCell ⟨w.heap.size, 16, none⟩ (.int .u32 (pc1 : Nat))) gi 41 #[.int .u8 op, .int .u8 a, .int .u8 b, .int .u8 cc, .int .i32 imm]) := I6.out.far (by show gi ≠ w.heap.size; omega) _
      generalize w6.setCell ⟨w.heap.size, 16, none⟩ (.int .u32 (pc1 : Nat)) = w7 at *
      clear q16 f16 K6 I6
      have i0 : w7.cell? ⟨gi, 0, none⟩ = some (.int .u8 op) := I7.out.cell 0 rfl
      have i1 : w7.cell? ⟨gi, 1, none⟩ = some (.int .u8 a) := I7.out.cell 1 rfl
      by_cases o13 : op ≤ 13
      · have t13 : decide ((op : Int) ≤ 13) = true := by simp; omega
        have t13' : (op : Int) ≤ 13 := by omega

        obtain ⟨vc, hvc⟩ : ∃ vc, (R.set 0 0).getD cc 0 = vc := ⟨_, rfl⟩
        have lvc : vc < 4294967296 := by rw [← hvc]; exact HR0.out.get cc
        have HVC := Lib.hid hvc
        have HQ : Hid (stepR R pc l xs = ⟨setN (R.set 0 0) a (thrR op vb vc), pc1, xs, 0, 0⟩) := HP.out.trans (by unfold stDo; dsimp only; rw [if_pos o13, hvc, setN_eq])
        clear hvc
        go_wp2
        have p0 : ∀ u : Ext w7, u.val.cell? ⟨gi, 0, none⟩ = some (.int .u8 op) := fun u => u.cell (I7.out.cell 0 rfl)
        have p1 : ∀ u : Ext w7, u.val.cell? ⟨gi, 1, none⟩ = some (.int .u8 a) := fun u => u.cell (I7.out.cell 1 rfl)
        have p3 : ∀ u : Ext w7, u.val.cell? ⟨gi, 3, none⟩ = some (.int .u8 cc) := fun u => u.cell (I7.out.cell 3 rfl)
        have r3 : ∀ u : Ext w7, u.val.cell? ⟨w.heap.size, cc, none⟩ = some (.int .u32 vc) := fun u => u.cell (by rw [K7.out.c.cell cc (cpuC_reg (by rw [RL.out]; omega)), HVC.out])
        refine wp_region_ext_tail 13 (by kernel_rfl) (by kernel_rfl) ?_
        simp only [List.take_succ_cons, List.take_zero, List.drop_succ_cons, List.drop_zero]
        repeat (first
          | (go_big_quiet_want; refine quiet_load_blk 25 (.tmp 3) w.heap.size 25 (cpuC (R.set 0 0) pc1) _ rfl rfl (by rintro _ ⟨u, rfl⟩; exact K7.out.c.below u.below K7.out.c.lt) Tryd.underlying25 rfl (cpu_size RL.out) ?_; go_frame; go_big_quiet_on)
          | go_big_quiet_step (first
            | (go_at_call 32; with_reducible exact Ext.call_same (rthree_any op vb vc _ op1 o13 lvb lvc))
            | (go_at_call 31; with_reducible exact Ext.call (rset_any (R.set 0 0) pc1 a (thrR op vb vc) _ RL.out la16))))
        refine wpQuiet_nil ?_
        rintro _ ⟨u, rfl⟩
        have K8 := Lib.hid (K7.out.later u.below)
        clear p0 p1 p3 r3 K7 I7 i0
        generalize u.val = w8 at *
        clear u
        generalize thrR op vb vc = v at *
        have RX : Hid ((setN (R.set 0 0) a v).length = 16) := setN_len RL.out a v

        go_wp2_with (first
          | (refine store_blk 25 (.tmp 3) (.tmp 83) w.heap.size 25 (cpuC (R.set 0 0) pc1) (cpuC (setN (R.set 0 0) a v) pc1) rfl rfl rfl rfl K8.out.c (by rw [cpuC_size, cpuC_size, RX.out, RL.out]) (cpu_size RX.out) (cpuC_one _ _) ?_; intro w9 hr9 hg9; have K9 := Lib.hid (K8.out.putc hr9 hg9); go_frame)
          | (refine load_blk 25 (.tmp 3) w.heap.size 25 (cpuC (setN (R.set 0 0) a v) pc1) _ rfl rfl rfl K9.out.c Tryd.underlying25 rfl (cpu_size RX.out) ?_; go_frame)
          | (refine store_blk 25 (.tmp 6) (.tmp 180) (w.heap.size + 1 + 1) 25 zC (cpuC (setN (R.set 0 0) a v) pc1) rfl rfl rfl rfl K9.out.oc (by rw [cpuC_size, RX.out]; rfl) (cpu_size RX.out) (cpuC_one _ _) ?_; intro wy hry hgy; go_frame)
          | (refine store_blk 34 (.tmp 8) (.tmp 182) (w.heap.size + 1 + 1 + 1) 34 zE (evC 0 0) rfl rfl rfl rfl (K9.out.putoc hry hgy).oe rfl ev_info (evC_one _ _) ?_; intro wz hrz hgz; go_frame))
        have KF := Lib.hid ((K9.out.putoc hry hgy).putoe hrz hgz)
        refine bodyPost_ret (results_ctc rfl rfl rfl rfl KF.out.oc Tryd.underlying25 rfl (cpu_size RX.out) KF.out.oe Tryd.underlying34 rfl ev_info) rfl ?_
        rw [HQ.out]
        exact ⟨A, c, rfl, (HA.out.below KF.out.below).mono KF.out.below.size, H0.out, KF.out.below⟩
      have t13 : decide ((op : Int) ≤ 13) = false := by simp; omega
      have t13' : ¬ (op : Int) ≤ 13 := by omega
      by_cases o18 : op ≤ 18
      · have t18 : decide ((op : Int) ≤ 18) = true := by simp; omega
        have t18' : (op : Int) ≤ 18 := by omega

        obtain ⟨j, hj⟩ : ∃ j, op - 14 = j := ⟨_, rfl⟩
        obtain ⟨wn, hwn⟩ : ∃ wn, wnR op = wn := ⟨_, rfl⟩
        have hw13 := wnR_range (by omega) o18
        rw [hwn] at hw13
        have wn1 : 1 ≤ wn := hw13.1
        have wn2 : wn ≤ 13 := hw13.2
        have HQ : Hid (stepR R pc l xs = ⟨setN (R.set 0 0) a (thrR wn vb im), pc1, xs, 0, 0⟩) := HP.out.trans (by unfold stDo; dsimp only; rw [if_neg o13, if_pos o18, hwn, setN_eq])
        have k1 : IntKind.u8.wrap ((op : Int) - 14) = (j : Int) := by rw [IntKind.wrap_u8]; omega
        have k2 : (j : Int) < 5 := by omega
        have k3 : (0 : Int) ≤ (j : Int) := by omega
        have hcell : (#[.int .u8 1, .int .u8 6, .int .u8 7, .int .u8 8, .int .u8 12] : Array Value)[j]? = some (.int .u8 (wn : Nat)) := by
          rw [← hwn]
          obtain rfl | rfl | rfl | rfl | rfl : op = 14 ∨ op = 15 ∨ op = 16 ∨ op = 17 ∨ op = 18 := by omega
          all_goals (subst hj; rfl)
        have HCE := Lib.hid hcell
        clear hj hwn hcell hw13
        go_wp2
        have TB : Hid (Blk (w7.alloc (.cells #[.int .u8 1, .int .u8 6, .int .u8 7, .int .u8 8, .int .u8 12] 5)) w7.heap.size 5 #[.int .u8 1, .int .u8 6, .int .u8 7, .int .u8 8, .int .u8 12]) := Blk.new w7 _ _
        have K7b := Lib.hid (K7.out.alloc (.cells #[.int .u8 1, .int .u8 6, .int .u8 7, .int .u8 8, .int .u8 12] 5))
        have I7b := Lib.hid (I7.out.alloc (.cells #[.int .u8 1, .int .u8 6, .int .u8 7, .int .u8 8, .int .u8 12] 5))
        generalize (w7.alloc (.cells #[.int .u8 1, .int .u8 6, .int .u8 7, .int .u8 8, .int .u8 12] 5)) = w7b at *
        generalize w7.heap.size = gt at *
        have p0 : ∀ u : Ext w7b, u.val.cell? ⟨gi, 0, none⟩ = some (.int .u8 op) := fun u => u.cell (I7b.out.cell 0 rfl)
        have p1 : ∀ u : Ext w7b, u.val.cell? ⟨gi, 1, none⟩ = some (.int .u8 a) := fun u => u.cell (I7b.out.cell 1 rfl)
        have p3 : ∀ u : Ext w7b, u.val.cell? ⟨gt, j, none⟩ = some (.int .u8 wn) := fun u => u.cell (TB.out.cell j HCE.out)
        refine wp_region_ext_tail 13 (by kernel_rfl) (by kernel_rfl) ?_
        simp only [List.take_succ_cons, List.take_zero, List.drop_succ_cons, List.drop_zero]
        repeat (first
          | (go_big_quiet_want; refine quiet_load_blk 25 (.tmp 3) w.heap.size 25 (cpuC (R.set 0 0) pc1) _ rfl rfl (by rintro _ ⟨u, rfl⟩; exact K7b.out.c.below u.below K7b.out.c.lt) Tryd.underlying25 rfl (cpu_size RL.out) ?_; go_frame; go_big_quiet_on)
          | go_big_quiet_step (first
            | (go_at_call 32; with_reducible exact Ext.call_same (rthree_any wn vb im _ wn1 wn2 lvb lim))
            | (go_at_call 31; with_reducible exact Ext.call (rset_any (R.set 0 0) pc1 a (thrR wn vb im) _ RL.out la16))))
        refine wpQuiet_nil ?_
        rintro _ ⟨u, rfl⟩
        have K8 := Lib.hid (K7b.out.later u.below)
        clear p0 p1 p3 K7 I7 i0 K7b I7b TB HCE
        generalize u.val = w8 at *
        clear u
        generalize thrR wn vb im = v at *
        have RX : Hid ((setN (R.set 0 0) a v).length = 16) := setN_len RL.out a v

        go_wp2_with (first
          | (refine store_blk 25 (.tmp 3) (.tmp 101) w.heap.size 25 (cpuC (R.set 0 0) pc1) (cpuC (setN (R.set 0 0) a v) pc1) rfl rfl rfl rfl K8.out.c (by rw [cpuC_size, cpuC_size, RX.out, RL.out]) (cpu_size RX.out) (cpuC_one _ _) ?_; intro w9 hr9 hg9; have K9 := Lib.hid (K8.out.putc hr9 hg9); go_frame)
          | (refine load_blk 25 (.tmp 3) w.heap.size 25 (cpuC (setN (R.set 0 0) a v) pc1) _ rfl rfl rfl K9.out.c Tryd.underlying25 rfl (cpu_size RX.out) ?_; go_frame)
          | (refine store_blk 25 (.tmp 6) (.tmp 180) (w.heap.size + 1 + 1) 25 zC (cpuC (setN (R.set 0 0) a v) pc1) rfl rfl rfl rfl K9.out.oc (by rw [cpuC_size, RX.out]; rfl) (cpu_size RX.out) (cpuC_one _ _) ?_; intro wy hry hgy; go_frame)
          | (refine store_blk 34 (.tmp 8) (.tmp 182) (w.heap.size + 1 + 1 + 1) 34 zE (evC 0 0) rfl rfl rfl rfl (K9.out.putoc hry hgy).oe rfl ev_info (evC_one _ _) ?_; intro wz hrz hgz; go_frame))
        have KF := Lib.hid ((K9.out.putoc hry hgy).putoe hrz hgz)
        refine bodyPost_ret (results_ctc rfl rfl rfl rfl KF.out.oc Tryd.underlying25 rfl (cpu_size RX.out) KF.out.oe Tryd.underlying34 rfl ev_info) rfl ?_
        rw [HQ.out]
        exact ⟨A, c, rfl, (HA.out.below KF.out.below).mono KF.out.below.size, H0.out, KF.out.below⟩
      have t18 : decide ((op : Int) ≤ 18) = false := by simp; omega
      have t18' : ¬ (op : Int) ≤ 18 := by omega
      by_cases o19 : op = 19
      · have t19 : ((op : Int) == 19) = true := by simp; omega

        obtain ⟨v, hv⟩ : ∃ v, im * 65536 % 4294967296 = v := ⟨_, rfl⟩
        have k1 : ((im : Int) * 65536) % 4294967296 = (v : Int) := by omega
        have HQ : Hid (stepR R pc l xs = ⟨setN (R.set 0 0) a v, pc1, xs, 0, 0⟩) := HP.out.trans (by unfold stDo; dsimp only; rw [if_neg o13, if_neg o18, if_pos o19, hv, setN_eq])
        clear hv
        go_wp2_with (first
          | (refine load_blk 25 (.tmp 3) w.heap.size 25 (cpuC (R.set 0 0) pc1) _ rfl rfl rfl K7.out.c Tryd.underlying25 rfl (cpu_size RL.out) ?_; go_frame))
        clear i1 i0 I7

        refine (rset_any (R.set 0 0) pc1 a v _ RL.out la16).mono ?_
        rintro e w8 ⟨rfl, hb8⟩
        have K8 := Lib.hid (K7.out.later hb8)
        clear hb8
        have RX : Hid ((setN (R.set 0 0) a v).length = 16) := setN_len RL.out a _

        go_wp2_with (first
          | (refine store_blk 25 (.tmp 3) (.tmp 111) w.heap.size 25 (cpuC (R.set 0 0) pc1) (cpuC (setN (R.set 0 0) a v) pc1) rfl rfl rfl rfl K8.out.c (by rw [cpuC_size, cpuC_size, RX.out, RL.out]) (cpu_size RX.out) (cpuC_one _ _) ?_; intro w9 hr9 hg9; have K9 := Lib.hid (K8.out.putc hr9 hg9); go_frame)
          | (refine load_blk 25 (.tmp 3) w.heap.size 25 (cpuC (setN (R.set 0 0) a v) pc1) _ rfl rfl rfl K9.out.c Tryd.underlying25 rfl (cpu_size RX.out) ?_; go_frame)
          | (refine store_blk 25 (.tmp 6) (.tmp 180) (w.heap.size + 1 + 1) 25 zC (cpuC (setN (R.set 0 0) a v) pc1) rfl rfl rfl rfl K9.out.oc (by rw [cpuC_size, RX.out]; rfl) (cpu_size RX.out) (cpuC_one _ _) ?_; intro wy hry hgy; go_frame)
          | (refine store_blk 34 (.tmp 8) (.tmp 182) (w.heap.size + 1 + 1 + 1) 34 zE (evC 0 0) rfl rfl rfl rfl (K9.out.putoc hry hgy).oe rfl ev_info (evC_one _ _) ?_; intro wz hrz hgz; go_frame))
        have KF := Lib.hid ((K9.out.putoc hry hgy).putoe hrz hgz)
        refine bodyPost_ret (results_ctc rfl rfl rfl rfl KF.out.oc Tryd.underlying25 rfl (cpu_size RX.out) KF.out.oe Tryd.underlying34 rfl ev_info) rfl ?_
        rw [HQ.out]
        exact ⟨A, c, rfl, (HA.out.below KF.out.below).mono KF.out.below.size, H0.out, KF.out.below⟩
      have t19 : ((op : Int) == 19) = false := by simp; omega
      by_cases o22 : op ≤ 22
      · have o24 : op ≤ 24 := by omega
        have t24 : decide ((op : Int) ≤ 24) = true := by simp; omega
        have t24' : (op : Int) ≤ 24 := by omega

        obtain ⟨t, ht⟩ : ∃ t, (vb + im) % 4294967296 = t := ⟨_, rfl⟩
        have e3 : ((vb : Int) + (im : Int)) % 4294967296 = (t : Int) := by omega

        have HSD : Hid (stepR R pc l xs = match ldR op xs l t with | none => ⟨R, pc, xs, 2, t⟩ | some v => ⟨((R.set 0 0).set a v).set 0 0, pc1, xs, 0, 0⟩) := HP.out.trans (by unfold stDo; dsimp only; rw [if_neg o13, if_neg o18, if_neg o19, if_pos o22, ht]; rfl)
        have CM := fun w7 h => rmem_load (R.set 0 0) pc1 l A c xs op a b cc imm w7 (by omega) o22 HR0.out la16 lb16 HL.out hx h
        rw [HVB.out, HIM.out, ht] at CM
        have CMM := Lib.hid CM
        clear CM ht

        go_wp2_with (first
          | (refine load_blk 25 (.tmp 3) w.heap.size 25 (cpuC (R.set 0 0) pc1) _ rfl rfl rfl K7.out.c Tryd.underlying25 rfl (cpu_size RL.out) ?_; go_frame)
          | (refine load_blk 29 (.tmp 4) (w.heap.size + 1) 29 (pteL l).toArray _ rfl rfl rfl K7.out.s Tryd.underlying29 rfl (space_size HL.out) ?_; go_frame)
          | (refine load_blk 41 (.tmp 12) gi 41 (insC5 op a b cc imm) _ rfl rfl rfl I7.out Tryd.underlying41 rfl ins5_info ?_; go_frame))

        refine (CMM.out _ ((HA.out.below K7.out.below).mono K7.out.below.size)).mono ?_
        rintro e w8 ⟨hq, hb8⟩
        clear CMM
        cases hld : ldR op xs l t with
        | none =>
          rw [hld] at hq
          have HQ : Hid (stepR R pc l xs = ⟨R, pc, xs, 2, t⟩) := by show _ = _; rw [HSD.out, hld]
          obtain ⟨R', hR', rfl⟩ := hq
          have RLR := Lib.hid hR'
          clear hld hR' HSD
          replace K7 := Lib.hid (K7.out.later hb8)
          clear hb8 I7 i0 i1
          go_wp2_with (first
            | (refine store_blk 25 (.tmp 18) (.tmp 122) w8.heap.size 25 zC (cpuC R' pc1) rfl rfl rfl rfl (Blk.new w8 _ _) (by rw [cpuC_size, RLR.out]; rfl) (cpu_size RLR.out) (cpuC_one _ _) ?_; intro w9 hr9 hg9; have K9 := Lib.hid (hide_other (K7.out.alloc _) (by have := K7.out.lt; omega) hg9); go_frame)
            | (refine load_blk 25 (.tmp 9) (w.heap.size + 1 + 1 + 1 + 1) 25 (cpuC R pc) _ rfl rfl rfl K9.out.was Tryd.underlying25 rfl (cpu_size HR.out.1) ?_; go_frame)
            | (refine store_blk 25 (.tmp 6) (.tmp 127) (w.heap.size + 1 + 1) 25 zC (cpuC R pc) rfl rfl rfl rfl K9.out.oc (by rw [cpuC_size, HR.out.1]; rfl) (cpu_size HR.out.1) (cpuC_one _ _) ?_; intro wy hry hgy; go_frame)
            | (refine store_blk 34 (.tmp 8) (.tmp 132) (w.heap.size + 1 + 1 + 1) 34 zE (evC 2 t) rfl rfl rfl rfl (K9.out.putoc hry hgy).oe rfl ev_info (evC_one _ _) ?_; intro wz hrz hgz; go_frame))
          have KF := Lib.hid ((K9.out.putoc hry hgy).putoe hrz hgz)
          have RLL := Lib.hid HR.out.1
          refine bodyPost_ret (results_ctc rfl rfl rfl rfl KF.out.oc Tryd.underlying25 rfl (cpu_size RLL.out) KF.out.oe Tryd.underlying34 rfl ev_info) rfl ?_
          rw [HQ.out]
          exact ⟨A, c, rfl, (HA.out.below KF.out.below).mono KF.out.below.size, H0.out, KF.out.below⟩

        | some v =>
          rw [hld] at hq
          have HQ : Hid (stepR R pc l xs = ⟨setN (R.set 0 0) a v, pc1, xs, 0, 0⟩) := by show _ = _; rw [HSD.out, hld, setN_eq]
          obtain rfl := hq
          have RLR : Hid ((setN (R.set 0 0) a v).length = 16) := setN_len RL.out a v
          clear hld HSD
          replace K7 := Lib.hid (K7.out.later hb8)
          clear hb8 I7 i0 i1
          go_wp2_with (first
            | (refine store_blk 25 (.tmp 18) (.tmp 122) w8.heap.size 25 zC (cpuC (setN (R.set 0 0) a v) pc1) rfl rfl rfl rfl (Blk.new w8 _ _) (by rw [cpuC_size, RLR.out]; rfl) (cpu_size RLR.out) (cpuC_one _ _) ?_; intro w9 hr9 hg9; have K9 := Lib.hid (hide_other (K7.out.alloc _) (by have := K7.out.lt; omega) hg9); go_frame)
            | (refine load_blk 25 (.tmp 18) w8.heap.size 25 (cpuC (setN (R.set 0 0) a v) pc1) _ rfl rfl rfl hr9 Tryd.underlying25 rfl (cpu_size RLR.out) ?_; go_frame)
            | (refine store_blk 25 (.tmp 3) (.tmp 133) w.heap.size 25 (cpuC (R.set 0 0) pc1) (cpuC (setN (R.set 0 0) a v) pc1) rfl rfl rfl rfl K9.out.c (by simp only [cpuC_size, RLR.out, RL.out]) (cpu_size RLR.out) (cpuC_one _ _) ?_; intro wx hrx hgx; have KX := Lib.hid (K9.out.putc hrx hgx); go_frame)
            | (refine load_blk 25 (.tmp 3) w.heap.size 25 (cpuC (setN (R.set 0 0) a v) pc1) _ rfl rfl rfl KX.out.c Tryd.underlying25 rfl (cpu_size RLR.out) ?_; go_frame)
            | (refine store_blk 25 (.tmp 6) (.tmp 180) (w.heap.size + 1 + 1) 25 zC (cpuC (setN (R.set 0 0) a v) pc1) rfl rfl rfl rfl KX.out.oc (by rw [cpuC_size, RLR.out]; rfl) (cpu_size RLR.out) (cpuC_one _ _) ?_; intro wy hry hgy; go_frame)
            | (refine store_blk 34 (.tmp 8) (.tmp 182) (w.heap.size + 1 + 1 + 1) 34 zE (evC 0 0) rfl rfl rfl rfl (KX.out.putoc hry hgy).oe rfl ev_info (evC_one _ _) ?_; intro wz hrz hgz; go_frame))
          have KF := Lib.hid ((KX.out.putoc hry hgy).putoe hrz hgz)
          refine bodyPost_ret (results_ctc rfl rfl rfl rfl KF.out.oc Tryd.underlying25 rfl (cpu_size RLR.out) KF.out.oe Tryd.underlying34 rfl ev_info) rfl ?_
          rw [HQ.out]
          exact ⟨A, c, rfl, (HA.out.below KF.out.below).mono KF.out.below.size, H0.out, KF.out.below⟩
      by_cases o24 : op ≤ 24
      · have t24 : decide ((op : Int) ≤ 24) = true := by simp; omega
        have t24' : (op : Int) ≤ 24 := by omega

        obtain ⟨t, ht⟩ : ∃ t, (vb + im) % 4294967296 = t := ⟨_, rfl⟩
        have e3 : ((vb : Int) + (im : Int)) % 4294967296 = (t : Int) := by omega

        have HSD : Hid (stepR R pc l xs = match storeR xs l t (stN op) va with | none => ⟨R, pc, xs, 2, t⟩ | some ys => ⟨(R.set 0 0).set 0 0, pc1, ys, 0, 0⟩) := HP.out.trans (by unfold stDo; dsimp only; rw [if_neg o13, if_neg o18, if_neg o19, if_neg o22, if_pos o24, ht]; rfl)
        have CM := fun w7 h => rmem_store (R.set 0 0) pc1 l A c xs op a b cc imm w7 (by omega) o24 HR0.out la16 lb16 HL.out hx h H0.out
        rw [HVB.out, HIM.out, ht, HVA.out] at CM
        have CMM := Lib.hid CM
        clear CM ht

        go_wp2_with (first
          | (refine load_blk 25 (.tmp 3) w.heap.size 25 (cpuC (R.set 0 0) pc1) _ rfl rfl rfl K7.out.c Tryd.underlying25 rfl (cpu_size RL.out) ?_; go_frame)
          | (refine load_blk 29 (.tmp 4) (w.heap.size + 1) 29 (pteL l).toArray _ rfl rfl rfl K7.out.s Tryd.underlying29 rfl (space_size HL.out) ?_; go_frame)
          | (refine load_blk 41 (.tmp 12) gi 41 (insC5 op a b cc imm) _ rfl rfl rfl I7.out Tryd.underlying41 rfl ins5_info ?_; go_frame))

        refine (CMM.out _ ((HA.out.below K7.out.below).mono K7.out.below.size)).mono ?_
        rintro e w8 ⟨hq, hb8⟩
        clear CMM
        cases hld : storeR xs l t (stN op) va with
        | none =>
          rw [hld] at hq
          have HQ : Hid (stepR R pc l xs = ⟨R, pc, xs, 2, t⟩) := by show _ = _; rw [HSD.out, hld]
          obtain rfl := hq
          have RLR := RL
          clear hld HSD
          replace K7 := Lib.hid (K7.out.later hb8)
          clear hb8 I7 i0 i1
          go_wp2_with (first
            | (refine store_blk 25 (.tmp 18) (.tmp 122) w8.heap.size 25 zC (cpuC (R.set 0 0) pc1) rfl rfl rfl rfl (Blk.new w8 _ _) (by rw [cpuC_size, RLR.out]; rfl) (cpu_size RLR.out) (cpuC_one _ _) ?_; intro w9 hr9 hg9; have K9 := Lib.hid (hide_other (K7.out.alloc _) (by have := K7.out.lt; omega) hg9); go_frame)
            | (refine load_blk 25 (.tmp 9) (w.heap.size + 1 + 1 + 1 + 1) 25 (cpuC R pc) _ rfl rfl rfl K9.out.was Tryd.underlying25 rfl (cpu_size HR.out.1) ?_; go_frame)
            | (refine store_blk 25 (.tmp 6) (.tmp 127) (w.heap.size + 1 + 1) 25 zC (cpuC R pc) rfl rfl rfl rfl K9.out.oc (by rw [cpuC_size, HR.out.1]; rfl) (cpu_size HR.out.1) (cpuC_one _ _) ?_; intro wy hry hgy; go_frame)
            | (refine store_blk 34 (.tmp 8) (.tmp 132) (w.heap.size + 1 + 1 + 1) 34 zE (evC 2 t) rfl rfl rfl rfl (K9.out.putoc hry hgy).oe rfl ev_info (evC_one _ _) ?_; intro wz hrz hgz; go_frame))
          have KF := Lib.hid ((K9.out.putoc hry hgy).putoe hrz hgz)
          have RLL := Lib.hid HR.out.1
          refine bodyPost_ret (results_ctc rfl rfl rfl rfl KF.out.oc Tryd.underlying25 rfl (cpu_size RLL.out) KF.out.oe Tryd.underlying34 rfl ev_info) rfl ?_
          rw [HQ.out]
          exact ⟨A, c, rfl, (HA.out.below KF.out.below).mono KF.out.below.size, H0.out, KF.out.below⟩

        | some ys =>
          rw [hld] at hq
          have HQ : Hid (stepR R pc l xs = ⟨R.set 0 0, pc1, ys, 0, 0⟩) := by show _ = _; rw [HSD.out, hld, List.set_set]
          obtain ⟨g, cap, rfl, own⟩ := hq
          have RLR := RL
          have hgw7 : w7.heap.size ≤ g := own_row own g rfl
          have OW := Lib.hid own
          have hk7 := K7.out.lt
          clear hld HSD own
          have hb8s := hb8.size
          replace K7 := Lib.hid (K7.out.later hb8)
          clear hb8 I7 i0 i1
          go_wp2_with (first
            | (refine store_blk 25 (.tmp 18) (.tmp 122) w8.heap.size 25 zC (cpuC (R.set 0 0) pc1) rfl rfl rfl rfl (Blk.new w8 _ _) (by rw [cpuC_size, RLR.out]; rfl) (cpu_size RLR.out) (cpuC_one _ _) ?_; intro w9 hr9 hg9; have K9 := Lib.hid (hide_other (K7.out.alloc _) (by have := K7.out.lt; omega) hg9); have OW9 := Lib.hid ((own_below OW.out ((Below.refl _ _).alloc (Nat.le_refl _) _)).kept hg9 (.inr (own_off (OW.out.lt g rfl).2))); go_frame)
            | (refine load_blk 25 (.tmp 18) w8.heap.size 25 (cpuC (R.set 0 0) pc1) _ rfl rfl rfl hr9 Tryd.underlying25 rfl (cpu_size RLR.out) ?_; go_frame)
            | (refine store_blk 25 (.tmp 3) (.tmp 133) w.heap.size 25 (cpuC (R.set 0 0) pc1) (cpuC (R.set 0 0) pc1) rfl rfl rfl rfl K9.out.c (by simp only [cpuC_size, RLR.out, RL.out]) (cpu_size RLR.out) (cpuC_one _ _) ?_; intro wx hrx hgx; have KX := Lib.hid (K9.out.putc hrx hgx); have OWX := Lib.hid (OW9.out.kept hgx (.inr (own_off2 (by omega)))); go_frame)
            | (refine load_blk 25 (.tmp 3) w.heap.size 25 (cpuC (R.set 0 0) pc1) _ rfl rfl rfl KX.out.c Tryd.underlying25 rfl (cpu_size RLR.out) ?_; go_frame)
            | (refine store_blk 25 (.tmp 6) (.tmp 180) (w.heap.size + 1 + 1) 25 zC (cpuC (R.set 0 0) pc1) rfl rfl rfl rfl KX.out.oc (by rw [cpuC_size, RLR.out]; rfl) (cpu_size RLR.out) (cpuC_one _ _) ?_; intro wy hry hgy; go_frame)
            | (refine store_blk 34 (.tmp 8) (.tmp 182) (w.heap.size + 1 + 1 + 1) 34 zE (evC 0 0) rfl rfl rfl rfl (KX.out.putoc hry hgy).oe rfl ev_info (evC_one _ _) ?_; intro wz hrz hgz; go_frame))
          have KF := Lib.hid ((KX.out.putoc hry hgy).putoe hrz hgz)
          refine bodyPost_ret (results_ctc rfl rfl rfl rfl KF.out.oc Tryd.underlying25 rfl (cpu_size RLR.out) KF.out.oe Tryd.underlying34 rfl ev_info) rfl ?_
          rw [HQ.out]

          have OWY := Lib.hid (OWX.out.kept hgy (.inr (own_off2 (by omega))))
          have OWZ := Lib.hid (OWY.out.kept hgz (.inr (own_off2 (by omega))))
          obtain ⟨A9, c9, hv9, hr9', h09⟩ := own_read OWZ.out
          cases hv9
          exact ⟨_, _, rfl, hr9', h09, KF.out.below⟩
      have t24 : decide ((op : Int) ≤ 24) = false := by simp; omega
      have t24' : ¬ (op : Int) ≤ 24 := by omega
      by_cases o28 : op ≤ 28
      · have t28 : decide ((op : Int) ≤ 28) = true := by simp; omega
        have t28' : (op : Int) ≤ 28 := by omega

        have HQ0 : Hid (stepR R pc l xs = ⟨(R.set 0 0).set 0 0, if tkR op va vb then (pc1 + 4 * im) % 4294967296 else pc1, xs, 0, 0⟩) := HP.out.trans (by unfold stDo; dsimp only; rw [if_neg o13, if_neg o18, if_neg o19, if_neg o22, if_neg o24, if_pos o28])
        go_wp2
        have p0 : ∀ u : Ext w7, u.val.cell? ⟨gi, 0, none⟩ = some (.int .u8 op) := fun u => u.cell (I7.out.cell 0 rfl)
        have p1 : ∀ u : Ext w7, u.val.cell? ⟨gi, 1, none⟩ = some (.int .u8 a) := fun u => u.cell (I7.out.cell 1 rfl)
        have r3 : ∀ u : Ext w7, u.val.cell? ⟨w.heap.size, a, none⟩ = some (.int .u32 va) := fun u => u.cell (by rw [K7.out.c.cell a (cpuC_reg (by rw [RL.out]; omega)), HVA.out])
        refine wp_region_ext (by kernel_rfl) (by kernel_rfl) ?_
        repeat (go_big_quiet_step (first
            | (go_at_call 34; with_reducible exact Ext.call_same (rgoes_any op va vb _ (by omega) o28 lva lvb))))
        refine wpQuiet_nil ?_
        rintro _ ⟨u, rfl⟩
        have K8 := Lib.hid (K7.out.later u.below)
        clear p0 p1 r3 K7 I7 i0
        generalize u.val = w8 at *
        clear u
        cases htk : tkR op va vb with
        | true =>
          obtain ⟨pc2, hpc2⟩ : ∃ pc2, (pc1 + 4 * im) % 4294967296 = pc2 := ⟨_, rfl⟩
          have HQ : Hid (stepR R pc l xs = ⟨R.set 0 0, pc2, xs, 0, 0⟩) := HQ0.out.trans (by rw [htk, hpc2, List.set_set]; rfl)
          have k1 : ((pc1 : Int) + 4 * (im : Int) % 4294967296) % 4294967296 = (pc2 : Int) := by omega
          have k2 : ((pc1 : Int) + 4 * (im : Int)) % 4294967296 = (pc2 : Int) := by omega
          have RX := RL
          clear htk hpc2 HQ0
          go_wp2_with (first
            | (refine store_cell 22 (.tmp 152) (.tmp 151) w.heap.size 16 .u32 _ _ rfl rfl rfl rfl (by intro; kernel_rfl) (K8.out.c.cell 16 (cpuC_pc RL.out)) (K8.out.c.frozen 16) ?_; intro w9 hw9; have K9 : Hid (St w w9 (R.set 0 0) pc2 l R pc zC zE) := (by show St _ _ _ _ _ _ _ _ _; rw [← hw9]; exact K8.out.setpc' (by first | exact k1 | exact k2 | omega) RL.out); clear hw9; go_frame)
            | (refine load_blk 25 (.tmp 3) w.heap.size 25 (cpuC (R.set 0 0) pc2) _ rfl rfl rfl K9.out.c Tryd.underlying25 rfl (cpu_size RX.out) ?_; go_frame)
            | (refine store_blk 25 (.tmp 6) (.tmp 180) (w.heap.size + 1 + 1) 25 zC (cpuC (R.set 0 0) pc2) rfl rfl rfl rfl K9.out.oc (by rw [cpuC_size, RX.out]; rfl) (cpu_size RX.out) (cpuC_one _ _) ?_; intro wy hry hgy; go_frame)
            | (refine store_blk 34 (.tmp 8) (.tmp 182) (w.heap.size + 1 + 1 + 1) 34 zE (evC 0 0) rfl rfl rfl rfl (K9.out.putoc hry hgy).oe rfl ev_info (evC_one _ _) ?_; intro wz hrz hgz; go_frame))
          have KF := Lib.hid ((K9.out.putoc hry hgy).putoe hrz hgz)
          refine bodyPost_ret (results_ctc rfl rfl rfl rfl KF.out.oc Tryd.underlying25 rfl (cpu_size RX.out) KF.out.oe Tryd.underlying34 rfl ev_info) rfl ?_
          rw [HQ.out]
          exact ⟨A, c, rfl, (HA.out.below KF.out.below).mono KF.out.below.size, H0.out, KF.out.below⟩
        | false =>
          have HQ : Hid (stepR R pc l xs = ⟨R.set 0 0, pc1, xs, 0, 0⟩) := HQ0.out.trans (by rw [htk, List.set_set]; rfl)
          have RX := RL
          have K9 := K8
          clear htk HQ0 K8
          go_wp2_with (first
            | (refine load_blk 25 (.tmp 3) w.heap.size 25 (cpuC (R.set 0 0) pc1) _ rfl rfl rfl K9.out.c Tryd.underlying25 rfl (cpu_size RX.out) ?_; go_frame)
            | (refine store_blk 25 (.tmp 6) (.tmp 180) (w.heap.size + 1 + 1) 25 zC (cpuC (R.set 0 0) pc1) rfl rfl rfl rfl K9.out.oc (by rw [cpuC_size, RX.out]; rfl) (cpu_size RX.out) (cpuC_one _ _) ?_; intro wy hry hgy; go_frame)
            | (refine store_blk 34 (.tmp 8) (.tmp 182) (w.heap.size + 1 + 1 + 1) 34 zE (evC 0 0) rfl rfl rfl rfl (K9.out.putoc hry hgy).oe rfl ev_info (evC_one _ _) ?_; intro wz hrz hgz; go_frame))
          have KF := Lib.hid ((K9.out.putoc hry hgy).putoe hrz hgz)
          refine bodyPost_ret (results_ctc rfl rfl rfl rfl KF.out.oc Tryd.underlying25 rfl (cpu_size RX.out) KF.out.oe Tryd.underlying34 rfl ev_info) rfl ?_
          rw [HQ.out]
          exact ⟨A, c, rfl, (HA.out.below KF.out.below).mono KF.out.below.size, H0.out, KF.out.below⟩
      have t28 : decide ((op : Int) ≤ 28) = false := by simp; omega
      have t28' : ¬ (op : Int) ≤ 28 := by omega
      by_cases o29 : op = 29
      · have t29 : ((op : Int) == 29) = true := by simp; omega

        obtain ⟨pc2, hpc2⟩ : ∃ pc2, (pc1 + 4 * im) % 4294967296 = pc2 := ⟨_, rfl⟩
        have k1 : ((pc1 : Int) + 4 * (im : Int) % 4294967296) % 4294967296 = (pc2 : Int) := by omega
        have k2 : ((pc1 : Int) + 4 * (im : Int)) % 4294967296 = (pc2 : Int) := by omega
        have HQ : Hid (stepR R pc l xs = ⟨setN (R.set 0 0) a pc1, pc2, xs, 0, 0⟩) := HP.out.trans (by unfold stDo; dsimp only; rw [if_neg o13, if_neg o18, if_neg o19, if_neg o22, if_neg o24, if_neg o28, if_pos o29, hpc2, setN_eq])
        clear hpc2
        go_wp2_with (first
          | (refine store_cell 22 (.tmp 161) (.tmp 160) w.heap.size 16 .u32 _ _ rfl rfl rfl rfl (by intro; kernel_rfl) (K7.out.c.cell 16 (cpuC_pc RL.out)) (K7.out.c.frozen 16) ?_; intro wp hwp; have KP : Hid (St w wp (R.set 0 0) pc2 l R pc zC zE) := (by show St _ _ _ _ _ _ _ _ _; rw [← hwp]; exact K7.out.setpc' (by first | exact k1 | exact k2 | omega) RL.out); have j1 : wp.cell? ⟨gi, 1, none⟩ = some (.int .u8 a) := (by rw [← hwp]; exact (I7.out.far (by show gi ≠ w.heap.size; omega) _).cell 1 rfl); clear hwp; go_frame)
          | (refine load_blk 25 (.tmp 3) w.heap.size 25 (cpuC (R.set 0 0) pc2) _ rfl rfl rfl KP.out.c Tryd.underlying25 rfl (cpu_size RL.out) ?_; go_frame))
        clear j1 i1 i0 K7 I7

        refine (rset_any (R.set 0 0) pc2 a pc1 _ RL.out la16).mono ?_
        rintro e w8 ⟨rfl, hb8⟩
        have K8 := Lib.hid (KP.out.later hb8)
        clear hb8
        have RX : Hid ((setN (R.set 0 0) a pc1).length = 16) := setN_len RL.out a _

        go_wp2_with (first
          | (refine store_blk 25 (.tmp 3) (.tmp 166) w.heap.size 25 (cpuC (R.set 0 0) pc2) (cpuC (setN (R.set 0 0) a pc1) pc2) rfl rfl rfl rfl K8.out.c (by rw [cpuC_size, cpuC_size, RX.out, RL.out]) (cpu_size RX.out) (cpuC_one _ _) ?_; intro w9 hr9 hg9; have K9 := Lib.hid (K8.out.putc hr9 hg9); go_frame)
          | (refine load_blk 25 (.tmp 3) w.heap.size 25 (cpuC (setN (R.set 0 0) a pc1) pc2) _ rfl rfl rfl K9.out.c Tryd.underlying25 rfl (cpu_size RX.out) ?_; go_frame)
          | (refine store_blk 25 (.tmp 6) (.tmp 180) (w.heap.size + 1 + 1) 25 zC (cpuC (setN (R.set 0 0) a pc1) pc2) rfl rfl rfl rfl K9.out.oc (by rw [cpuC_size, RX.out]; rfl) (cpu_size RX.out) (cpuC_one _ _) ?_; intro wy hry hgy; go_frame)
          | (refine store_blk 34 (.tmp 8) (.tmp 182) (w.heap.size + 1 + 1 + 1) 34 zE (evC 0 0) rfl rfl rfl rfl (K9.out.putoc hry hgy).oe rfl ev_info (evC_one _ _) ?_; intro wz hrz hgz; go_frame))
        have KF := Lib.hid ((K9.out.putoc hry hgy).putoe hrz hgz)
        refine bodyPost_ret (results_ctc rfl rfl rfl rfl KF.out.oc Tryd.underlying25 rfl (cpu_size RX.out) KF.out.oe Tryd.underlying34 rfl ev_info) rfl ?_
        rw [HQ.out]
        exact ⟨A, c, rfl, (HA.out.below KF.out.below).mono KF.out.below.size, H0.out, KF.out.below⟩
      have t29 : ((op : Int) == 29) = false := by simp; omega
      by_cases o30 : op = 30
      · have t30 : ((op : Int) == 30) = true := by simp; omega

        obtain ⟨pc2, hpc2⟩ : ∃ pc2, (vb + im) % 4294967296 = pc2 := ⟨_, rfl⟩
        have k1 : ((vb : Int) + (im : Int)) % 4294967296 = (pc2 : Int) := by omega
        have HQ : Hid (stepR R pc l xs = ⟨setN (R.set 0 0) a pc1, pc2, xs, 0, 0⟩) := HP.out.trans (by unfold stDo; dsimp only; rw [if_neg o13, if_neg o18, if_neg o19, if_neg o22, if_neg o24, if_neg o28, if_neg o29, if_pos o30, hpc2, setN_eq])
        clear hpc2
        go_wp2_with (first
          | (refine store_cell 22 (.tmp 174) (.tmp 173) w.heap.size 16 .u32 _ _ rfl rfl rfl rfl (by intro; kernel_rfl) (K7.out.c.cell 16 (cpuC_pc RL.out)) (K7.out.c.frozen 16) ?_; intro wp hwp; have KP : Hid (St w wp (R.set 0 0) pc2 l R pc zC zE) := (by show St _ _ _ _ _ _ _ _ _; rw [← hwp]; exact K7.out.setpc' (by first | exact k1 | exact k2 | omega) RL.out); have j1 : wp.cell? ⟨gi, 1, none⟩ = some (.int .u8 a) := (by rw [← hwp]; exact (I7.out.far (by show gi ≠ w.heap.size; omega) _).cell 1 rfl); clear hwp; go_frame)
          | (refine load_blk 25 (.tmp 3) w.heap.size 25 (cpuC (R.set 0 0) pc2) _ rfl rfl rfl KP.out.c Tryd.underlying25 rfl (cpu_size RL.out) ?_; go_frame))
        clear j1 i1 i0 K7 I7

        refine (rset_any (R.set 0 0) pc2 a pc1 _ RL.out la16).mono ?_
        rintro e w8 ⟨rfl, hb8⟩
        have K8 := Lib.hid (KP.out.later hb8)
        clear hb8
        have RX : Hid ((setN (R.set 0 0) a pc1).length = 16) := setN_len RL.out a _

        go_wp2_with (first
          | (refine store_blk 25 (.tmp 3) (.tmp 179) w.heap.size 25 (cpuC (R.set 0 0) pc2) (cpuC (setN (R.set 0 0) a pc1) pc2) rfl rfl rfl rfl K8.out.c (by rw [cpuC_size, cpuC_size, RX.out, RL.out]) (cpu_size RX.out) (cpuC_one _ _) ?_; intro w9 hr9 hg9; have K9 := Lib.hid (K8.out.putc hr9 hg9); go_frame)
          | (refine load_blk 25 (.tmp 3) w.heap.size 25 (cpuC (setN (R.set 0 0) a pc1) pc2) _ rfl rfl rfl K9.out.c Tryd.underlying25 rfl (cpu_size RX.out) ?_; go_frame)
          | (refine store_blk 25 (.tmp 6) (.tmp 180) (w.heap.size + 1 + 1) 25 zC (cpuC (setN (R.set 0 0) a pc1) pc2) rfl rfl rfl rfl K9.out.oc (by rw [cpuC_size, RX.out]; rfl) (cpu_size RX.out) (cpuC_one _ _) ?_; intro wy hry hgy; go_frame)
          | (refine store_blk 34 (.tmp 8) (.tmp 182) (w.heap.size + 1 + 1 + 1) 34 zE (evC 0 0) rfl rfl rfl rfl (K9.out.putoc hry hgy).oe rfl ev_info (evC_one _ _) ?_; intro wz hrz hgz; go_frame))
        have KF := Lib.hid ((K9.out.putoc hry hgy).putoe hrz hgz)
        refine bodyPost_ret (results_ctc rfl rfl rfl rfl KF.out.oc Tryd.underlying25 rfl (cpu_size RX.out) KF.out.oe Tryd.underlying34 rfl ev_info) rfl ?_
        rw [HQ.out]
        exact ⟨A, c, rfl, (HA.out.below KF.out.below).mono KF.out.below.size, H0.out, KF.out.below⟩
      have t30 : ((op : Int) == 30) = false := by simp; omega
      have HQ : Hid (stepR R pc l xs = ⟨R.set 0 0, pc1, xs, 1, im⟩) := HP.out.trans (by unfold stDo; dsimp only; rw [if_neg o13, if_neg o18, if_neg o19, if_neg o22, if_neg o24, if_neg o28, if_neg o29, if_neg o30, List.set_set])
      go_wp2_with (first
        | (refine load_blk 25 (.tmp 3) w.heap.size 25 (cpuC (R.set 0 0) pc1) _ rfl rfl rfl K7.out.c Tryd.underlying25 rfl (cpu_size RL.out) ?_; go_frame)
        | (refine store_blk 25 (.tmp 6) (.tmp 63) (w.heap.size + 1 + 1) 25 zC (cpuC (R.set 0 0) pc1) rfl rfl rfl rfl K7.out.oc (by rw [cpuC_size, RL.out]; rfl) (cpu_size RL.out) (cpuC_one _ _) ?_; intro wy hry hgy; go_frame)
        | (refine store_blk 34 (.tmp 8) (.tmp 66) (w.heap.size + 1 + 1 + 1) 34 zE (evC 1 im) rfl rfl rfl rfl (K7.out.putoc hry hgy).oe rfl ev_info (evC_one _ _) ?_; intro wz hrz hgz; go_frame))
      have KF := Lib.hid ((K7.out.putoc hry hgy).putoe hrz hgz)
      refine bodyPost_ret (results_ctc rfl rfl rfl rfl KF.out.oc Tryd.underlying25 rfl (cpu_size RL.out) KF.out.oe Tryd.underlying34 rfl ev_info) rfl ?_
      rw [HQ.out]
      exact ⟨A, c, rfl, (HA.out.below KF.out.below).mono KF.out.below.size, H0.out, KF.out.below⟩
end Go.Proofs.YtcjakmnplkeldaaDoor
