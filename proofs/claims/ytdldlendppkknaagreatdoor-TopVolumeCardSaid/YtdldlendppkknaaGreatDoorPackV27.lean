/-
  Contracts and plain laws: SpkC, FrameOf, SpkD, MapW.
-/
import Derived.Maps.Own
import Derived.Maps.OwnOps
import Derived.Maps.Views
import Derived.Test.YtdldlendppkknaaGreatDoorPackV26
namespace Go.Proofs.YtdldlendppkknaaGreatDoor
open Go.RowKit
set_option linter.unusedVariables false
set_option linter.unusedSimpArgs false
set_option maxRecDepth 100000
def addU (b c:Nat):Nat:=(b+c) % 4294967296
theorem rk1_any (b c:Nat) (w:World) (hb:b<4294967296) (hc:c<4294967296):Calls Tryz.prog 147 #[.int .u32 b,.int .u32 c] w fun e w'=>e=.returned (.int .u32 (addU b c:Nat))∧w=w':=by
 go_enter Tryz.func147,Tryz.ntmps147
 go_wp2
 go_ret
 exact ⟨ret_int (by show _=(((b+c) % 4294967296:Nat):Int);omega),rfl⟩
theorem reckon_add (w:World):Calls Tryz.prog 81 #[.int .u8 1] w fun e w'=>e=.returned (.func (.func 147) #[] #[])∧w=w':=by
 go_enter Tryz.func81,Tryz.ntmps81
 go_wp2
 go_ret
 exact ⟨rfl,rfl⟩
theorem rk1_call (x y:Value) (w:World):Sem.run Tryz.prog (callFunc 147 #[x,y]) w=.ok (.enter 147 #[x,y]) w:=by kernel_rfl
set_option maxHeartbeats 4000000 in
theorem step_add (R:List Nat) (pc:Nat) (l:List Pte) (A:Option Addr) (c:Nat) (xs:List ByteArray) (w:World) (hR:Regs R) (hp:pc<4294967296) (hl:l.length=16) (hx:xs.length≤1000000) (h:RowAt w w.heap.size A (xs.map .string)) (h0:A=none→xs.length=0∧c=0) (hld:loadR xs l pc 4=some 71876608) :
  Calls Tryz.prog 31 #[.agg (cpuC R pc),.agg (pteL l).toArray,.slice A xs.length c] w fun e w'=>(∃ v,e=.returned (.tuple #[.agg (cpuC (((R.set 0 0).set 1 (addU ((R.set 0 0).getD 2 0) ((R.set 0 0).getD 3 0))).set 0 0) ((pc+4) % 4294967296)),v,.agg #[.int .i64 0,.int .u32 0]]))∧Below w.heap.size w w':=by
 have HR:=Lib.hid hR
 have HL:=Lib.hid hl
 have HA:=Lib.hid h
 have H0:=Lib.hid h0
 have S0:Hid (St w (((((w.alloc (.cells (cpuC R pc) 79)).alloc (.cells (pteL l).toArray 76)).alloc (.cells zC 79)).alloc (.cells zE 84)).alloc (.cells zC 79)) R pc l (List.replicate 16 0) 0 zC zE):=by
  have z1:(w.alloc (.cells (cpuC R pc) 79)).heap.size=w.heap.size+1:=by simp
  have z2:((w.alloc (.cells (cpuC R pc) 79)).alloc (.cells (pteL l).toArray 76)).heap.size=w.heap.size+1+1:=by simp
  have z3:(((w.alloc (.cells (cpuC R pc) 79)).alloc (.cells (pteL l).toArray 76)).alloc (.cells zC 79)).heap.size=w.heap.size+1+1+1:=by simp
  have z4:((((w.alloc (.cells (cpuC R pc) 79)).alloc (.cells (pteL l).toArray 76)).alloc (.cells zC 79)).alloc (.cells zE 84)).heap.size=w.heap.size+1+1+1+1:=by simp
  refine ⟨((((Blk.new w _ _).alloc _).alloc _).alloc _).alloc _,?_,?_,?_,?_,(((((Below.refl _ _).alloc (Nat.le_refl _) _).alloc (by simp) _).alloc (by simp;omega) _).alloc (by simp;omega) _).alloc (by simp;omega) _⟩
  ·rw [← z1];exact (((Blk.new _ _ _).alloc _).alloc _).alloc _
  ·rw [← z2];exact ((Blk.new _ _ _).alloc _).alloc _
  ·rw [← z3];exact (Blk.new _ _ _).alloc _
  ·rw [← z4];exact Blk.new _ _ _
 clear hR hl h h0
 go_enter Tryz.func31,Tryz.ntmps31
 go_wp2_with (first
  | (refine load_blk 79 (.tmp 3) w.heap.size 79 (cpuC R pc) _ rfl rfl rfl ((((Blk.new w 79 (cpuC R pc)).alloc _).alloc _).alloc _) Tryz.underlying79 rfl (cpu_size HR.out.1) ?_;go_frame)
  | (refine store_blk 79 (.tmp 9) (.tmp 23) (w.heap.size+1+1+1+1) 79 (cpuC (List.replicate 16 0) 0) (cpuC R pc) rfl rfl rfl rfl S0.out.was (by rw [cpuC_size,cpuC_size,HR.out.1];rfl) (cpu_size HR.out.1) (cpuC_one _ _) ?_;intro w1 hr1 hg1))
 have S1:Hid (St w w1 R pc l R pc zC zE):=S0.out.putwas hr1 hg1
 clear hr1 hg1 S0
 refine (clone_any A xs.length c xs w1 rfl hx ((HA.out.below S1.out.below).mono S1.out.below.size) H0.out).mono ?_
 rintro e w2 ⟨v,rfl,hown,hb2⟩
 have K2:Hid (Cs w w2 R pc l R pc zC zE v xs):=⟨S1.out.later hb2,own_base hown S1.out.below.size⟩
 obtain ⟨A2,c2,hv2,hr2,h02⟩:=own_read K2.out.2
 have RV:=Lib.hid hr2
 replace H0:=Lib.hid h02
 subst hv2
 have q1:w2.cell? ⟨w.heap.size,16,none⟩=some (.int .u32 (pc:Nat)):=K2.out.1.c.cell 16 (cpuC_pc HR.out.1)
 clear hown hb2 hr2 h02 S1 HA
 go_wp2_with (refine load_blk 76 (.tmp 4) (w.heap.size+1) 76 (pteL l).toArray _ rfl rfl rfl K2.out.1.s Tryz.underlying76 rfl (space_size HL.out) ?_;go_frame)
 refine (load_any A2 c2 xs l pc 4 _ hx RV.out HL.out (.inr rfl) hp).mono ?_
 rintro e w3 ⟨rfl,hb3⟩
 have K3:=Lib.hid (K2.out.later hb3)
 replace RV:=Lib.hid ((RV.out.below hb3).mono hb3.size)
 clear q1 hb3 K2
 rw [hld]
 unfold loadE
 go_wp2_with fail
 refine (dec_add _).mono ?_
 rintro e w4 ⟨rfl,hb4⟩
 have K4:=Lib.hid (K3.out.later hb4)
 replace RV:=Lib.hid ((RV.out.below hb4).mono hb4.size)
 clear hb4 K3
 obtain ⟨z,hz,a,b,cc,imm,ha,hb,hcc,himm⟩:∃ z:Value,z=.agg #[.int .u8 1,.int .u8 1,.int .u8 2,.int .u8 3,.int .i32 0]∧∃ (a b cc:Nat) (imm:Int),a=1∧b=2∧cc=3∧imm=0:=⟨_,rfl,_,_,_,_,rfl,rfl,rfl,rfl⟩
 rw [← hz]
 have hz:z=.agg #[.int .u8 1,.int .u8 a,.int .u8 b,.int .u8 cc,.int .i32 imm]:=by rw [hz,ha,hb,hcc,himm];rfl
 rw [hz]
 clear hz
 have HX:Hid (a=1∧b=2∧cc=3∧imm=0):=⟨ha,hb,hcc,himm⟩
 have ba:a<16:=by omega
 have bb:b<16:=by omega
 have bc:cc<16:=by omega
 have bi1:-2147483648≤imm:=by omega
 have bi2:imm≤2147483647:=by omega
 clear ha hb hcc himm hld
 obtain ⟨pc1,hpc1⟩:∃ pc1,(pc+4) % 4294967296=pc1:=⟨_,rfl⟩
 have e1:((pc:Int)+4) % 4294967296=(pc1:Nat):=by omega
 have q0:w4.cell? ⟨w.heap.size,0,none⟩=some (.int .u32 (R.getD 0 0:Nat)):=K4.out.1.c.cell 0 (cpuC_reg (by rw [HR.out.1];decide))
 have f0:w4.frozen? ⟨w.heap.size,0,none⟩=false:=K4.out.1.c.frozen 0
 have q16:w4.cell? ⟨w.heap.size,16,none⟩=some (.int .u32 (pc:Nat)):=K4.out.1.c.cell 16 (cpuC_pc HR.out.1)
 have f16:w4.frozen? ⟨w.heap.size,16,none⟩=false:=K4.out.1.c.frozen 16
 have hz4:=K4.out.1.c.lt
 have hR0:Regs (R.set 0 0):=HR.out.set_ 0 (by decide)
 have HR0:=Lib.hid hR0
 obtain ⟨va,hva⟩:∃ va,(R.set 0 0).getD a 0=va:=⟨_,rfl⟩
 obtain ⟨vb,hvb⟩:∃ vb,(R.set 0 0).getD b 0=vb:=⟨_,rfl⟩
 obtain ⟨im,him⟩:∃ im,(imm % 4294967296).toNat=im:=⟨_,rfl⟩
 have lva:va<4294967296:=by rw [← hva];exact hR0.get a
 have lvb:vb<4294967296:=by rw [← hvb];exact hR0.get b
 have lim:im<4294967296:=by omega
 have e2:imm % 4294967296=(im:Nat):=by omega
 have lpc1:pc1<4294967296:=by omega
 have HPC:=Lib.hid hpc1
 have HVA:=Lib.hid hva
 have HVB:=Lib.hid hvb
 clear hva hvb him hpc1 hR0
 go_wp2
 have K5:Hid (Cs w (((w4.setCell ⟨w.heap.size,0,none⟩ (.int .u32 0)).setCell ⟨w.heap.size,16,none⟩ (.int .u32 (pc1:Nat))).alloc (.cells #[.int .u8 1,.int .u8 a,.int .u8 b,.int .u8 cc,.int .i32 imm] 72)) (R.set 0 0) pc1 l R pc zC zE (.slice A2 xs.length c2) xs):=
  ((K4.out.reg (u:=0) (by rw [HR.out.1];decide)).setpc HR0.out.1).alloc _
 have I5:Hid (Blk (((w4.setCell ⟨w.heap.size,0,none⟩ (.int .u32 0)).setCell ⟨w.heap.size,16,none⟩ (.int .u32 (pc1:Nat))).alloc (.cells #[.int .u8 1,.int .u8 a,.int .u8 b,.int .u8 cc,.int .i32 imm] 72)) w4.heap.size 72 #[.int .u8 1,.int .u8 a,.int .u8 b,.int .u8 cc,.int .i32 imm]):=by
  have:=Blk.new ((w4.setCell ⟨w.heap.size,0,none⟩ (.int .u32 0)).setCell ⟨w.heap.size,16,none⟩ (.int .u32 (pc1:Nat))) 72 #[.int .u8 1,.int .u8 a,.int .u8 b,.int .u8 cc,.int .i32 imm]
  rwa [show ((w4.setCell ⟨w.heap.size,0,none⟩ (.int .u32 0)).setCell ⟨w.heap.size,16,none⟩ (.int .u32 (pc1:Nat))).heap.size=w4.heap.size by simp] at this
 generalize (((w4.setCell ⟨w.heap.size,0,none⟩ (.int .u32 0)).setCell ⟨w.heap.size,16,none⟩ (.int .u32 (pc1:Nat))).alloc (.cells #[.int .u8 1,.int .u8 a,.int .u8 b,.int .u8 cc,.int .i32 imm] 72))=w5 at *
 have hgw:=K4.out.1.lt
 generalize w4.heap.size=gi at *
 clear q0 f0 q16 f16 hz4 K4
 have p1:∀ u:Ext w5,u.val.cell? ⟨gi,1,none⟩=some (.int .u8 a):=fun u=>u.cell (I5.out.cell 1 rfl)
 have p2:∀ u:Ext w5,u.val.cell? ⟨gi,2,none⟩=some (.int .u8 b):=fun u=>u.cell (I5.out.cell 2 rfl)
 have p4:∀ u:Ext w5,u.val.cell? ⟨gi,4,none⟩=some (.int .i32 imm):=fun u=>u.cell (I5.out.cell 4 rfl)
 have r1:∀ u:Ext w5,u.val.cell? ⟨w.heap.size,a,none⟩=some (.int .u32 va):=fun u=>u.cell (by rw [K5.out.1.c.cell a (cpuC_reg (by rw [HR0.out.1];omega)),HVA.out])
 have r2:∀ u:Ext w5,u.val.cell? ⟨w.heap.size,b,none⟩=some (.int .u32 vb):=fun u=>u.cell (by rw [K5.out.1.c.cell b (cpuC_reg (by rw [HR0.out.1];omega)),HVB.out])
 have a16:(a:Int)<16:=by omega
 have b16:(b:Int)<16:=by omega
 have c16:(cc:Int)<16:=by omega
 refine wp_region_ext (by kernel_rfl) (by kernel_rfl) ?_
 repeat (go_big_quiet_step (fail))
 refine wpQuiet_nil ?_
 rintro _ ⟨u,rfl⟩
 have K6:=Lib.hid (K5.out.later u.below)
 have I6:=Lib.hid (I5.out.below u.below I5.out.lt)
 clear p1 p2 p4 r1 r2 K5 I5 RV
 generalize u.val=w6 at *
 rw [e2]
 have hz6:=I6.out.lt
 have hy6:=K6.out.1.lt
 have i0:w6.cell? ⟨gi,0,none⟩=some (.int .u8 1):=I6.out.cell 0 rfl
 have hge:w.heap.size+1+1+1+1<w6.heap.size:=hy6
 have K7:Hid (Cs w (w6.alloc (.cells #[.int .i64 0,.int .u32 0] 84)) (R.set 0 0) pc1 l R pc zC zE (.slice A2 xs.length c2) xs):=K6.out.alloc _
 have I7:Hid (Blk (w6.alloc (.cells #[.int .i64 0,.int .u32 0] 84)) gi 72 #[.int .u8 1,.int .u8 a,.int .u8 b,.int .u8 cc,.int .i32 imm]):=I6.out.alloc _
 have V7:Hid (Blk (w6.alloc (.cells #[.int .i64 0,.int .u32 0] 84)) w6.heap.size 84 (evC 0 0)):=Blk.new w6 _ _
 obtain ⟨A7,c7,hv7,hr7,h07⟩:=own_read K7.out.2
 obtain ⟨rfl,rfl⟩:A7=A2∧c7=c2:=by cases hv7;exact ⟨rfl,rfl⟩
 have RV:=Lib.hid hr7
 clear hr7 hv7 h07
 have t13:decide ((1:Int)≤13)=true:=by decide
 have t13':(1:Int)≤13:=by omega
 obtain ⟨vc,hvc⟩:∃ vc,(R.set 0 0).getD cc 0=vc:=⟨_,rfl⟩
 have lvc:vc<4294967296:=by rw [← hvc];exact HR0.out.get cc
 have HVC:=Lib.hid hvc
 clear hvc
 go_wp2
 generalize (w6.alloc (.cells #[.int .i64 0,.int .u32 0] 84))=w7 at *
 have hgi:=I7.out.lt
 have hgel:=V7.out.lt
 generalize w6.heap.size=ge at *
 clear K6 I6 i0 hz6 hy6
 have ne:Nonempty (Stg (fun k w'=>Cs w w' (if k=0 then R.set 0 0 else (R.set 0 0).set a (addU vb vc)) pc1 l R pc zC zE (.slice A7 xs.length c7) xs∧Blk w' gi 72 #[.int .u8 1,.int .u8 a,.int .u8 b,.int .u8 cc,.int .i32 imm]∧Blk w' ge 84 (evC 0 0))):=⟨⟨0,w7,K7.out,I7.out,V7.out⟩⟩
 have ne0:Nonempty (Stg0 (fun k w'=>Cs w w' (if k=0 then R.set 0 0 else (R.set 0 0).set a (addU vb vc)) pc1 l R pc zC zE (.slice A7 xs.length c7) xs∧Blk w' gi 72 #[.int .u8 1,.int .u8 a,.int .u8 b,.int .u8 cc,.int .i32 imm]∧Blk w' ge 84 (evC 0 0))):=⟨⟨w7,K7.out,I7.out,V7.out⟩⟩
 have p1:∀ u:Stg0 (fun k w'=>Cs w w' (if k=0 then R.set 0 0 else (R.set 0 0).set a (addU vb vc)) pc1 l R pc zC zE (.slice A7 xs.length c7) xs∧Blk w' gi 72 #[.int .u8 1,.int .u8 a,.int .u8 b,.int .u8 cc,.int .i32 imm]∧Blk w' ge 84 (evC 0 0)),u.val.cell? ⟨gi,1,none⟩=some (.int .u8 a):=fun u=>u.prf.2.1.cell 1 rfl
 have p3:∀ u:Stg0 (fun k w'=>Cs w w' (if k=0 then R.set 0 0 else (R.set 0 0).set a (addU vb vc)) pc1 l R pc zC zE (.slice A7 xs.length c7) xs∧Blk w' gi 72 #[.int .u8 1,.int .u8 a,.int .u8 b,.int .u8 cc,.int .i32 imm]∧Blk w' ge 84 (evC 0 0)),u.val.cell? ⟨gi,3,none⟩=some (.int .u8 cc):=fun u=>u.prf.2.1.cell 3 rfl
 have r3:∀ u:Stg0 (fun k w'=>Cs w w' (if k=0 then R.set 0 0 else (R.set 0 0).set a (addU vb vc)) pc1 l R pc zC zE (.slice A7 xs.length c7) xs∧Blk w' gi 72 #[.int .u8 1,.int .u8 a,.int .u8 b,.int .u8 cc,.int .i32 imm]∧Blk w' ge 84 (evC 0 0)),u.val.cell? ⟨w.heap.size,cc,none⟩=some (.int .u32 vc):=fun u=>by rw [u.prf.1.1.c.cell cc (cpuC_reg (by rw [if_pos rfl,HR0.out.1];omega)),if_pos rfl,HVC.out]
 have hcf:=fun x y w=>rk1_call x y w
 refine wp_region_late 11 13 (fun k w'=>Cs w w' (if k=0 then R.set 0 0 else (R.set 0 0).set a (addU vb vc)) pc1 l R pc zC zE (.slice A7 xs.length c7) xs∧Blk w' gi 72 #[.int .u8 1,.int .u8 a,.int .u8 b,.int .u8 cc,.int .i32 imm]∧Blk w' ge 84 (evC 0 0)) (by kernel_rfl) (by kernel_rfl) ⟨K7.out.drew,I7.out,V7.out⟩ ?_
 simp only [List.take_succ_cons,List.take_zero,List.drop_succ_cons,List.drop_zero]
 repeat (go_big_quiet_step (first
  | (go_at_call 81;with_reducible exact Stg0.call_same (reckon_add _))
  | (with_reducible exact Stg0.call_same (rk1_any vb vc _ lvb lvc))))
 refine wpQuiet_nil ?_
 repeat (go_big_quiet_step (fail))
 refine wpQuiet_nil ?_
 refine wpT_cons #[] undef rfl (by intro d h;cases h) (fun w8 hw8=>?_) ?_
 ·have q0:=hw8.1.1.c.cell a (cpuC_reg (by rw [if_pos rfl,HR0.out.1];omega))
  have f0:=hw8.1.1.c.frozen a
  refine store_cell 68 (.tmp 91) (.tmp 89) w.heap.size a .u32 _ _ rfl rfl rfl rfl (by intro;kernel_rfl) q0 f0 ?_
  intro w9 hw9
  refine ⟨rfl,?_⟩
  rw [← hw9]
  exact ⟨hw8.1.reg (by rw [if_pos rfl,HR0.out.1];omega),hw8.2.1.far (by show gi≠w.heap.size;omega) _,hw8.2.2.far (by show ge≠w.heap.size;omega) _⟩
 refine wpT_nil ?_
 intro w8 hw8
 have K8:Hid (Cs w w8 ((R.set 0 0).set a (addU vb vc)) pc1 l R pc zC zE (.slice A7 xs.length c7) xs):=hw8.1
 have V8:=Lib.hid hw8.2.2
 have RL8:Hid (((R.set 0 0).set a (addU vb vc)).length=16):=by show _=_;rw [List.length_set];exact HR0.out.1
 clear hw8 p1 p3 r3 ne ne0 K7 I7 V7 hcf
 have q0:=K8.out.1.c.cell 0 (cpuC_reg (by rw [RL8.out];decide))
 have f0:=K8.out.1.c.frozen 0
 go_wp2_with (first
  | (refine store_cell 68 (.tmp 207) (.const (.int .u32 0)) w.heap.size 0 .u32 0 _ rfl rfl rfl rfl (by intro;kernel_rfl) q0 f0 ?_;intro w9 hw9;go_frame))
 have K9:Hid (Cs w w9 (((R.set 0 0).set a (addU vb vc)).set 0 0) pc1 l R pc zC zE (.slice A7 xs.length c7) xs):=by show Cs _ _ _ _ _ _ _ _ _ _ _;rw [← hw9];exact K8.out.reg (u:=0) (by rw [RL8.out];decide)
 have V9:Hid (Blk w9 ge 84 (evC 0 0)):=by show Blk _ _ _ _;rw [← hw9];exact V8.out.far (by show ge≠w.heap.size;omega) _
 have RL9:Hid ((((R.set 0 0).set a (addU vb vc)).set 0 0).length=16):=by show _=_;rw [List.length_set];exact RL8.out
 clear q0 f0 hw9 K8 V8
 have ne:Nonempty (Stg (RetC w (((R.set 0 0).set a (addU vb vc)).set 0 0) pc1 l R pc (cpuC (((R.set 0 0).set a (addU vb vc)).set 0 0) pc1) (evC 0 0) (.slice A7 xs.length c7) xs (fun w'=>Blk w' ge 84 (evC 0 0)))):=⟨⟨0,w9,K9.out,V9.out⟩⟩
 refine wp_region_late 0 3 (RetC w (((R.set 0 0).set a (addU vb vc)).set 0 0) pc1 l R pc (cpuC (((R.set 0 0).set a (addU vb vc)).set 0 0) pc1) (evC 0 0) (.slice A7 xs.length c7) xs (fun w'=>Blk w' ge 84 (evC 0 0))) (by kernel_rfl) (by kernel_rfl) ⟨K9.out.drew,V9.out⟩ ?_
 simp only [List.take_succ_cons,List.take_zero,List.drop_succ_cons,List.drop_zero]
 refine wpQuiet_nil ?_
 repeat (first
  | go_big_quiet_step (fail)
  | (go_big_quiet_want;refine quiet_load_blk 79 (.tmp 3) w.heap.size 79 (cpuC (((R.set 0 0).set a (addU vb vc)).set 0 0) pc1) _ rfl rfl (by rintro _ ⟨u,rfl⟩;exact u.prf.1.1.c) Tryz.underlying79 rfl (cpu_size RL9.out) ?_;go_frame;go_big_quiet_on)
  | (go_big_quiet_want;refine quiet_load_blk 84 (.tmp 17) ge 84 (evC 0 0) _ rfl rfl (by rintro _ ⟨u,rfl⟩;exact u.prf.2) Tryz.underlying84 rfl ev_info ?_;go_frame;go_big_quiet_on))
 refine wpQuiet_nil ?_
 refine wpT_store 79 (.tmp 6) (.tmp 208) (w.heap.size+1+1) 79 (cpuC (((R.set 0 0).set a (addU vb vc)).set 0 0) pc1) rfl rfl rfl rfl rfl (cpu_size RL9.out) (cpuC_one _ _) (fun w' hw=>⟨_,hw.1.1.oc,by rw [cpuC_size,RL9.out];rfl⟩) (fun w' w2 hw hb hg=>⟨hw.1.putoc hb hg,hw.2.grown hg (ne_blk (by omega))⟩) ?_
 refine wpT_assign (.tmp 209) rfl (fun w' hw=>hw) ?_
 refine wpT_store 84 (.tmp 8) (.tmp 210) (w.heap.size+1+1+1) 84 (evC 0 0) rfl rfl rfl rfl rfl ev_info (evC_one _ _) (fun w' hw=>⟨_,hw.1.1.oe,rfl⟩) (fun w' w2 hw hb hg=>⟨hw.1.putoe hb hg,hw.2.grown hg (ne_blk (by omega))⟩) ?_
 refine wpT_nil ?_
 intro w10 hw10
 have KF:=Lib.hid hw10.1
 go_wp2
 refine bodyPost_ret (results_ctc rfl rfl rfl rfl KF.out.1.oc Tryz.underlying79 rfl (cpu_size RL9.out) KF.out.1.oe Tryz.underlying84 rfl ev_info) rfl ?_
 obtain ⟨x1,x2,x3,x4⟩:=HX.out
 rw [HPC.out]
 have y1:=HVB.out
 have y2:=HVC.out
 subst x1
 subst x2
 subst x3
 rw [y1,y2]
 exact ⟨⟨_,rfl⟩,KF.out.1.below⟩
def putsD (b:Act):List (Nat × Value)→Act
 | []=>b
 | (d,v)::r=>putsD (b.put (some d) v) r
theorem frame_of {a':Act}:∀ (ds:List Nat) {a:Act},a'.defers=a.defers→a'.tmps.size=a.tmps.size→(∀ t,t ∉ ds→a'.tmps[t]?=a.tmps[t]?)→a'=putsD a (ds.map fun d=>(d,a'.tmps.getD d undef))
 | [],a,hd,hs,hr=>by
  cases a';cases a
  simp only at hd hs hr
  subst hd
  have:∀ (x y:Array Value),(∀ t,x[t]?=y[t]?)→x=y:=fun x y h=>Array.ext_getElem? h
  rw [this _ _ (fun t=>hr t (by simp))]
  rfl
 | d::r,a,hd,hs,hr=>by
  show a'=putsD (a.put (some d) (a'.tmps.getD d undef)) (r.map fun d=>(d,a'.tmps.getD d undef))
  refine frame_of r hd (by rw [hs];simp [Act.put]) (fun t ht=>?_)
  by_cases e:t=d
  ·subst e
   by_cases hlt:t<a.tmps.size
   ·have:t<a'.tmps.size:=by omega
    simp [Act.put,Array.getElem?_setIfInBounds,hlt,this,Array.getD_eq_getD_getElem?]
   ·rw [Array.getElem?_eq_none (by omega),Array.getElem?_eq_none (by simp [Act.put];omega)]
  ·rw [hr t (by simp [e,ht])]
   simp [Act.put,Array.getElem?_setIfInBounds,Ne.symm e]
theorem notDst_of {l:List Oper} {n:Nat} {ds:List Nat} (h:(l.take n).filterMap (fun o=>o.dst)=ds) {t:Nat} (ht:t ∉ ds):∀ (j:Nat) (oj:Oper),j<n→l[j]?=some oj→oj.dst≠some t:=by
 intro j oj hj ho e
 apply ht
 rw [← h,List.mem_filterMap]
 refine ⟨oj,List.mem_of_getElem? (i:=j) ?_,e⟩
 rw [List.getElem?_take,if_pos hj];exact ho
theorem notDstQ {l:List Oper} {t:Nat} (h:l.all (fun o=>o.dst != some t)=true):∀ (j:Nat) (oj:Oper),l.toArray[j]?=some oj→oj.dst≠some t:=fun j oj hj=>by
 have:=List.all_eq_true.1 h oj (List.mem_of_getElem? (by simpa using hj))
 simpa using this
def spkS (i:Nat) (v:Value) (w:World):Prop:=
 match i with
 | 0=>v=.string zeroP
 | 1=>v=.string zeroP
 | 2=>∃ g,v=.slice (some ⟨g,0,none⟩) 2 2∧Blk w g 9 #[.string zeroP,.string zeroP]
 | 3=>v=.agg #[.bool true,.bool true,.int .i64 1]
 | 4=>v=.agg (pteL layPages).toArray
 | 5=>v=.int .u32 71876608
 | 6=>v=.int .u8 0
 | 7=>v=.int .u32 71876608
 | 8=>v=.int .u32 280768
 | 9=>v=.int .u8 192
 | 10=>v=.int .u32 71876608
 | 11=>v=.int .u32 1096
 | 12=>v=.int .u8 72
 | 13=>v=.int .u32 71876608
 | 14=>v=.int .u32 4
 | 15=>v=.int .u8 4
 | 16=>∃ g,v=.slice (some ⟨g,0,none⟩) 4 4∧Blk w g 5 #[.int .u8 0,.int .u8 192,.int .u8 72,.int .u8 4]
 | 17=>v=.string wordB
 | 18=>∃ A c,v=.tuple #[.slice A 2 c,.bool true]∧RowAt w w.heap.size A ([zeroP,codeP].map .string)
 | 19=>∃ A c,v=.tuple #[.slice A 2 c,.bool true]∧RowAt w w.heap.size A ([zeroP,codeP].map .string)
 | 20=>∃ A c,v=.slice A 2 c∧RowAt w w.heap.size A ([zeroP,codeP].map .string)
 | 21=>v=.bool true
 | 22=>∃ A c,v=.slice A 2 c∧RowAt w w.heap.size A ([zeroP,codeP].map .string)
 | 23=>v=.bool true
 | _=>True
theorem spkS_mono (i:Nat) (v:Value) (w w':World) (h:spkS i v w) (hb:Below w.heap.size w w'):spkS i v w':=by
 unfold spkS at h ⊢
 split at h <;> first
  | exact h
  | (obtain ⟨g,hv,hg⟩:=h;exact ⟨g,hv,hg.below hb hg.lt⟩)
  | (obtain ⟨A,c,hv,hr⟩:=h;exact ⟨A,c,hv,(hr.below hb).mono hb.size⟩)
  | trivial
def regs0:List Nat:=[0,0,2,3,0,0,0,0,0,0,0,0,0,0,0,0]
def regs1:List Nat:=[0,5,2,3,0,0,0,0,0,0,0,0,0,0,0,0]
theorem ev_new {w w':World} {oc:Obj} {cs:Array Value} (hg:((w.alloc oc).alloc (.cells cs 84)).grownBy w' (some w.heap.size)):Blk w' (w.heap.size+1) 84 cs:=by
 have:=Blk.new (w.alloc oc) 84 cs
 rw [World.size_alloc] at this
 exact this.grown hg (ne_blk (by omega))
theorem two_below {b w w4 w5:World} {o1 o2:Obj} (hg4:((w.alloc o1).alloc o2).grownBy w4 (some w.heap.size)) (hg5:w4.grownBy w5 (some (w.heap.size+1))) (h:Below b.heap.size b w):Below b.heap.size b w5:=by
 have h2:=(h.alloc h.size o1).alloc (by have:=h.size;simp;omega) o2
 have h3:=h2.grown hg4 h2.size (fun k hk=>by cases hk;exact h.size)
 exact h3.grown hg5 h3.size (fun k hk=>by cases hk;have:=h.size;omega)
theorem step_spk (A:Option Addr) (c:Nat) (w:World) (h:RowAt w w.heap.size A ([zeroP,codeP].map .string)) :
  Calls Tryz.prog 31 #[.agg (cpuC regs0 0),.agg (pteL codePages).toArray,.slice A 2 c] w fun e w'=>(∃ v,e=.returned (.tuple #[.agg (cpuC regs1 4),v,.agg #[.int .i64 0,.int .u32 0]]))∧Below w.heap.size w w':=by
 have h0:A=none→[zeroP,codeP].length=0∧c=0:=fun e=>by
  subst e
  obtain ⟨b,o,hA,_⟩:=RowAt.at_ h (by decide)
  cases hA
 have:=step_add regs0 0 codePages A c [zeroP,codeP] w ⟨rfl,by decide⟩ (by decide) rfl (by decide) h h0 code_load
 exact this
set_option maxHeartbeats 4000000 in
theorem speaks_any (w:World) (ht:SpkT w):Calls Tryz.prog 8 #[] w fun e w'=>e=.returned (.bool true)∧Below w.heap.size w w':=by
 have HT:=Lib.hid ht
 clear ht
 go_enter Tryz.func8,Tryz.ntmps8
 go_wp2_with fail
 refine (op_add _ HT.out).mono ?_
 rintro e w1 ⟨rfl,hb1⟩
 have B1:=Lib.hid hb1
 clear hb1
 go_wp2_with fail
 refine (enc_add _).mono ?_
 rintro e w2 ⟨rfl,hb2⟩
 have B2:=Lib.hid (B1.out.trans (hb2.mono B1.out.size))
 clear hb2 B1
 go_wp2_with (first
  | (refine store_blk 76 (.tmp 5) (.tmp 23) w2.heap.size 76 (pteL (List.replicate 16 ⟨false,false,0⟩)).toArray (pteL codePages).toArray rfl rfl rfl rfl (Blk.new w2 _ _) rfl (space_size rfl) (by decide) ?_;intro w3 hs3 hg3;have S3:=Lib.hid hs3;have G3:=Lib.hid hg3;clear hs3 hg3;go_frame)
  | (refine store_blk 79 (.tmp 6) (.tmp 24) w3.heap.size 79 zC zC rfl rfl rfl rfl (Blk.new w3 _ _) rfl cpu_info (by decide) ?_;intro w4 hs4 hg4;have S4:=Lib.hid hs4;have G4:=Lib.hid hg4;have q2:w4.cell? ⟨w3.heap.size,2,none⟩=some (.int .u32 0):=hs4.cell 2 rfl;have f2:=hs4.frozen 2;have q3:w4.cell? ⟨w3.heap.size,3,none⟩=some (.int .u32 0):=hs4.cell 3 rfl;have f3:=hs4.frozen 3;clear hs4 hg4;go_frame))
 have B3:Hid (Below w.heap.size w w3):=(B2.out.alloc B2.out.size _).grown G3.out (by have:=B2.out.size;simp;omega) (fun k hk=>by cases hk;exact B2.out.size)
 have B4:Hid (Below w.heap.size w w4):=(B3.out.alloc B3.out.size _).grown G4.out (by have:=B3.out.size;simp;omega) (fun k hk=>by cases hk;exact B3.out.size)
 have hlt:w2.heap.size<w3.heap.size:=S3.out.lt
 have S4s:Hid (Blk w4 w2.heap.size 76 (pteL codePages).toArray):=(S3.out.alloc _).grown G4.out (ne_blk (by omega))
 obtain ⟨w5,hw5⟩:∃ w5,(w4.setCell ⟨w3.heap.size,2,none⟩ (.int .u32 2)).setCell ⟨w3.heap.size,3,none⟩ (.int .u32 3)=w5:=⟨_,rfl⟩
 rw [hw5]
 have X5:Hid (Blk w5 w2.heap.size 76 (pteL codePages).toArray):=hw5▸(S4s.out.far (by show w2.heap.size≠w3.heap.size;omega) _).far (by show w2.heap.size≠w3.heap.size;omega) _
 have X6:Hid (Blk w5 w3.heap.size 79 (cpuC regs0 0)):=by
  have h:=(S4.out.set_ 2 (.int .u32 2)).set_ 3 (.int .u32 3)
  rw [hw5] at h
  exact h
 have B5:Hid (Below w.heap.size w w5):=hw5▸(B4.out.setCell (by exact B3.out.size) _).setCell (by exact B3.out.size) _
 generalize w2.heap.size=gs at *
 generalize w3.heap.size=gc at *
 clear hw5 B2 HT S3 G3 S4 G4 q2 f2 q3 f3 B3 B4 S4s hlt
 generalize ha:({ tmps:=_,defers:=_ }:Act)=a
 have ha3:a.eval (.tmp 3)=.int .u32 71876608:=by rw [← ha];rfl
 have hasz:a.tmps.size=83:=by rw [← ha];rfl
 have HA:=Lib.hid ha
 clear ha
 refine wp_region_inv 24 spkS (by kernel_rfl) (by rw [hasz];kernel_rfl) spkS_mono ?_ ?_
 ·intro i o a' w' hi ho hb hag
  have ev:∀ t,Operand.tmp t ∈ o.op.operands→∀ (j:Nat) (oj:Oper),_→oj.dst=some t→spkS j (a'.eval (.tmp t)) w':=fun t ht j oj hj hd=>(hag t ht).1 j oj hj hd
  have eb:∀ t,Operand.tmp t ∈ o.op.operands→_→a'.eval (.tmp t)=_:=fun t ht h=>(hag t ht).2 h
  obtain rfl | rfl | rfl | rfl | rfl | rfl | rfl | rfl | rfl | rfl | rfl | rfl | rfl | rfl | rfl | rfl | rfl | rfl | rfl | rfl | rfl | rfl | rfl | rfl:i=0∨i=1∨i=2∨i=3∨i=4∨i=5∨i=6∨i=7∨i=8∨i=9∨i=10∨i=11∨i=12∨i=13∨i=14∨i=15∨i=16∨i=17∨i=18∨i=19∨i=20∨i=21∨i=22∨i=23:=by omega
  ·cases ho
   refine step_call (f:=30) (args:=#[.int .u8 0]) ?_ ?_
   ·unfold execOp
    simp [go_sem]
   ·exact (page_any w').mono fun e w2 ⟨he,hb2⟩=>⟨_,he,rfl,hb2⟩
  ·cases ho
   refine step_call (f:=30) (args:=#[.int .u8 0]) ?_ ?_
   ·unfold execOp
    simp [go_sem]
   ·exact (page_any w').mono fun e w2 ⟨he,hb2⟩=>⟨_,he,rfl,hb2⟩
  ·cases ho
   have e30:a'.eval (.tmp 30)=.string zeroP:=ev 30 (by simp [Op.operands]) 0 _ rfl rfl
   have e31:a'.eval (.tmp 31)=.string zeroP:=ev 31 (by simp [Op.operands]) 1 _ rfl rfl
   refine step_val (v:=.slice (some ⟨w'.heap.size,0,none⟩) 2 2) (w':=w'.alloc (.cells #[.string zeroP,.string zeroP] 9)) ?_ ⟨_,rfl,Blk.new w' _ _⟩ ((Below.refl _ _).alloc (Nat.le_refl _) _)
   unfold execOp
   simp only [List.map_toArray,List.map_cons,List.map_nil,e30,e31]
   simp [go_sem]
  ·cases ho
   refine step_val (v:=.agg #[.bool true,.bool true,.int .i64 1]) (w':=w') ?_ rfl (Below.refl _ _)
   unfold execOp
   simp [go_sem]
  ·cases ho
   have e33:a'.eval (.tmp 33)=.agg #[.bool true,.bool true,.int .i64 1]:=ev 33 (by simp [Op.operands]) 3 _ rfl rfl
   refine step_val (v:=.agg (pteL layPages).toArray) (w':=w') ?_ rfl (Below.refl _ _)
   unfold execOp
   simp only [List.map_toArray,List.map_cons,List.map_nil,e33]
   kernel_rfl
  ·cases ho
   have e:a'.eval (.tmp 3)=.int .u32 71876608:=(eb 3 (by simp [Op.operands]) (notDstQ rfl)).trans ha3
   refine step_val (v:=.int .u32 71876608) (w':=w') ?_ rfl (Below.refl _ _)
   unfold execOp
   simp only [e,Sem.run_pure]
   first | done | rfl
  ·cases ho
   have e35:a'.eval (.tmp 35)=.int .u32 71876608:=ev 35 (by simp [Op.operands]) 5 _ rfl rfl
   refine step_val (v:=.int .u8 0) (w':=w') ?_ rfl (Below.refl _ _)
   unfold execOp
   simp only [e35]
   first | done | kernel_rfl
  ·cases ho
   have e:a'.eval (.tmp 3)=.int .u32 71876608:=(eb 3 (by simp [Op.operands]) (notDstQ rfl)).trans ha3
   refine step_val (v:=.int .u32 71876608) (w':=w') ?_ rfl (Below.refl _ _)
   unfold execOp
   simp only [e,Sem.run_pure]
   first | done | rfl
  ·cases ho
   have e37:a'.eval (.tmp 37)=.int .u32 71876608:=ev 37 (by simp [Op.operands]) 7 _ rfl rfl
   refine step_val (v:=.int .u32 280768) (w':=w') ?_ rfl (Below.refl _ _)
   unfold execOp
   simp only [e37]
   first | done | kernel_rfl
  ·cases ho
   have e38:a'.eval (.tmp 38)=.int .u32 280768:=ev 38 (by simp [Op.operands]) 8 _ rfl rfl
   refine step_val (v:=.int .u8 192) (w':=w') ?_ rfl (Below.refl _ _)
   unfold execOp
   simp only [e38]
   first | done | kernel_rfl
  ·cases ho
   have e:a'.eval (.tmp 3)=.int .u32 71876608:=(eb 3 (by simp [Op.operands]) (notDstQ rfl)).trans ha3
   refine step_val (v:=.int .u32 71876608) (w':=w') ?_ rfl (Below.refl _ _)
   unfold execOp
   simp only [e,Sem.run_pure]
   first | done | rfl
  ·cases ho
   have e40:a'.eval (.tmp 40)=.int .u32 71876608:=ev 40 (by simp [Op.operands]) 10 _ rfl rfl
   refine step_val (v:=.int .u32 1096) (w':=w') ?_ rfl (Below.refl _ _)
   unfold execOp
   simp only [e40]
   first | done | kernel_rfl
  ·cases ho
   have e41:a'.eval (.tmp 41)=.int .u32 1096:=ev 41 (by simp [Op.operands]) 11 _ rfl rfl
   refine step_val (v:=.int .u8 72) (w':=w') ?_ rfl (Below.refl _ _)
   unfold execOp
   simp only [e41]
   first | done | kernel_rfl
  ·cases ho
   have e:a'.eval (.tmp 3)=.int .u32 71876608:=(eb 3 (by simp [Op.operands]) (notDstQ rfl)).trans ha3
   refine step_val (v:=.int .u32 71876608) (w':=w') ?_ rfl (Below.refl _ _)
   unfold execOp
   simp only [e,Sem.run_pure]
   first | done | rfl
  ·cases ho
   have e43:a'.eval (.tmp 43)=.int .u32 71876608:=ev 43 (by simp [Op.operands]) 13 _ rfl rfl
   refine step_val (v:=.int .u32 4) (w':=w') ?_ rfl (Below.refl _ _)
   unfold execOp
   simp only [e43]
   first | done | kernel_rfl
  ·cases ho
   have e44:a'.eval (.tmp 44)=.int .u32 4:=ev 44 (by simp [Op.operands]) 14 _ rfl rfl
   refine step_val (v:=.int .u8 4) (w':=w') ?_ rfl (Below.refl _ _)
   unfold execOp
   simp only [e44]
   first | done | kernel_rfl
  ·cases ho
   have e36:a'.eval (.tmp 36)=.int .u8 0:=ev 36 (by simp [Op.operands]) 6 _ rfl rfl
   have e39:a'.eval (.tmp 39)=.int .u8 192:=ev 39 (by simp [Op.operands]) 9 _ rfl rfl
   have e42:a'.eval (.tmp 42)=.int .u8 72:=ev 42 (by simp [Op.operands]) 12 _ rfl rfl
   have e45:a'.eval (.tmp 45)=.int .u8 4:=ev 45 (by simp [Op.operands]) 15 _ rfl rfl
   refine step_val (v:=.slice (some ⟨w'.heap.size,0,none⟩) 4 4) (w':=w'.alloc (.cells #[.int .u8 0,.int .u8 192,.int .u8 72,.int .u8 4] 5)) ?_ ⟨_,rfl,Blk.new w' _ _⟩ ((Below.refl _ _).alloc (Nat.le_refl _) _)
   unfold execOp
   simp only [List.map_toArray,List.map_cons,List.map_nil,e36,e39,e42,e45]
   simp [go_sem]
  ·cases ho
   obtain ⟨g,e46,hg⟩:=ev 46 (by simp [Op.operands]) 16 _ rfl rfl
   refine step_val (v:=.string wordB) (w':=w') ?_ rfl (Below.refl _ _)
   have:=run_convert_bytes_back (P:=Tryz.prog) w' 44 9 5 ⟨g,0,none⟩ 4 [0,192,72,4] Tryz.underlying44 Tryz.underlying5 Tryz.underlying9 (fun j hj=>by
    rw [Addr.add_lit,Nat.zero_add]
    have hj:j<4:=hj
    obtain rfl | rfl | rfl | rfl:j=0∨j=1∨j=2∨j=3:=by omega
    ·exact hg.cell 0 rfl
    ·exact hg.cell 1 rfl
    ·exact hg.cell 2 rfl
    ·exact hg.cell 3 rfl)
   unfold execOp
   simp only [e46]
   rw [Sem.run_bind]
   erw [this]
   rfl
  ·cases ho
   obtain ⟨g,e32,hg⟩:=ev 32 (by simp [Op.operands,Call.operands]) 2 _ rfl rfl
   have e34:a'.eval (.tmp 34)=.agg (pteL layPages).toArray:=ev 34 (by simp [Op.operands,Call.operands]) 4 _ rfl rfl
   have e47:a'.eval (.tmp 47)=.string wordB:=ev 47 (by simp [Op.operands,Call.operands]) 17 _ rfl rfl
   have q32:a'.tmps[32]?.getD undef=.slice (some ⟨g,0,none⟩) 2 2:=by rw [← Array.getD_eq_getD_getElem?];exact e32
   have q34:a'.tmps[34]?.getD undef=.agg (pteL layPages).toArray:=by rw [← Array.getD_eq_getD_getElem?];exact e34
   have q47:a'.tmps[47]?.getD undef=.string wordB:=by rw [← Array.getD_eq_getD_getElem?];exact e47
   refine step_call (f:=29) (args:=#[.slice (some ⟨g,0,none⟩) 2 2,.agg (pteL layPages).toArray,.int .u32 0,.string wordB]) ?_ ?_
   ·unfold execOp
    simp [go_sem,q32,q34,q47]
   ·refine (slay_any (some ⟨g,0,none⟩) 2 w' (fun e=>by cases e) (Blk.row hg)).mono ?_
    rintro e w2 ⟨⟨v,rfl,hown⟩,hb2⟩
    obtain ⟨A,c,rfl,hr,_⟩:=own_read hown
    exact ⟨_,rfl,⟨A,c,rfl,hr⟩,hb2⟩
  ·cases ho
   obtain ⟨A,c,e48,hr⟩:=ev 48 (by simp [Op.operands]) 18 _ rfl rfl
   refine step_val (v:=.tuple #[.slice A 2 c,.bool true]) (w':=w') ?_ ⟨A,c,rfl,hr⟩ (Below.refl _ _)
   unfold execOp
   simp only [e48,Sem.run_pure]
   first | done | rfl
  ·cases ho
   obtain ⟨A,c,e29,hr⟩:=ev 29 (by simp [Op.operands]) 19 _ rfl rfl
   refine step_val (v:=.slice A 2 c) (w':=w') ?_ ⟨A,c,rfl,hr⟩ (Below.refl _ _)
   unfold execOp
   simp only [e29]
   first | done | rfl
  ·cases ho
   obtain ⟨A,c,e29,hr⟩:=ev 29 (by simp [Op.operands]) 19 _ rfl rfl
   refine step_val (v:=.bool true) (w':=w') ?_ rfl (Below.refl _ _)
   unfold execOp
   simp only [e29]
   first | done | rfl
  ·cases ho
   obtain ⟨A,c,e49,hr⟩:=ev 49 (by simp [Op.operands]) 20 _ rfl rfl
   refine step_val (v:=.slice A 2 c) (w':=w') ?_ ⟨A,c,rfl,hr⟩ (Below.refl _ _)
   unfold execOp
   simp only [e49,Sem.run_pure]
   first | done | rfl
  ·cases ho
   have e50:a'.eval (.tmp 50)=.bool true:=ev 50 (by simp [Op.operands]) 21 _ rfl rfl
   refine step_val (v:=.bool true) (w':=w') ?_ rfl (Below.refl _ _)
   unfold execOp
   simp only [e50]
   first | done | kernel_rfl
 ·intro a' w4 hb4 hdf hsz hsp hrest
  have hf:=frame_of [30,31,32,33,34,35,36,37,38,39,40,41,42,43,44,45,46,47,48,29,49,50,7,8] hdf hsz (fun t ht=>hrest t (notDst_of rfl ht))
  have v30:a'.tmps.getD 30 undef=.string zeroP:=hsp 0 _ 30 (by decide) rfl rfl
  have v31:a'.tmps.getD 31 undef=.string zeroP:=hsp 1 _ 31 (by decide) rfl rfl
  obtain ⟨g32,v32,hg32⟩:=hsp 2 _ 32 (by decide) rfl rfl
  have v33:a'.tmps.getD 33 undef=.agg #[.bool true,.bool true,.int .i64 1]:=hsp 3 _ 33 (by decide) rfl rfl
  have v34:a'.tmps.getD 34 undef=.agg (pteL layPages).toArray:=hsp 4 _ 34 (by decide) rfl rfl
  have v35:a'.tmps.getD 35 undef=.int .u32 71876608:=hsp 5 _ 35 (by decide) rfl rfl
  have v36:a'.tmps.getD 36 undef=.int .u8 0:=hsp 6 _ 36 (by decide) rfl rfl
  have v37:a'.tmps.getD 37 undef=.int .u32 71876608:=hsp 7 _ 37 (by decide) rfl rfl
  have v38:a'.tmps.getD 38 undef=.int .u32 280768:=hsp 8 _ 38 (by decide) rfl rfl
  have v39:a'.tmps.getD 39 undef=.int .u8 192:=hsp 9 _ 39 (by decide) rfl rfl
  have v40:a'.tmps.getD 40 undef=.int .u32 71876608:=hsp 10 _ 40 (by decide) rfl rfl
  have v41:a'.tmps.getD 41 undef=.int .u32 1096:=hsp 11 _ 41 (by decide) rfl rfl
  have v42:a'.tmps.getD 42 undef=.int .u8 72:=hsp 12 _ 42 (by decide) rfl rfl
  have v43:a'.tmps.getD 43 undef=.int .u32 71876608:=hsp 13 _ 43 (by decide) rfl rfl
  have v44:a'.tmps.getD 44 undef=.int .u32 4:=hsp 14 _ 44 (by decide) rfl rfl
  have v45:a'.tmps.getD 45 undef=.int .u8 4:=hsp 15 _ 45 (by decide) rfl rfl
  obtain ⟨g46,v46,hg46⟩:=hsp 16 _ 46 (by decide) rfl rfl
  have v47:a'.tmps.getD 47 undef=.string wordB:=hsp 17 _ 47 (by decide) rfl rfl
  obtain ⟨A48,c48,v48,hr48⟩:=hsp 18 _ 48 (by decide) rfl rfl
  obtain ⟨A29,c29,v29,hr29⟩:=hsp 19 _ 29 (by decide) rfl rfl
  obtain ⟨A49,c49,v49,hr49⟩:=hsp 20 _ 49 (by decide) rfl rfl
  have v50:a'.tmps.getD 50 undef=.bool true:=hsp 21 _ 50 (by decide) rfl rfl
  obtain ⟨A7,c7,v7,hr7⟩:=hsp 22 _ 7 (by decide) rfl rfl
  have v8:a'.tmps.getD 8 undef=.bool true:=hsp 23 _ 8 (by decide) rfl rfl
  simp only [List.map_cons,List.map_nil,putsD] at hf
  rw [v30,v31,v32,v33,v34,v35,v36,v37,v38,v39,v40,v41,v42,v43,v44,v45,v46,v47,v48,v29,v49,v50,v7,v8] at hf
  rw [← HA.out] at hf
  subst hf
  simp only [List.drop_succ_cons,List.drop_zero]
  clear hsp hrest hdf hsz ha3 hasz HA
  clear v30 v31 v32 v33 v34 v35 v36 v37 v38 v39 v40 v41 v42 v43 v44 v45 v46 v47 v48 v29 v49 v50 v7 v8
  have B6:=Lib.hid (B5.out.trans (hb4.mono B5.out.size))
  have Y5:=Lib.hid (X5.out.below hb4 X5.out.lt)
  have Y6:=Lib.hid (X6.out.below hb4 X6.out.lt)
  have R4:=Lib.hid hr7
  clear hb4 B5 X5 X6 hr48 hr29 hr49 hg32 hg46
  go_frame
  go_wp2_with (first
   | (refine load_blk 79 (.tmp 6) gc 79 (cpuC regs0 0) _ rfl rfl rfl Y6.out Tryz.underlying79 rfl (cpu_size rfl) ?_;go_frame)
   | (refine load_blk 76 (.tmp 5) gs 76 (pteL codePages).toArray _ rfl rfl rfl Y5.out Tryz.underlying76 rfl (space_size rfl) ?_;go_frame))
  refine (step_spk A7 c7 _ R4.out).mono ?_
  rintro e w7 ⟨⟨v,rfl⟩,hb7⟩
  have B7:=Lib.hid (B6.out.trans (hb7.mono B6.out.size))
  clear hb7 B6 R4 Y5 Y6
  go_wp2_with (first
   | (refine store_blk 79 (.tmp 9) (.tmp 56) w7.heap.size 79 zC (cpuC regs1 4) rfl rfl rfl rfl ((Blk.new w7 _ _).alloc _) rfl (cpu_size rfl) (cpuC_one _ _) ?_;intro w8 hr8 hg8;go_frame)
   | (refine store_blk 84 (.tmp 11) (.tmp 58) (w7.heap.size+1) 84 zE (evC 0 0) rfl rfl rfl rfl (ev_new hg8) rfl ev_info (evC_one _ _) ?_;intro w9 hr9 hg9;have k0:w9.cell? ⟨w7.heap.size+1,0,none⟩=some (.int .i64 0):=hr9.cell 0 rfl;have k1:w9.cell? ⟨w7.heap.size,1,none⟩=some (.int .u32 5):=(hr8.grown hg9 (ne_blk (by omega))).cell 1 rfl;have k2:w9.cell? ⟨w7.heap.size,16,none⟩=some (.int .u32 4):=(hr8.grown hg9 (ne_blk (by omega))).cell 16 rfl;have BF:=Lib.hid (two_below hg8 hg9 B7.out);clear hr8 hg8 hr9 hg9 B7;go_frame))
  go_ret
  exact ⟨rfl,BF.out⟩
open Go.RowKit Go.Maps
def rawR (v:Value):Option (DataW Value × List MemPlace):=some (.held v,[])
def MapIs (w:World) (b n:Nat) (f:Int→Option Value):Prop:=∃ D:DataW Value,w.ownsMap Tryz.prog 3 rawR b n D∧IsMap D∧∀ z:Int,(∀ v,f z=some v→∀ zd,D.atKey (.int .i64 z) zd=.held v)∧(f z=none→has D (.int .i64 z)=false)
def updF (f:Int→Option Value) (z:Int) (v:Value):Int→Option Value:=fun x=>if x=z then some v else f x
theorem intK:Keyed Tryz.prog 3:=int_keyed Tryz.underlying3
theorem MapIs.made (w:World):MapIs (w.alloc (.map #[] 0)) w.heap.size 0 (fun _=>none):=⟨.map [],World.ownsMap_made w _ _ _,isMap_empty,fun z=>⟨fun v h=>(by cases h),fun _=>rfl⟩⟩
variable {w w':World} {b n:Nat} {f:Int→Option Value}
theorem MapIs.lt (h:MapIs w b n f):b<w.heap.size:=let ⟨_,h1,_⟩:=h;h1.lt
theorem MapIs.same (h:MapIs w b n f) (hb:w'.heap[b]?=w.heap[b]?):MapIs w' b n f:=by
 obtain ⟨D,⟨es,clock,h1,h2⟩,h3⟩:=h
 exact ⟨D,⟨es,clock,hb.trans h1,h2⟩,h3⟩
theorem MapIs.below {B:Nat} (h:MapIs w b n f) (hb:Below B w w') (hB:b<B):MapIs w' b n f:=h.same (hb.block b hB)
theorem MapIs.kept {r:Nat} (h:MapIs w b n f) (hg:w.grownBy w' (some r)) (hne:b≠r):MapIs w' b n f:=h.same (hg.block b h.lt (by simpa using hne))
theorem MapIs.mono {n':Nat} (h:MapIs w b n f) (hn:n≤n'):MapIs w b n' f:=let ⟨D,h1,h2⟩:=h;⟨D,h1.mono hn,h2⟩
theorem MapIs.congr {g:Int→Option Value} (h:MapIs w b n f) (he:∀ z,g z=f z):MapIs w b n g:=by
 have:g=f:=funext he
 rw [this];exact h
theorem MapIs.look (h:MapIs w b n f) {t e:TypeId} (ht:Tryz.prog.underlying t=some (.map 3 e)) {z0:Value} (hz:(zeroValue e).run Tryz.prog w=.ok z0 w) (z:Int) (hw:(Lit.int .i64 z).wf=true) (c:Bool) :
  (Instr.lookup t (.map (some b)) (.int .i64 z) c).run Tryz.prog w=.ok (if c then .tuple #[(f z).getD z0,.bool (f z).isSome] else (f z).getD z0) w:=by
 obtain ⟨D,⟨es,clock,hb,F,hs,rfl⟩,hm,hf⟩:=h
 have hkey:keyOf Tryz.prog 3 (.int .i64 z)=some (.int .i64 z):=keyOf_int_mk Tryz.underlying3 hw
 obtain ⟨hf1,hf2⟩:=hf z
 rcases fit_look c intK ht hz hb F hkey with ⟨hrun,_,hat⟩ | ⟨e0,y,_,_,hrun,hR,hat,_⟩
 ·cases hfz:f z with
  | none=>rw [hrun];rfl
  | some v=>
   have h1:=(hat .nil).symm.trans (hf1 v hfz .nil)
   cases h1
 ·cases hfz:f z with
  | none=>
   have h1:=has_true_of_atKey hat
   rw [hf2 hfz] at h1
   cases h1
  | some v=>
   have h1:=(hat .nil).symm.trans (hf1 v hfz .nil)
   have h2:y=(.held e0.val,[]):=(Option.some.inj hR).symm
   rw [h2] at h1
   have h3:e0.val=v:=by injection h1
   rw [hrun,h3];rfl
theorem MapIs.put (h:MapIs w b n f) {t e:TypeId} (ht:Tryz.prog.underlying t=some (.map 3 e)) (hn:n<1000000) (z:Int) (hw:(Lit.int .i64 z).wf=true) (val:Value) :
  ∃ w',(Instr.mapUpdate t (.map (some b)) (.int .i64 z) val).run Tryz.prog w=.ok () w'∧MapIs w' b (n+1) (updF f z val)∧w.grownBy w' (some b):=by
 obtain ⟨D,h1,h2,h3⟩:=h
 have hkey:keyOf Tryz.prog 3 (.int .i64 z)=some (.int .i64 z):=keyOf_int_mk Tryz.underlying3 hw
 obtain ⟨w',hrun,r1,r2⟩:=h1.update (val:=val) (d:=.held val) (ps:=[]) intK ht (by unfold maxLen;omega) hkey rfl
 refine ⟨w',hrun,⟨_,r1,h2.put _ _,fun y=>?_⟩,r2⟩
 unfold updF
 by_cases e:y=z
 ·subst e
  rw [if_pos rfl]
  refine ⟨fun u hu zd=>?_,fun hu=>(by cases hu)⟩
  cases hu
  exact atKey_put_same h2 (intK.key hkey) _ _
 ·have hne:(Lit.int .i64 y)≠.int .i64 z:=fun h=>e (by injection h)
  rw [if_neg e]
  exact ⟨fun u hu zd=>by rw [atKey_put_other hne];exact (h3 y).1 u hu zd,fun hu=>by rw [has_put_other hne];exact (h3 y).2 hu⟩
theorem wpList_map_put (w:World) {ops:Array Oper} {rest:List Oper} {o:Oper} {a:Act} {Q:Exit→Act→World→Prop} (hg:o.guard=none) (m x v:Operand) (t:TypeId) (hop:o.op=Op.mapUpdate t m x v∨o.op=Op.insert t m x v) (e:TypeId) (ht:Tryz.prog.underlying t=some (.map 3 e))
  (b n:Nat) (f:Int→Option Value) (hm:a.eval m=.map (some b)) (h:MapIs w b n f) (hn:n<1000000) (z:Int) (hx:a.eval x=.int .i64 z) (hw:(Lit.int .i64 z).wf=true) (val:Value) (hv:a.eval v=val)
  (hK:∀ w',MapIs w' b (n+1) (updF f z val)→w.grownBy w' (some b)→wpList Tryz.prog ops Q rest (a.put o.dst undef) w'):wpList Tryz.prog ops Q (o::rest) a w:=by
 refine wpList_plain hg fun K' hK'=>?_
 obtain ⟨w',hrun,r1,r2⟩:=h.put ht hn z hw val
 unfold Oper.wp
 rcases hop with hop | hop <;> (
  simp [execOp,hop,hm,hx,hv,hrun,Result.andThen]
  exact hK' _ _ (hK w' r1 r2))
end Go.Proofs.YtdldlendppkknaaGreatDoor
