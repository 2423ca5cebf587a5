/-
  Contracts and plain laws: Told, Fits, GeomOf.
-/
import Derived.Deep.RegionHeld3
import Derived.Deep.DeepCutAuto
import Derived.Test.YtdldlendppkknaaGreatDoorPackV03
namespace Go.Proofs.YtdldlendppkknaaGreatDoor
open Go.RowKit Go.Shelf
set_option linter.unusedVariables false
set_option linter.unusedSimpArgs false
set_option maxRecDepth 100000
attribute [local go_sem] Oper.semAt_some
theorem place_any (b m q r d:Int) (n:Nat) (w:World) (h1:1≤n) (h2:n≤4000000):Calls Tryz.prog 103 #[.agg #[.int .i64 b,.int .i64 m,.int .i64 q,.int .i64 r,.int .i64 3,.int .i64 d],.int .i64 n] w fun e w'=>
  e=.returned (.tuple #[.int .i64 ((3+(n-1) / 2:Nat):Int),.int .i64 (((n-1) % 2 * 64:Nat):Int)])∧Below w.heap.size w w':=by
 obtain ⟨k,rfl⟩:∃ k,n=k+1:=⟨n-1,by omega⟩
 rw [show k+1-1=k from rfl]
 have e1:((k+1:Nat):Int)-1=(k:Int):=by omega
 have HE:=Lib.hid e1
 clear e1
 go_enter Tryz.func103,Tryz.ntmps103
 go_wp2
 go_ret2
 refine ⟨?_,(Below.refl _ _).alloc (Nat.le_refl _) _⟩
 congr 3
theorem fields_any (xb:Nat) (w:World):Calls Tryz.prog 104 #[.pointer (some ⟨xb,0,none⟩)] w fun e w'=>
  e=.returned (.func (.func 173) #[] #[.pointer (some ⟨w.heap.size,0,none⟩)])∧w.alloc (.cells #[.pointer (some ⟨xb,0,none⟩)] 184)=w':=by
 go_enter Tryz.func104,Tryz.ntmps104
 go_wp2
 go_ret
 exact ⟨rfl,rfl⟩
structure ToldI (w:World) (gv gr gk gp gx:Nat) (sl:Value) (k p:Nat) (bs:List UInt8) (pre:List (Fin 12)) (W:World):Prop where
 fv:Blk W gv 24 #[sl]
 fr:Blk W gr 39 (inoC (List.replicate 12 0))
 fk:Blk W gk 3 #[.int .i64 (k:Int)]
 fp:Blk W gp 3 #[.int .i64 ((toldSt bs p pre).1:Int)]
 fx:Blk W gx 39 (inoC (toldSt bs p pre).2)
 below:Below w.heap.size w W
theorem ToldI.own {w:World} {gv gr gk gp gx:Nat} {sl:Value} {k p:Nat} {bs:List UInt8} {B:Nat} (hB:w.heap.size≤B):OwnFrom B (fun pre W=>ToldI w gv gr gk gp gx sl k p bs pre W):=fun s X Y row hs hg hr=>
 have hr':∀ r,row=some r→∃ o:Obj,X.heap[r]?=some o∧o.isCells=false:=fun r e=>(hr r e).2
 ⟨Blk.own gv _ (fun _=>_) s X Y row hs.fv hg hr',Blk.own gr _ (fun _=>_) s X Y row hs.fr hg hr',Blk.own gk _ (fun _=>_) s X Y row hs.fk hg hr',Blk.own gp _ (fun _=>_) s X Y row hs.fp hg hr',Blk.own gx _ (fun _=>_) s X Y row hs.fx hg hr',ownFrom_below (Nat.le_refl _) hB s X Y row hs.below hg hr⟩
theorem ToldI.later {w:World} {gv gr gk gp gx:Nat} {sl:Value} {k p:Nat} {bs:List UInt8} {pre:List (Fin 12)} {X Y:World} (h:ToldI w gv gr gk gp gx sl k p bs pre X) (hb:Below X.heap.size X Y):ToldI w gv gr gk gp gx sl k p bs pre Y:=
 ⟨h.fv.below hb h.fv.lt,h.fr.below hb h.fr.lt,h.fk.below hb h.fk.lt,h.fp.below hb h.fp.lt,h.fx.below hb h.fx.lt,h.below.trans (hb.mono h.below.size)⟩
theorem Blk.ne {w:World} {g g':Nat} {t t':TypeId} {cs cs':Array Value} (h:Blk w g t cs) (h':Blk w g' t' cs') (hne:t≠t'):g≠g':=by
 rintro rfl
 unfold Blk at h h'
 rw [h] at h'
 injection h' with h'
 injection h' with _ h2
 exact hne h2
set_option maxHeartbeats 4000000 in
theorem told_any (A:Option Addr) (c:Nat) (xs:List ByteArray) (b m q r d:Int) (n:Nat) (w:World) (hx:xs.length≤1000000) (h1:1≤n) (h2:3+(n-1) / 2<xs.length) (hs:(xs.getD (3+(n-1) / 2) ⟨#[]⟩).size=128) (h:RowAt w w.heap.size A (xs.map .string)) :
  Calls Tryz.prog 43 #[.slice A xs.length c,.agg #[.int .i64 b,.int .i64 m,.int .i64 q,.int .i64 r,.int .i64 3,.int .i64 d],.int .i64 n] w fun e w'=>
   e=.returned (.agg (inoC (inoR (blkL xs (3+(n-1) / 2)) ((n-1) % 2 * 64))))∧Below w.heap.size w w':=by
 obtain ⟨k,hk⟩:∃ k,3+(n-1) / 2=k:=⟨_,rfl⟩
 obtain ⟨p,hp⟩:∃ p,(n-1) % 2 * 64=p:=⟨_,rfl⟩
 have PL:=Lib.hid (place_any b m q r d n)
 rw [hk,hp] at PL
 rw [hk] at h2 hs ⊢
 rw [hp]
 have hp64:p≤64:=by omega
 have hn:n≤4000000:=by omega
 obtain ⟨bb,oo,rfl,hbb,hc⟩:=row_get h k h2
 unfold blkL
 generalize xs.getD k ⟨#[]⟩=s at hs hc ⊢
 clear h hk hp
 refine (callsIn_wide (n:=4)).1 ?_
 refine callsIn_of_wp_marks Tryz.func43 rfl trivial ?_
 simp only [Tryz.ntmps43,List.size_toArray,List.length_cons,List.length_nil,Nat.reduceAdd,Nat.reduceSub,Array.replicate_succ,Array.replicate_zero,List.push_toArray,List.append_toArray,List.nil_append,List.cons_append]
 refine wpIn_wide.2 ?_
 go_wp2_with fail
 refine (PL.out _ h1 hn).mono ?_
 rintro e w1 ⟨rfl,hb1⟩
 have B1:Hid (Below w.heap.size w w1):=((((Below.refl w.heap.size w).alloc (Nat.le_refl _) _).alloc (by simp) _).alloc (by simp;omega) _).trans (hb1.mono (by simp;omega))
 have G3:Hid (Blk w1 w.heap.size 24 #[.slice (some ⟨bb,oo,none⟩) xs.length c]):=by
  refine Blk.below ?_ hb1 (by simp;omega)
  exact ((Blk.new w _ _).alloc _).alloc _
 have G6:Hid (Blk w1 (w.heap.size+1+1) 39 (inoC (List.replicate 12 0))):=by
  refine Blk.below ?_ hb1 (by simp)
  have:=Blk.new ((w.alloc (.cells #[.slice (some ⟨bb,oo,none⟩) xs.length c] 24)).alloc (.cells #[.int .i64 b,.int .i64 m,.int .i64 q,.int .i64 r,.int .i64 3,.int .i64 d] 51)) 39 (inoC (List.replicate 12 0))
  simp only [World.size_alloc] at this
  exact this
 have hz1:=B1.out.size
 clear hb1 PL
 have hgr:w.heap.size+1+1<w1.heap.size∧w.heap.size≤w.heap.size+1+1:=⟨G6.out.lt,by omega⟩
 generalize w.heap.size+1+1=gr at *
 go_wp2_with fail
 refine (fields_any _ _).mono ?_
 rintro e w' ⟨rfl,rfl⟩
 go_wp2_with fail
 obtain ⟨W0,hW0⟩:∃ W0,((((w1.alloc (Obj.cells #[Value.int IntKind.i64 ↑k] 3)).alloc (Obj.cells #[Value.int IntKind.i64 ↑p] 3)).alloc (.cells (inoC (List.replicate 12 0)) 39)).alloc (.cells #[.pointer (some ⟨w1.heap.size+1+1,0,none⟩)] 184))=W0:=⟨_,rfl⟩
 have hI0:ToldI w w.heap.size gr w1.heap.size (w1.heap.size+1) (w1.heap.size+1+1) (.slice (some ⟨bb,oo,none⟩) xs.length c) k p s.data.toList [] W0:=by
  rw [← hW0]
  refine ⟨(((G3.out.alloc _).alloc _).alloc _).alloc _,(((G6.out.alloc _).alloc _).alloc _).alloc _,(((Blk.new w1 _ _).alloc _).alloc _).alloc _,?_,?_,((((B1.out.alloc hz1 _).alloc (by simp;omega) _).alloc (by simp;omega) _).alloc (by simp;omega) _)⟩
  ·have:=((Blk.new (w1.alloc (Obj.cells #[Value.int IntKind.i64 ↑k] 3)) 3 #[.int .i64 (p:Int)]).alloc (.cells (inoC (List.replicate 12 0)) 39)).alloc (.cells #[.pointer (some ⟨w1.heap.size+1+1,0,none⟩)] 184)
   simp only [World.size_alloc] at this
   exact this
  ·have:=(Blk.new ((w1.alloc (Obj.cells #[Value.int IntKind.i64 ↑k] 3)).alloc (Obj.cells #[Value.int IntKind.i64 ↑p] 3)) 39 (inoC (List.replicate 12 0))).alloc (.cells #[.pointer (some ⟨w1.heap.size+1+1,0,none⟩)] 184)
   simp only [World.size_alloc] at this
   exact this
 have hBn:Blk W0 (w1.heap.size+1+1+1) 184 #[.pointer (some ⟨w1.heap.size+1+1,0,none⟩)]:=by
  rw [← hW0]
  have:=Blk.new (((w1.alloc (Obj.cells #[Value.int IntKind.i64 ↑k] 3)).alloc (Obj.cells #[Value.int IntKind.i64 ↑p] 3)).alloc (.cells (inoC (List.replicate 12 0)) 39)) 184 #[.pointer (some ⟨w1.heap.size+1+1,0,none⟩)]
  simp only [World.size_alloc] at this
  exact this
 have hz0:W0.heap.size=w1.heap.size+4:=by rw [← hW0];simp
 have HI0:=Lib.hid hI0
 have HBn:=Lib.hid hBn
 rw [show ((((w1.alloc (Obj.cells #[Value.int IntKind.i64 ↑k] 3)).alloc (Obj.cells #[Value.int IntKind.i64 ↑p] 3)).alloc (.cells #[.int .i64 0,.int .i64 0,.int .i64 0,.int .i64 0,.int .i64 0,.int .i64 0,.int .i64 0,.int .i64 0,.int .i64 0,.int .i64 0,.int .i64 0,.int .i64 0] 39)).alloc (.cells #[.pointer (some ⟨w1.heap.size+1+1,0,none⟩)] 184))=W0 from hW0]
 clear hI0 hBn hW0 G3 G6 B1
 generalize w1.heap.size=z1 at *
 refine (wpIn_wide (n:=4)).1 ?_
 refine wpIn_rangeFunc_ownH rfl (by omega) (gf:=173) (lb:=#[.pointer (some ⟨z1+1+1+1,0,none⟩)]) rfl trivial (enters_of Tryz.func173 (by kernel_rfl) rfl)
  (fields_stops 3 (by omega) (z1+1+1+1) (z1+1+1) W0 HBn.out)
  (fun h k=>h.trans k) (fun W l o o' _ ho hc _=>KeepT.putObj W l o o' ho hc) (Below.refl _ _) (fun _=>rfl)
  (fun pre W=>ToldI w w.heap.size gr z1 (z1+1) (z1+1+1) (.slice (some ⟨bb,oo,none⟩) xs.length c) k p s.data.toList pre W) (fun _ _ _=>False)
  (ToldI.own (by omega)) (fun _ _ _ _ _ hs _ _=>hs) HI0.out
  (fun x a' W=>∃ Bx,Blk W Bx 187 #[.int .i64 (fsz x:Nat),.pointer (some ⟨z1+1+1,fof x,none⟩)]∧a'={ tmps:=#[Value.slice (some ⟨bb,oo,none⟩) xs.length c,Value.agg #[Value.int IntKind.i64 b,Value.int IntKind.i64 m,Value.int IntKind.i64 q,Value.int IntKind.i64 r,Value.int IntKind.i64 3,Value.int IntKind.i64 d],Value.int IntKind.i64 ↑n,Value.pointer (some ⟨w.heap.size,0,none⟩),Value.pointer (some ⟨w.heap.size+1,0,none⟩),undef,Value.pointer (some ⟨gr,0,none⟩),Value.pointer (some ⟨z1,0,none⟩),Value.pointer (some ⟨z1+1,0,none⟩),Value.pointer (some ⟨z1+1+1,0,none⟩),.pointer (some ⟨Bx,0,none⟩),Value.tuple #[Value.int IntKind.i64 ↑k,Value.int IntKind.i64 ↑p],Value.agg #[Value.int IntKind.i64 b,Value.int IntKind.i64 m,Value.int IntKind.i64 q,Value.int IntKind.i64 r,Value.int IntKind.i64 3,Value.int IntKind.i64 d],Value.int IntKind.i64 ↑n,Value.tuple #[Value.int IntKind.i64 ↑k,Value.int IntKind.i64 ↑p],Value.int IntKind.i64 ↑k,Value.int IntKind.i64 ↑p,Value.func (Fn.func 173) #[] #[Value.pointer (some ⟨z1+1+1+1,0,none⟩)],.agg #[.int .i64 (fsz x:Nat),.pointer (some ⟨z1+1+1,fof x,none⟩)],undef,undef,undef,undef,undef,undef,undef,undef,undef,undef,undef,undef,undef,undef,undef,undef,undef,undef,undef,undef],defers:=[] })
  (fun x a' s X Y row hs hg hr=>by obtain ⟨Bx,h1,h2⟩:=hs;exact ⟨Bx,Blk.own Bx _ (fun (_:Unit)=>_) s X Y row h1 hg (fun r e=>(hr r e).2),h2⟩)
  ?assign ?body ?done ?stop
 case assign=>
  rintro l pre x W K hi hK
  dsimp only [fieldV]
  gi_wp2
  exact hK _ _ ((KeepsOthers.alloc _ _).from _) (KeepT.alloc _ _) (hi.later ((Below.refl _ _).alloc (Nat.le_refl _) _)) ⟨W.heap.size,Blk.new W _ _,rfl⟩
 case body=>
  rintro l pre x a' W hl ⟨r0,hr0⟩ hi ⟨Bx,bX,rfl⟩ hlt
  have hat:=toldSt_at s.data.toList p pre
  have hsz:=fsz_le x
  have hsp:=fsz_pos x
  have HF:=Lib.hid (fof_lt x)
  have HI:=Lib.hid hi
  have HS:=Lib.hid (toldSt_snoc s.data.toList p pre x)
  have HL:=Lib.hid (toldSt_len s.data.toList p pre)
  obtain ⟨v,hv⟩:∃ v,numAt s.data.toList (toldSt s.data.toList p pre).1 (fsz x)=v:=⟨_,rfl⟩
  have hvl:v<4294967296:=by rw [← hv];exact Nat.lt_of_lt_of_le (numAt_lt _ _ _) (Nat.pow_le_pow_right (n:=256) (by omega) hsz)
  rw [hv] at HS
  have HV:=Lib.hid hv
  have BX:=Lib.hid bX
  have P:=Lib.hid hi.fp
  have X:=Lib.hid hi.fx
  clear hv hi bX hr0
  generalize (toldSt s.data.toList p pre).2=old at *
  generalize (toldSt s.data.toList p pre).1=at_ at *
  generalize fsz x=z at *
  generalize fof x=f at *
  have u1:∀ u:Ext W,u.val.cell? ⟨Bx,1,none⟩=some (.pointer (some ⟨z1+1+1,f,none⟩)):=fun u=>u.cell (BX.out.cell 1 rfl)
  have u2:∀ u:Ext W,u.val.cell? ⟨Bx,0,none⟩=some (.int .i64 (z:Int)):=fun u=>u.cell (BX.out.cell 0 rfl)
  have u3:∀ u:Ext W,u.val.cell? ⟨w.heap.size,0,none⟩=some (.slice (some ⟨bb,oo,none⟩) xs.length c):=fun u=>u.cell (HI.out.fv.cell 0 rfl)
  have u4:∀ u:Ext W,u.val.cell? ⟨z1,0,none⟩=some (.int .i64 (k:Int)):=fun u=>u.cell (HI.out.fk.cell 0 rfl)
  have u5:∀ u:Ext W,u.val.cell? ⟨z1+1,0,none⟩=some (.int .i64 (at_:Int)):=fun u=>u.cell (P.out.cell 0 rfl)
  have u6:∀ u:Ext W,u.val.cell? ⟨bb,oo+k,none⟩=some (.string s):=fun u=>u.cell ((HI.out.below.cell (p:=⟨bb,oo+k,none⟩) hbb).trans hc)
  have CG:Hid (∀ u:Ext W,Calls Tryz.prog 52 #[.string (s.extract at_ (at_+z))] u.val fun e w'=>e=.returned (.int .u64 (v:Int))∧u.val=w'):=fun u=>by
   have:=get_any (s.extract at_ (at_+z)) u.val (by rw [ByteArray.size_extract];omega)
   rw [show leN ((s.extract at_ (at_+z)).data.toList.take 8)=v from ?_] at this
   ·exact this
   ·rw [← HV.out]
    unfold numAt
    rw [Lib.extract_data,Nat.add_sub_cancel_left,List.take_take,Nat.min_eq_right (by omega)]
  have s1:IntKind.i64.wrap ((at_:Int)+(z:Int))=(at_:Int)+(z:Int):=IntWalk.i64_in _ (by omega)
  have s2:(0:Int)≤(at_:Int)+(z:Int):=by omega
  have s3:((at_:Int)+(z:Int)).toNat=at_+z:=by omega
  have s4:IntKind.i64.wrap (v:Int)=(v:Int):=IntWalk.i64_in _ (by omega)
  have s5:(k:Int)<(xs.length:Int):=by omega
  have s6:(0:Int)≤(k:Int):=by omega
  have s7:(0:Int)≤(at_:Int):=by omega
  have s8:(at_:Int)≤(at_:Int)+(z:Int):=by omega
  have s9:(at_:Int)+(z:Int)≤(s.size:Int):=by omega
  gi_wp2_with fail
  refine wpIn_round_tail 15 (by kernel_rfl) (by kernel_rfl) (by kernel_rfl) ?_
  simp only [List.take_succ_cons,List.take_zero,List.drop_succ_cons,List.drop_zero]
  repeat (go_big_quiet_step (first
   | (go_at_call 52;with_reducible exact Ext.call_same (CG.out _))))
  refine wpQuiet_nil ?_
  rintro _ ⟨u,rfl⟩
  have hI2:=Lib.hid (HI.out.later u.below)
  have BX2:=Lib.hid (BX.out.below u.below BX.out.lt)
  have X2:=Lib.hid (X.out.below u.below X.out.lt)
  have P2:=Lib.hid (P.out.below u.below P.out.lt)
  have UB:=Lib.hid u.below
  generalize u.val=W2 at *
  clear u1 u2 u3 u4 u5 u6 CG
  have x1:∃ y,W2.cell? ⟨z1+1+1,f,none⟩=some y:=⟨_,X2.out.cell f (Array.getElem?_eq_getElem (by unfold inoC;simp;rw [HL.out];exact HF.out))⟩
  obtain ⟨y,x1⟩:=x1
  have x2:W2.frozen? ⟨z1+1+1,f,none⟩=false:=X2.out.frozen f
  go_wp2_with fail
  refine ⟨by simp,?_⟩
  generalize hW3:W2.setCell _ _=W3
  have hg3:W2.grownBy W3 (some (z1+1+1)):=hW3▸only_setCell (World.grownBy.refl W2 _) f _
  have X3:Hid (Blk W3 (z1+1+1) 39 (inoC (old.set f v))):=by rw [inoC_set];exact hW3▸X2.out.set_ f _
  have P3:=Lib.hid (P2.out.grown hg3 (by intro e;have:=Option.some.inj e;omega))
  have BX3:=Lib.hid (BX2.out.grown hg3 (by intro e;exact BX2.out.ne X2.out (by decide) (Option.some.inj e)))
  have V3:=Lib.hid (hI2.out.fv.grown hg3 (by intro e;exact hI2.out.fv.ne X2.out (by decide) (Option.some.inj e)))
  have R3:=Lib.hid (hI2.out.fr.grown hg3 (by intro e;have:=Option.some.inj e;omega))
  have K3:=Lib.hid (hI2.out.fk.grown hg3 (by intro e;have:=Option.some.inj e;omega))
  have B3:=Lib.hid (hI2.out.below.grown hg3 hI2.out.below.size (fun j e=>by have:=Option.some.inj e;omega))
  have E3:Hid (KeepT keepTy W W3):=(KeepT.below UB.out).trans (KeepT.grown hg3 (fun r e=>by cases e;exact .inr ⟨_,_,X2.out,rfl⟩))
  have O3:Hid (KeepsOthers W W3):=(keeps_below UB.out).trans (by rw [← hW3];exact KeepsOthers.setCell _ _ _)
  clear hW3 hg3 x1 x2 X2 P2 BX2 hI2 UB s1 s2 s3 s4 s5 s6 s7 s8 s9
  have p1:W3.cell? ⟨z1+1,0,none⟩=some (.int .i64 (at_:Int)):=P3.out.cell 0 rfl
  have p2:W3.frozen? ⟨z1+1,0,none⟩=false:=P3.out.frozen 0
  have p3:W3.cell? ⟨Bx,0,none⟩=some (.int .i64 (z:Int)):=BX3.out.cell 0 rfl
  gi_wp2
  have hg4:W3.grownBy (W3.setCell ⟨z1+1,0,none⟩ (.int .i64 ((at_:Int)+(z:Int)))) (some (z1+1)):=only_setCell (World.grownBy.refl W3 _) 0 _
  refine ⟨(O3.out.trans (KeepsOthers.setCell _ _ _)).from _,E3.out.trans (KeepT.set_ P3.out rfl 0 _),?_⟩
  refine ⟨V3.out.grown hg4 (by intro e;exact V3.out.ne P3.out (by decide) (Option.some.inj e)),R3.out.grown hg4 (by intro e;have:=Option.some.inj e;omega),K3.out.grown hg4 (by intro e;have:=Option.some.inj e;omega),?_,?_,B3.out.grown hg4 B3.out.size (fun j e=>by have:=Option.some.inj e;omega)⟩
  ·rw [HS.out]
   have:=P3.out.set_ 0 (.int .i64 ((at_:Int)+(z:Int)))
   simpa using this
  ·rw [HS.out]
   exact X3.out.grown hg4 (by intro e;have:=Option.some.inj e;omega)
 case done=>
  rintro D ys W hD rfl hi hK
  have HI:=Lib.hid hi
  have HK:=Lib.hid hK
  clear hi hK
  go_wp2_with (first
   | (refine load_blk 39 (.tmp 9) (z1+1+1) 39 (inoC (toldSt s.data.toList p allF).2) _ rfl rfl rfl HI.out.fx Tryz.underlying39 rfl (by rw [inoC_size,toldSt_len];kernel_rfl) ?_)
   | (refine store_blk 39 (.tmp 6) (.tmp 38) gr 39 (inoC (List.replicate 12 0)) (inoC (toldSt s.data.toList p allF).2) rfl rfl rfl rfl HI.out.fr (by rw [inoC_size,inoC_size,toldSt_len];rfl) (by rw [inoC_size,toldSt_len];kernel_rfl) (inoC_one _) ?_;intro W2 hr2 hg2))
  have hK2:W2.heap[D]?=some (.deferred (some [])):=(hg2.block D (Array.getElem?_eq_some_iff.1 HK.out).1 (by intro e;have:=Option.some.inj e;omega)).trans HK.out
  have hB2:Below w.heap.size w W2:=HI.out.below.grown hg2 HI.out.below.size (fun j e=>by have:=Option.some.inj e;omega)
  have hr3:Blk (W2.putObj D (.deferred none)) gr 39 (inoC (inoR s.data.toList p)):=by
   rw [← toldSt_all]
   exact hr2.grown (grownBy_putObj' W2 D _) (by intro e;have:=Option.some.inj e;omega)
  refine ⟨by simp,.inl ⟨_,_,rfl,run_takeDeferred hK2,?_⟩⟩
  refine ⟨_,results_cell_row rfl _ _ gr _ _ (0,0) _ rfl hr3 Tryz.underlying39 rfl (by rw [inoC_size];kernel_rfl),rfl,?_⟩
  exact hB2.trans (belowK_b (w:=W0) (by omega) W2 D _ _ (by omega) hK2 rfl rfl)
 case stop=>
  rintro D c pre W _ _ h _
  exact h.elim
attribute [local go_sem] Oper.semAt_some
def intC (l:List Int):Array Value:=(l.map fun k:Int=>Value.int .i64 k).toArray
theorem intC_size (l:List Int):(intC l).size=l.length:=by unfold intC;simp
def fitB (l:List Int) (i:Fin 12):Bool:=decide (0≤l.getD (fof i) 0∧l.getD (fof i) 0<256 ^ fsz i)
def fitsR (l:List Int):Bool:=allF.all (fitB l)
structure FitI (w:World) (gx gr:Nat) (l:List Int) (pre:List (Fin 12)) (W:World):Prop where
 fx:Blk W gx 39 (intC l)
 fr:Blk W gr 4 #[.bool false]
 ok:pre.all (fitB l)=true
 below:Below w.heap.size w W
structure FitX (w:World) (gr:Nat) (l:List Int) (W:World):Prop where
 fr:Blk W gr 4 #[.bool false]
 no:fitsR l=false
 below:Below w.heap.size w W
theorem FitI.own {w:World} {gx gr:Nat} {l:List Int} {B:Nat} (hB:w.heap.size≤B):OwnFrom B (fun pre W=>FitI w gx gr l pre W):=fun s X Y row hs hg hr=>
 have hr':∀ r,row=some r→∃ o:Obj,X.heap[r]?=some o∧o.isCells=false:=fun r e=>(hr r e).2
 ⟨Blk.own gx _ (fun _=>_) s X Y row hs.fx hg hr',Blk.own gr _ (fun _=>_) s X Y row hs.fr hg hr',hs.ok,ownFrom_below (Nat.le_refl _) hB s X Y row hs.below hg hr⟩
theorem FitX.own {w:World} {gr:Nat} {l:List Int} {B:Nat} (hB:w.heap.size≤B):OwnFrom B (fun (_:List (Fin 12)) W=>FitX w gr l W):=fun s X Y row hs hg hr=>
 have hr':∀ r,row=some r→∃ o:Obj,X.heap[r]?=some o∧o.isCells=false:=fun r e=>(hr r e).2
 ⟨Blk.own gr _ (fun _=>_) s X Y row hs.fr hg hr',hs.no,ownFrom_below (Nat.le_refl _) hB s X Y row hs.below hg hr⟩
theorem FitI.later {w:World} {gx gr:Nat} {l:List Int} {pre:List (Fin 12)} {X Y:World} (h:FitI w gx gr l pre X) (hb:Below X.heap.size X Y):FitI w gx gr l pre Y:=
 ⟨h.fx.below hb h.fx.lt,h.fr.below hb h.fr.lt,h.ok,h.below.trans (hb.mono h.below.size)⟩
theorem fits_of_bad {l:List Int} {i:Fin 12} (h:fitB l i=false):fitsR l=false:=by
 unfold fitsR
 rw [List.all_eq_false]
 refine ⟨i,?_,by simp [h]⟩
 have:∀ i:Fin 12,i ∈ allF:=by decide
 exact this i
theorem fsz_cases:∀ i,fsz i=1∨fsz i=2∨fsz i=4:=by decide
set_option maxHeartbeats 4000000 in
theorem fits_any (l:List Int) (w:World) (hl:l.length=12) (hr:∀ z ∈ l,-9223372036854775808≤z∧z≤9223372036854775807) :
  Calls Tryz.prog 127 #[.agg (intC l)] w fun e w'=>e=.returned (.bool (fitsR l))∧Below w.heap.size w w':=by
 have HL:=Lib.hid hl
 have HR:Hid (∀ i:Fin 12,∃ z,l.getD (fof i) 0=z∧l[fof i]?=some z ∧ -9223372036854775808≤z∧z≤9223372036854775807):=fun i=>by
  have hi:fof i<l.length:=by rw [hl];exact fof_lt i
  refine ⟨l[fof i],by simp [List.getD,hi],by simp [hi],hr _ (List.getElem_mem hi)⟩
 clear hl hr
 refine (callsIn_wide (n:=4)).1 ?_
 refine callsIn_of_wp_marks Tryz.func127 rfl trivial ?_
 simp only [Tryz.ntmps127,List.size_toArray,List.length_cons,List.length_nil,Nat.reduceAdd,Nat.reduceSub,Array.replicate_succ,Array.replicate_zero,List.push_toArray,List.append_toArray,List.nil_append,List.cons_append]
 refine wpIn_wide.2 ?_
 go_wp2_with fail
 refine (fields_any _ _).mono ?_
 rintro e w' ⟨rfl,rfl⟩
 go_wp2_with fail
 obtain ⟨W0,hW0⟩:∃ W0,((w.alloc (Obj.cells (intC l) 39)).alloc (Obj.cells #[Value.bool false] 4)).alloc (.cells #[.pointer (some ⟨w.heap.size,0,none⟩)] 184)=W0:=⟨_,rfl⟩
 have HI0:Hid (FitI w w.heap.size (w.heap.size+1) l [] W0):=by
  rw [← hW0]
  refine ⟨((Blk.new w _ _).alloc _).alloc _,?_,rfl,(((Below.refl w.heap.size w).alloc (Nat.le_refl _) _).alloc (by simp) _).alloc (by simp;omega) _⟩
  have:=(Blk.new (w.alloc (Obj.cells (intC l) 39)) 4 #[.bool false]).alloc (.cells #[.pointer (some ⟨w.heap.size,0,none⟩)] 184)
  simp only [World.size_alloc] at this
  exact this
 have HBn:Hid (Blk W0 (w.heap.size+1+1) 184 #[.pointer (some ⟨w.heap.size,0,none⟩)]):=by
  rw [← hW0]
  have:=(Blk.new ((w.alloc (Obj.cells (intC l) 39)).alloc (Obj.cells #[Value.bool false] 4)) 184 #[.pointer (some ⟨w.heap.size,0,none⟩)])
  simp only [World.size_alloc] at this
  exact this
 have hz0:W0.heap.size=w.heap.size+3:=by rw [← hW0];simp
 rw [hW0]
 clear hW0
 refine (wpIn_wide (n:=4)).1 ?_
 refine wpIn_rangeFunc_ownH rfl (by omega) (gf:=173) (lb:=#[.pointer (some ⟨w.heap.size+1+1,0,none⟩)]) rfl trivial (enters_of Tryz.func173 (by kernel_rfl) rfl)
  (fields_stops 3 (by omega) (w.heap.size+1+1) w.heap.size W0 HBn.out)
  (fun h k=>h.trans k) (fun W l o o' _ ho hc _=>KeepT.putObj W l o o' ho hc) (Below.refl _ _) (fun _=>rfl)
  (fun pre W=>FitI w w.heap.size (w.heap.size+1) l pre W) (fun c _ W=>c=.ret∧FitX w (w.heap.size+1) l W)
  (FitI.own (by omega)) (fun c s X Y row hs hg hr=>⟨hs.1,FitX.own (by omega) s X Y row hs.2 hg hr⟩) HI0.out
  (fun x a' W=>∃ Bx,Blk W Bx 187 #[.int .i64 (fsz x:Nat),.pointer (some ⟨w.heap.size,fof x,none⟩)]∧a'={ tmps:=#[Value.agg (intC l),Value.pointer (some ⟨w.heap.size,0,none⟩),Value.pointer (some ⟨w.heap.size+1,0,none⟩),.pointer (some ⟨Bx,0,none⟩),Value.func (Fn.func 173) #[] #[Value.pointer (some ⟨w.heap.size+1+1,0,none⟩)],.agg #[.int .i64 (fsz x:Nat),.pointer (some ⟨w.heap.size,fof x,none⟩)],undef,undef,undef,undef,undef,undef,undef,undef,undef,undef,undef,undef,undef,undef,undef,undef,undef],defers:=[] })
  (fun x a' s X Y row hs hg hr=>by obtain ⟨Bx,h1,h2⟩:=hs;exact ⟨Bx,Blk.own Bx _ (fun (_:Unit)=>_) s X Y row h1 hg (fun r e=>(hr r e).2),h2⟩)
  ?assign ?body ?done ?stop
 case assign=>
  rintro l pre x W K hi hK
  dsimp only [fieldV]
  gi_wp2
  exact hK _ _ ((KeepsOthers.alloc _ _).from _) (KeepT.alloc _ _) (hi.later ((Below.refl _ _).alloc (Nat.le_refl _) _)) ⟨W.heap.size,Blk.new W _ _,rfl⟩
 case body=>
  rintro lp pre x a' W hlp ⟨r0,hr0⟩ hi ⟨Bx,bX,rfl⟩ hlt
  obtain ⟨v,hv,hg,hv1,hv2⟩:=HR.out x
  have HI:=Lib.hid hi
  have BX:=Lib.hid bX
  have HX:Hid (Blk W w.heap.size 39 (intC l)):=hi.fx
  have u3:∀ u:Ext W,u.val.cell? ⟨w.heap.size,fof x,none⟩=some (.int .i64 v):=fun u=>u.cell (HX.out.cell (fof x) (by unfold intC;simp [hg]))
  have HFB:Hid (fitB l x=decide (0≤v∧v<256 ^ fsz x)):=by show fitB l x=_;unfold fitB;rw [hv]
  have HC:=fsz_cases x
  clear hr0 hi bX hv hg
  generalize fsz x=z at *
  generalize fof x=f at *
  have u1:∀ u:Ext W,u.val.cell? ⟨Bx,1,none⟩=some (.pointer (some ⟨w.heap.size,f,none⟩)):=fun u=>u.cell (BX.out.cell 1 rfl)
  have u2:∀ u:Ext W,u.val.cell? ⟨Bx,0,none⟩=some (.int .i64 (z:Int)):=fun u=>u.cell (BX.out.cell 0 rfl)
  by_cases hneg:v<0
  ·have HNO:Hid (fitB l x=false):=by show _=_;rw [HFB.out];simp;omega
   clear HC
   gi_wp2_with fail
   refine wpIn_round_ext (by kernel_rfl) (by kernel_rfl) (by kernel_rfl) ?_
   repeat (go_big_quiet_step (fail))
   refine wpQuiet_nil ?_
   rintro _ ⟨u,rfl⟩
   have HI2:=Lib.hid (HI.out.later u.below)
   have UB:=Lib.hid u.below
   generalize u.val=W2 at *
   clear u1 u2 u3
   have c1:W2.cell? ⟨w.heap.size+1,0,none⟩=some (.bool false):=HI2.out.fr.cell 0 rfl
   have c2:W2.frozen? ⟨w.heap.size+1,0,none⟩=false:=HI2.out.fr.frozen 0
   gi_wp2
   exact ⟨((keeps_below UB.out).trans (KeepsOthers.setCell _ _ _)).from _,rfl,HI2.out.fr.set_ 0 _,fits_of_bad HNO.out,HI2.out.below.setCell (by simp) _⟩
  ·have w1:IntKind.u64.wrap v=v:=IntWalk.u64_in _ (by omega)
   have hneg':decide (v<0)=false:=by simpa using hneg
   rcases HC with rfl | rfl | rfl
   ·by_cases hfit:v<256
    ·have t1:(v / 256 != 0)=false:=by simp;omega
     have HYES:Hid (fitB l x=true):=by show _=_;rw [HFB.out];simp;omega
     gi_wp2_with fail
     refine wpIn_round_ext (by kernel_rfl) (by kernel_rfl) (by kernel_rfl) ?_
     repeat (go_big_quiet_step (fail))
     refine wpQuiet_nil ?_
     rintro _ ⟨u,rfl⟩
     have HI2:=Lib.hid (HI.out.later u.below)
     have UB:=Lib.hid u.below
     generalize u.val=W2 at *
     clear u1 u2 u3
     gi_wp2
     exact ⟨(keeps_below UB.out).from _,KeepT.below UB.out,HI2.out.fx,HI2.out.fr,by rw [List.all_append,HI2.out.ok];simp [HYES.out],HI2.out.below⟩
    ·have t1:(v / 256 != 0)=true:=by simp;omega
     have HNO:Hid (fitB l x=false):=by show _=_;rw [HFB.out];simp;omega
     gi_wp2_with fail
     refine wpIn_round_ext (by kernel_rfl) (by kernel_rfl) (by kernel_rfl) ?_
     repeat (go_big_quiet_step (fail))
     refine wpQuiet_nil ?_
     rintro _ ⟨u,rfl⟩
     have HI2:=Lib.hid (HI.out.later u.below)
     have UB:=Lib.hid u.below
     generalize u.val=W2 at *
     clear u1 u2 u3
     have c1:W2.cell? ⟨w.heap.size+1,0,none⟩=some (.bool false):=HI2.out.fr.cell 0 rfl
     have c2:W2.frozen? ⟨w.heap.size+1,0,none⟩=false:=HI2.out.fr.frozen 0
     gi_wp2
     exact ⟨((keeps_below UB.out).trans (KeepsOthers.setCell _ _ _)).from _,rfl,HI2.out.fr.set_ 0 _,fits_of_bad HNO.out,HI2.out.below.setCell (by simp) _⟩
   ·by_cases hfit:v<65536
    ·have t1:(v / 65536 != 0)=false:=by simp;omega
     have HYES:Hid (fitB l x=true):=by show _=_;rw [HFB.out];simp;omega
     gi_wp2_with fail
     refine wpIn_round_ext (by kernel_rfl) (by kernel_rfl) (by kernel_rfl) ?_
     repeat (go_big_quiet_step (fail))
     refine wpQuiet_nil ?_
     rintro _ ⟨u,rfl⟩
     have HI2:=Lib.hid (HI.out.later u.below)
     have UB:=Lib.hid u.below
     generalize u.val=W2 at *
     clear u1 u2 u3
     gi_wp2
     exact ⟨(keeps_below UB.out).from _,KeepT.below UB.out,HI2.out.fx,HI2.out.fr,by rw [List.all_append,HI2.out.ok];simp [HYES.out],HI2.out.below⟩
    ·have t1:(v / 65536 != 0)=true:=by simp;omega
     have HNO:Hid (fitB l x=false):=by show _=_;rw [HFB.out];simp;omega
     gi_wp2_with fail
     refine wpIn_round_ext (by kernel_rfl) (by kernel_rfl) (by kernel_rfl) ?_
     repeat (go_big_quiet_step (fail))
     refine wpQuiet_nil ?_
     rintro _ ⟨u,rfl⟩
     have HI2:=Lib.hid (HI.out.later u.below)
     have UB:=Lib.hid u.below
     generalize u.val=W2 at *
     clear u1 u2 u3
     have c1:W2.cell? ⟨w.heap.size+1,0,none⟩=some (.bool false):=HI2.out.fr.cell 0 rfl
     have c2:W2.frozen? ⟨w.heap.size+1,0,none⟩=false:=HI2.out.fr.frozen 0
     gi_wp2
     exact ⟨((keeps_below UB.out).trans (KeepsOthers.setCell _ _ _)).from _,rfl,HI2.out.fr.set_ 0 _,fits_of_bad HNO.out,HI2.out.below.setCell (by simp) _⟩
   ·by_cases hfit:v<4294967296
    ·have t1:(v / 4294967296 != 0)=false:=by simp;omega
     have HYES:Hid (fitB l x=true):=by show _=_;rw [HFB.out];simp;omega
     gi_wp2_with fail
     refine wpIn_round_ext (by kernel_rfl) (by kernel_rfl) (by kernel_rfl) ?_
     repeat (go_big_quiet_step (fail))
     refine wpQuiet_nil ?_
     rintro _ ⟨u,rfl⟩
     have HI2:=Lib.hid (HI.out.later u.below)
     have UB:=Lib.hid u.below
     generalize u.val=W2 at *
     clear u1 u2 u3
     gi_wp2
     exact ⟨(keeps_below UB.out).from _,KeepT.below UB.out,HI2.out.fx,HI2.out.fr,by rw [List.all_append,HI2.out.ok];simp [HYES.out],HI2.out.below⟩
    ·have t1:(v / 4294967296 != 0)=true:=by simp;omega
     have HNO:Hid (fitB l x=false):=by show _=_;rw [HFB.out];simp;omega
     gi_wp2_with fail
     refine wpIn_round_ext (by kernel_rfl) (by kernel_rfl) (by kernel_rfl) ?_
     repeat (go_big_quiet_step (fail))
     refine wpQuiet_nil ?_
     rintro _ ⟨u,rfl⟩
     have HI2:=Lib.hid (HI.out.later u.below)
     have UB:=Lib.hid u.below
     generalize u.val=W2 at *
     clear u1 u2 u3
     have c1:W2.cell? ⟨w.heap.size+1,0,none⟩=some (.bool false):=HI2.out.fr.cell 0 rfl
     have c2:W2.frozen? ⟨w.heap.size+1,0,none⟩=false:=HI2.out.fr.frozen 0
     gi_wp2
     exact ⟨((keeps_below UB.out).trans (KeepsOthers.setCell _ _ _)).from _,rfl,HI2.out.fr.set_ 0 _,fits_of_bad HNO.out,HI2.out.below.setCell (by simp) _⟩
 case done=>
  rintro D ys W hD rfl hi hK
  have HI:=Lib.hid hi
  have HK:=Lib.hid hK
  have c1:W.cell? ⟨w.heap.size+1,0,none⟩=some (.bool false):=hi.fr.cell 0 rfl
  have c2:W.frozen? ⟨w.heap.size+1,0,none⟩=false:=hi.fr.frozen 0
  clear hi hK
  go_wp2
  obtain ⟨W2,hW2⟩:∃ W2,W.setCell ⟨w.heap.size+1,0,none⟩ (.bool true)=W2:=⟨_,rfl⟩
  have hg2:W.grownBy W2 (some (w.heap.size+1)):=hW2▸only_setCell (World.grownBy.refl W _) 0 _
  have hr2:Blk W2 (w.heap.size+1) 4 #[.bool true]:=hW2▸HI.out.fr.set_ 0 _
  have hK2:W2.heap[D]?=some (.deferred (some [])):=(hg2.block D (Array.getElem?_eq_some_iff.1 HK.out).1 (by intro e;have:=Option.some.inj e;omega)).trans HK.out
  have hB2:Below w.heap.size w W2:=HI.out.below.grown hg2 HI.out.below.size (fun j e=>by have:=Option.some.inj e;omega)
  have hr3:Blk (W2.putObj D (.deferred none)) (w.heap.size+1) 4 #[.bool true]:=hr2.grown (grownBy_putObj' W2 D _) (by intro e;have:=Option.some.inj e;omega)
  rw [hW2]
  refine ⟨by simp,.inl ⟨_,_,rfl,run_takeDeferred hK2,?_⟩⟩
  have hok:fitsR l=true:=HI.out.ok
  refine ⟨.bool true,?_,by rw [hok],hB2.trans (belowK_b (w:=W0) (by omega) W2 D _ _ (by omega) hK2 rfl rfl)⟩
  have c3:=hr3.cell 0 rfl
  simp [results,Tryz.results127,go_sem,c3]
 case stop=>
  rintro D c pre W hD _ ⟨rfl,hx⟩ hK
  refine wpIn_wide.2 ?_
  go_wp2
  have hr3:Blk (W.putObj D (.deferred none)) (w.heap.size+1) 4 #[.bool false]:=hx.fr.grown (grownBy_putObj' W D _) (by intro e;have:=Option.some.inj e;omega)
  refine ⟨by simp,.inl ⟨_,_,rfl,run_takeDeferred hK,?_⟩⟩
  refine ⟨.bool false,?_,by rw [hx.no],hx.below.trans (belowK_b (w:=W0) (by omega) W D _ _ (by omega) hK rfl rfl)⟩
  have c3:=hr3.cell 0 rfl
  simp [results,Tryz.results127,go_sem,c3]
open Go.RowKit
def bloN (xs:List ByteArray):Nat:=leN (((blkL xs 0).drop 4).take 2)
theorem leN_two (l:List UInt8):leN (l.take 2)<65536:=by
 have h:=leN_lt (l.take 2)
 have h2:(l.take 2).length≤2:=by simp;omega
 have h3:256 ^ (l.take 2).length≤256 ^ 2:=Nat.pow_le_pow_right (by omega) h2
 omega
theorem vol_blo {xs:List ByteArray} {m:Nat} (h:IsVol xs m):bloN xs=xs.length:=by
 have hl:=h.len
 unfold bloN blkL
 rw [h.2.2.1]
 show leN (((headL xs.length m).toArray.toList.drop 4).take 2)=_
 rw [List.toList_toArray,head_blocks _ _ (by omega)]
theorem get_two (s:ByteArray) (k:Nat) (w:World) (hk:k+2≤s.size) (hs:s.size≤1000000):Calls Tryz.prog 52 #[.string (s.extract k (k+2))] w fun e w'=>e=.returned (.int .u64 (leN ((s.data.toList.drop k).take 2)))∧w=w':=by
 refine (get_any _ w (by simp [ByteArray.size_extract];omega)).mono ?_
 rintro e w' ⟨rfl,rfl⟩
 refine ⟨?_,rfl⟩
 rw [Lib.extract_data,show k+2-k=2 by omega,List.take_take];rfl
theorem or_bad {xs:List ByteArray} {i:Nat} (hi:i<1024) (h:i<dataN (inoN xs)∧bitL (blkL xs 2) i=false∨xs.length≤i∧bitL (blkL xs 2) i=true):ofR xs=none:=by
 apply ofR_none.2
 intro hv
 have:=bitsOk_iff.1 hv.2.2.2 i hi
 rcases h with ⟨a,b⟩ | ⟨a,b⟩
 ·rw [this.1 a] at b;cases b
 ·rw [this.2 a] at b;cases b
set_option maxHeartbeats 8000000 in
theorem of_good (A:Option Addr) (c:Nat) (xs:List ByteArray) (w:World) (hx:xs.length≤1000000) (h:RowAt w w.heap.size A (xs.map .string)) (hn:∀ s ∈ xs,s.size=128) :
  Calls Tryz.prog 17 #[.slice A xs.length c] w (OfPost xs w):=by
 have HR:=Lib.hid h
 have HN:=Lib.hid hn
 have HS:Hid (∀ j (hj:j<xs.length),xs[j].size=128):=fun j hj=>HN.out _ (List.getElem_mem hj)
 have HB:=Lib.hid (fun (o:Obj)=>(Below.refl w.heap.size w).alloc (Nat.le_refl _) o)
 clear h hn
 go_enter Tryz.func17,Tryz.ntmps17
 go_wp2
 go_loop [12] (fun i=>∃ k:Nat,k≤xs.length∧i=.int .i64 k) (fun i=>xs.length-(intOf i).toNat)
 case atStart=>exact ⟨0,Nat.zero_le _,rfl⟩
 case round=>
  obtain ⟨k,hk,rfl⟩:=hrel
  by_cases hlt:k<xs.length
  ·obtain ⟨b,o,rfl,hb,hc⟩:=row_get HR.out k hlt
   rw [getD_eq xs k hlt] at hc
   have hc1:(w.alloc (.cells #[.int .i64 0,.int .i64 0,.int .i64 0,.int .i64 0,.int .i64 0,.int .i64 0] 51)).cell? ⟨b,o+k,none⟩=some (.string xs[k]):=((HB.out _).cell (p:=⟨b,o+k,none⟩) hb).trans hc
   have h1:((xs[k].size:Int) != 128)=false:=by simp [HS.out k hlt]
   clear hc
   go_wp2
   go_round
   case rel=>exact ⟨k+1,by omega,by go_num⟩
   case measure=>simp [intOf];omega
  ·generalize hw1:w.alloc _=w1
   have G2:Hid (Blk w1 w.heap.size 51 #[.int .i64 0,.int .i64 0,.int .i64 0,.int .i64 0,.int .i64 0,.int .i64 0]):=hw1▸Blk.new _ _ _
   have B:Hid (Below w.heap.size w w1):=hw1▸HB.out _
   clear hw1 HB
   by_cases h16:xs.length<16
   ·have HO:=Lib.hid (show ofR xs=none from ofR_none.2 fun hv=>by have:=hv.len;omega)
    have h16':(xs.length:Int)<16:=by omega
    have p0:w1.cell? ⟨w.heap.size,0,none⟩=some (.int .i64 0):=G2.out.cell 0 rfl
    have f0:w1.frozen? ⟨w.heap.size,0,none⟩=false:=G2.out.frozen 0
    have p1:w1.cell? ⟨w.heap.size,1,none⟩=some (.int .i64 0):=G2.out.cell 1 rfl
    have f1:w1.frozen? ⟨w.heap.size,1,none⟩=false:=G2.out.frozen 1
    have p2:w1.cell? ⟨w.heap.size,2,none⟩=some (.int .i64 0):=G2.out.cell 2 rfl
    have f2:w1.frozen? ⟨w.heap.size,2,none⟩=false:=G2.out.frozen 2
    have p3:w1.cell? ⟨w.heap.size,3,none⟩=some (.int .i64 0):=G2.out.cell 3 rfl
    have f3:w1.frozen? ⟨w.heap.size,3,none⟩=false:=G2.out.frozen 3
    have p4:w1.cell? ⟨w.heap.size,4,none⟩=some (.int .i64 0):=G2.out.cell 4 rfl
    have f4:w1.frozen? ⟨w.heap.size,4,none⟩=false:=G2.out.frozen 4
    have p5:w1.cell? ⟨w.heap.size,5,none⟩=some (.int .i64 0):=G2.out.cell 5 rfl
    have f5:w1.frozen? ⟨w.heap.size,5,none⟩=false:=G2.out.frozen 5
    go_wp2
    refine bodyPost_ret (results_ct rfl rfl rfl ((((((G2.out.set_ 0 _).set_ 1 _).set_ 2 _).set_ 3 _).set_ 4 _).set_ 5 _) Tryz.underlying51 rfl (by kernel_rfl)) rfl ?_
    exact of_none HO.out (((((((B.out.setCell (Nat.le_refl _) _).setCell (Nat.le_refl _) _).setCell (Nat.le_refl _) _).setCell (Nat.le_refl _) _).setCell (Nat.le_refl _) _).setCell (Nat.le_refl _) _))
   ·have h16':¬ (xs.length:Int)<16:=by omega
    obtain ⟨b,o,rfl,hb,hc0⟩:=row_get HR.out 0 (by omega)
    obtain ⟨_,_,e2,_,hc2⟩:=row_get HR.out 2 (by omega)
    cases e2
    have hS0:=HS.out 0 (by omega)
    have HE0:Hid (blkL xs 0=(xs.getD 0 ⟨#[]⟩).data.toList):=rfl
    rw [← getD_eq xs 0 (by omega)] at hS0
    generalize hs0:xs.getD 0 ⟨#[]⟩=s0 at hS0 hc0 HE0
    rw [Nat.add_zero] at hc0
    have HS0:=Lib.hid hs0
    have z0:(6:Int)≤(s0.size:Int):=by omega
    have z1:(8:Int)≤(s0.size:Int):=by omega
    have z2:(0:Int)<(xs.length:Int):=by omega
    have z3:0<xs.length:=by omega
    have z4:¬ xs=[]:=by rintro rfl;simp at z3
    obtain ⟨bn,hbn⟩:∃ n,bloN xs=n:=⟨_,rfl⟩
    obtain ⟨mn,hmn⟩:∃ n,inoN xs=n:=⟨_,rfl⟩
    have c1:∀ w,Calls Tryz.prog 52 #[.string (s0.extract 4 6)] w fun e w'=>e=.returned (.int .u64 bn)∧w=w':=fun w=>by
     rw [← hbn];unfold bloN;rw [HE0.out];exact get_two s0 4 w (by omega) (by omega)
    have c2:∀ w,Calls Tryz.prog 52 #[.string (s0.extract 6 8)] w fun e w'=>e=.returned (.int .u64 mn)∧w=w':=fun w=>by
     rw [← hmn];unfold inoN;rw [HE0.out];exact get_two s0 6 w (by omega) (by omega)
    have hb6:bn<65536:=by rw [← hbn];exact leN_two _
    have hm6:mn<65536:=by rw [← hmn];exact leN_two _
    have wr1:IntKind.i64.wrap (bn:Int)=(bn:Int):=IntWalk.i64_in _ (by omega)
    have wr2:IntKind.i64.wrap (mn:Int)=(mn:Int):=IntWalk.i64_in _ (by omega)
    have HBN:=Lib.hid hbn
    have HMN:=Lib.hid hmn
    have C1:=Lib.hid c1
    have C2:=Lib.hid c2
    have hbw:b<w1.heap.size:=Nat.lt_of_lt_of_le hb B.out.size
    have HC0:Hid (w1.cell? ⟨b,o,none⟩=some (.string s0)):=(B.out.cell (p:=⟨b,o,none⟩) hb).trans hc0
    have u0:∀ u:Ext w1,u.val.cell? ⟨b,o,none⟩=some (.string s0):=fun u=>u.cell HC0.out
    have KS:Hid (∀ w',Below w1.heap.size w1 w'→w'.cell? ⟨b,o,none⟩=some (.string s0)):=fun w' hb'=>(hb'.cell (p:=⟨b,o,none⟩) hbw).trans HC0.out
    have hcw:=HC0.out
    clear c1 c2 hbn hmn hs0 hc0 hc2
    by_cases hpl:planE (bn:Int) (mn:Int)=0
    case neg=>
     have HO:=Lib.hid (show ofR xs=none from ofR_none.2 fun hv=>hpl (by
      rw [← HBN.out,vol_blo hv,← HMN.out];exact hv.2.1))
     obtain ⟨pe,hpe⟩:∃ e,planE (bn:Int) (mn:Int)=e:=⟨_,rfl⟩
     have c3:∀ w,Calls Tryz.prog 51 #[.int .i64 bn,.int .i64 mn] w fun e w'=>e=.returned (.tuple #[.agg #[.int .i64 0,.int .i64 0,.int .i64 0,.int .i64 0,.int .i64 0,.int .i64 0],.int .i64 pe])∧Below w.heap.size w w':=fun w=>by
      refine (plan_any bn mn w).mono ?_
      rintro e w' ⟨rfl,hb⟩
      refine ⟨?_,hb⟩
      unfold planC
      rw [if_neg hpl,hpe];rfl
     have C3:=Lib.hid c3
     have hpe':(pe != 0)=true:=by rw [hpe] at hpl;simpa using hpl
     clear c3 hpe hpl
     go_upto_region 9 with fail
     go_cut [6,7] (fun s6 s7 wx=>∃ g:Nat,s6=.pointer (some ⟨g,0,none⟩)∧s7=.int .i64 pe∧Hid (Blk wx g 51 #[.int .i64 0,.int .i64 0,.int .i64 0,.int .i64 0,.int .i64 0,.int .i64 0])∧Hid (Below w1.heap.size w1 wx))
     case first=>
      go_region_held3 (fun w'=>w'.cell? ⟨b,o,none⟩=some (.string s0)) (first | (with_reducible assumption) | (refine KS.out _ ?_;(repeat (first | (with_reducible exact Below.refl _ _) | (with_reducible exact KB.out) | (with_reducible refine Below.drew ?_) | ((with_reducible refine Below.setCell ?_ ?_ _);rotate_left;(first | exact Nat.le_refl _ | omega | (simp;done) | (simp;omega))) | ((with_reducible refine Below.alloc ?_ ?_ _);rotate_left;(first | exact Nat.le_refl _ | omega | (simp;done) | (simp;omega)))))))
       (first
        | (go_at_call 52;with_reducible refine (C1.out _).mono ?_;rintro e w' ⟨rfl,rfl⟩)
        | (go_at_call 52;with_reducible refine (C2.out _).mono ?_;rintro e w' ⟨rfl,rfl⟩)
        | (go_at_call 51;with_reducible refine (C3.out _).mono ?_;rintro e w6 ⟨rfl,hb6⟩;have kb:Below w1.heap.size w1 w6:=Below.trans (B:=w1.heap.size) (by (repeat (first | (with_reducible exact Below.refl _ _) | (with_reducible exact KB.out) | (with_reducible refine Below.drew ?_) | ((with_reducible refine Below.setCell ?_ ?_ _);rotate_left;(first | exact Nat.le_refl _ | omega | (simp;done) | (simp;omega))) | ((with_reducible refine Below.alloc ?_ ?_ _);rotate_left;(first | exact Nat.le_refl _ | omega | (simp;done) | (simp;omega)))))) (hb6.mono (by first | exact Nat.le_refl _ | (simp;done) | (simp;omega)));have KB:=Lib.hid kb;have hz6:w1.heap.size≤w6.heap.size:=kb.size;clear kb;have hS6:w6.cell? ⟨b,o,none⟩=some (.string s0):=KS.out _ KB.out;(try ((with_reducible have GB:=Lib.hid (((Blk.new w1 51 #[.int .i64 0,.int .i64 0,.int .i64 0,.int .i64 0,.int .i64 0,.int .i64 0]).drew).below hb6 (by simp)));have p0:=GB.out.cell 0 (v:=.int .i64 0) rfl;have p1:=GB.out.cell 1 (v:=.int .i64 0) rfl;have p2:=GB.out.cell 2 (v:=.int .i64 0) rfl;have p3:=GB.out.cell 3 (v:=.int .i64 0) rfl;have p4:=GB.out.cell 4 (v:=.int .i64 0) rfl;have p5:=GB.out.cell 5 (v:=.int .i64 0) rfl;have f0:=GB.out.frozen 0;have f1:=GB.out.frozen 1;have f2:=GB.out.frozen 2;have f3:=GB.out.frozen 3;have f4:=GB.out.frozen 4;have f5:=GB.out.frozen 5));clear hb6))
      all_goals (go_wp2_with fail;go_meet;first | exact ⟨w1.heap.size,rfl,rfl,Lib.hid ((((((GB.out.set_ 0 _).set_ 1 _).set_ 2 _).set_ 3 _).set_ 4 _).set_ 5 _),Lib.hid ((((((KB.out.setCell (Nat.le_refl _) _).setCell (Nat.le_refl _) _).setCell (Nat.le_refl _) _).setCell (Nat.le_refl _) _).setCell (Nat.le_refl _) _).setCell (Nat.le_refl _) _)⟩ | exact ⟨w6.heap.size,rfl,rfl,Lib.hid (Blk.new w6 _ _),Lib.hid (KB.out.alloc hz6 _)⟩)
     case rest=>
      obtain ⟨g6,rfl,rfl,G6,B6⟩:=hcut
      have G2:=Lib.hid (G2.out.below B6.out G2.out.lt)
      have B:=Lib.hid (B.out.trans (B6.out.mono B.out.size))
      clear KS hcw u0 C1 C2 C3
      go_upto_region 10 with fail
      refine wp_region_ext (by kernel_rfl) (by kernel_rfl) ?_
      repeat (go_big_quiet_step (fail))
      refine wpQuiet_nil ?_
      rintro _ ⟨u,rfl⟩
      have G2:=Lib.hid (G2.out.below u.below G2.out.lt)
      have B:=Lib.hid (B.out.trans (u.below.mono B.out.size))
      generalize u.val=w7 at G2 B
      have p0:w7.cell? ⟨w.heap.size,0,none⟩=some (.int .i64 0):=G2.out.cell 0 rfl
      have f0:w7.frozen? ⟨w.heap.size,0,none⟩=false:=G2.out.frozen 0
      have p1:w7.cell? ⟨w.heap.size,1,none⟩=some (.int .i64 0):=G2.out.cell 1 rfl
      have f1:w7.frozen? ⟨w.heap.size,1,none⟩=false:=G2.out.frozen 1
      have p2:w7.cell? ⟨w.heap.size,2,none⟩=some (.int .i64 0):=G2.out.cell 2 rfl
      have f2:w7.frozen? ⟨w.heap.size,2,none⟩=false:=G2.out.frozen 2
      have p3:w7.cell? ⟨w.heap.size,3,none⟩=some (.int .i64 0):=G2.out.cell 3 rfl
      have f3:w7.frozen? ⟨w.heap.size,3,none⟩=false:=G2.out.frozen 3
      have p4:w7.cell? ⟨w.heap.size,4,none⟩=some (.int .i64 0):=G2.out.cell 4 rfl
      have f4:w7.frozen? ⟨w.heap.size,4,none⟩=false:=G2.out.frozen 4
      have p5:w7.cell? ⟨w.heap.size,5,none⟩=some (.int .i64 0):=G2.out.cell 5 rfl
      have f5:w7.frozen? ⟨w.heap.size,5,none⟩=false:=G2.out.frozen 5
      go_wp2
      refine bodyPost_ret (results_ct rfl rfl rfl ((((((G2.out.set_ 0 _).set_ 1 _).set_ 2 _).set_ 3 _).set_ 4 _).set_ 5 _) Tryz.underlying51 rfl (by kernel_rfl)) rfl ?_
      exact of_none HO.out (((((((B.out.setCell (Nat.le_refl _) _).setCell (Nat.le_refl _) _).setCell (Nat.le_refl _) _).setCell (Nat.le_refl _) _).setCell (Nat.le_refl _) _).setCell (Nat.le_refl _) _))
    case pos=>
     have HPL:=Lib.hid hpl
     have hp:=planE_iff.1 hpl
     obtain ⟨d,hd⟩:∃ d:Nat,dataN mn=d:=⟨_,rfl⟩
     have hdi:(3:Int)+((mn:Int)+1) / 2=(d:Int):=by unfold dataN at hd;omega
     have c3:∀ w,Calls Tryz.prog 51 #[.int .i64 bn,.int .i64 mn] w fun e w'=>e=.returned (.tuple #[.agg #[.int .i64 bn,.int .i64 mn,.int .i64 1,.int .i64 2,.int .i64 3,.int .i64 d],.int .i64 0])∧Below w.heap.size w w':=fun w=>by
      refine (plan_any bn mn w).mono ?_
      rintro e w' ⟨rfl,hb⟩
      refine ⟨?_,hb⟩
      unfold planC geomC
      rw [if_pos hpl,hpl,hdi]
     have C3:=Lib.hid c3
     have HD:=Lib.hid hd
     rw [hd] at hp
     have HP:=Lib.hid hp
     clear c3 hpl hd hdi hp
     go_upto_region 9 with fail
     go_cut [6,7] (fun s6 s7 wx=>∃ g:Nat,s6=.pointer (some ⟨g,0,none⟩)∧s7=.int .i64 0∧Hid (Blk wx g 51 #[.int .i64 bn,.int .i64 mn,.int .i64 1,.int .i64 2,.int .i64 3,.int .i64 d])∧Hid (Below w1.heap.size w1 wx))
     case first=>
      go_region_held3 (fun w'=>w'.cell? ⟨b,o,none⟩=some (.string s0)) (first | (with_reducible assumption) | (refine KS.out _ ?_;(repeat (first | (with_reducible exact Below.refl _ _) | (with_reducible exact KB.out) | (with_reducible refine Below.drew ?_) | ((with_reducible refine Below.setCell ?_ ?_ _);rotate_left;(first | exact Nat.le_refl _ | omega | (simp;done) | (simp;omega))) | ((with_reducible refine Below.alloc ?_ ?_ _);rotate_left;(first | exact Nat.le_refl _ | omega | (simp;done) | (simp;omega)))))))
       (first
        | (go_at_call 52;with_reducible refine (C1.out _).mono ?_;rintro e w' ⟨rfl,rfl⟩)
        | (go_at_call 52;with_reducible refine (C2.out _).mono ?_;rintro e w' ⟨rfl,rfl⟩)
        | (go_at_call 51;with_reducible refine (C3.out _).mono ?_;rintro e w6 ⟨rfl,hb6⟩;have kb:Below w1.heap.size w1 w6:=Below.trans (B:=w1.heap.size) (by (repeat (first | (with_reducible exact Below.refl _ _) | (with_reducible exact KB.out) | (with_reducible refine Below.drew ?_) | ((with_reducible refine Below.setCell ?_ ?_ _);rotate_left;(first | exact Nat.le_refl _ | omega | (simp;done) | (simp;omega))) | ((with_reducible refine Below.alloc ?_ ?_ _);rotate_left;(first | exact Nat.le_refl _ | omega | (simp;done) | (simp;omega)))))) (hb6.mono (by first | exact Nat.le_refl _ | (simp;done) | (simp;omega)));have KB:=Lib.hid kb;have hz6:w1.heap.size≤w6.heap.size:=kb.size;clear kb;have hS6:w6.cell? ⟨b,o,none⟩=some (.string s0):=KS.out _ KB.out;(try ((with_reducible have GB:=Lib.hid (((Blk.new w1 51 #[.int .i64 0,.int .i64 0,.int .i64 0,.int .i64 0,.int .i64 0,.int .i64 0]).drew).below hb6 (by simp)));have p0:=GB.out.cell 0 (v:=.int .i64 0) rfl;have p1:=GB.out.cell 1 (v:=.int .i64 0) rfl;have p2:=GB.out.cell 2 (v:=.int .i64 0) rfl;have p3:=GB.out.cell 3 (v:=.int .i64 0) rfl;have p4:=GB.out.cell 4 (v:=.int .i64 0) rfl;have p5:=GB.out.cell 5 (v:=.int .i64 0) rfl;have f0:=GB.out.frozen 0;have f1:=GB.out.frozen 1;have f2:=GB.out.frozen 2;have f3:=GB.out.frozen 3;have f4:=GB.out.frozen 4;have f5:=GB.out.frozen 5));clear hb6))
      all_goals (go_wp2_with fail;go_meet;first | exact ⟨w1.heap.size,rfl,rfl,Lib.hid ((((((GB.out.set_ 0 _).set_ 1 _).set_ 2 _).set_ 3 _).set_ 4 _).set_ 5 _),Lib.hid ((((((KB.out.setCell (Nat.le_refl _) _).setCell (Nat.le_refl _) _).setCell (Nat.le_refl _) _).setCell (Nat.le_refl _) _).setCell (Nat.le_refl _) _).setCell (Nat.le_refl _) _)⟩ | exact ⟨w6.heap.size,rfl,rfl,Lib.hid (Blk.new w6 _ _),Lib.hid (KB.out.alloc hz6 _)⟩)
     case rest=>
      obtain ⟨g6,rfl,rfl,G6,B6⟩:=hcut
      have G2:=Lib.hid (G2.out.below B6.out G2.out.lt)
      have B:=Lib.hid (B.out.trans (B6.out.mono B.out.size))
      have HCW:=Lib.hid (KS.out _ B6.out)
      have HR2:=Lib.hid ((HR.out.below B.out).mono B.out.size)
      clear KS hcw u0 C1 C2 C3
      have v0:∀ u:Ext wc,u.val.cell? ⟨b,o,none⟩=some (.string s0):=fun u=>u.cell HCW.out
      have x0:∀ u:Ext wc,u.val.cell? ⟨g6,0,none⟩=some (.int .i64 bn):=fun u=>u.cell (G6.out.cell 0 rfl)
      have x1:∀ u:Ext wc,u.val.cell? ⟨g6,1,none⟩=some (.int .i64 mn):=fun u=>u.cell (G6.out.cell 1 rfl)
      have x2:∀ u:Ext wc,u.val.cell? ⟨g6,2,none⟩=some (.int .i64 1):=fun u=>u.cell (G6.out.cell 2 rfl)
      have x3:∀ u:Ext wc,u.val.cell? ⟨g6,3,none⟩=some (.int .i64 2):=fun u=>u.cell (G6.out.cell 3 rfl)
      have x4:∀ u:Ext wc,u.val.cell? ⟨g6,4,none⟩=some (.int .i64 3):=fun u=>u.cell (G6.out.cell 4 rfl)
      have x5:∀ u:Ext wc,u.val.cell? ⟨g6,5,none⟩=some (.int .i64 d):=fun u=>u.cell (G6.out.cell 5 rfl)
      have C4:Hid (∀ w,Calls Tryz.prog 53 #[.agg #[.int .i64 bn,.int .i64 mn,.int .i64 1,.int .i64 2,.int .i64 3,.int .i64 d]] w fun e w'=>e=.returned (.string (headB bn mn))∧Below w.heap.size w w'):=fun w=>first_any bn mn 1 2 3 d w (by omega) (by omega)
      by_cases hlen:bn=xs.length
      case neg=>
       have HO:=Lib.hid (show ofR xs=none from ofR_none.2 fun hv=>hlen (by rw [← HBN.out,vol_blo hv]))
       have t1:((bn:Int) != (xs.length:Int))=true:=by simp;omega
       clear hlen
       go_upto_region 10 with fail
       refine wp_region_ext (by kernel_rfl) (by kernel_rfl) ?_
       repeat (go_big_quiet_step (fail))
       refine wpQuiet_nil ?_
       rintro _ ⟨u,rfl⟩
       have G2:=Lib.hid (G2.out.below u.below G2.out.lt)
       have B:=Lib.hid (B.out.trans (u.below.mono B.out.size))
       clear v0 x0 x1 x2 x3 x4 x5
       generalize u.val=w7 at G2 B
       have p0:w7.cell? ⟨w.heap.size,0,none⟩=some (.int .i64 0):=G2.out.cell 0 rfl
       have f0:w7.frozen? ⟨w.heap.size,0,none⟩=false:=G2.out.frozen 0
       have p1:w7.cell? ⟨w.heap.size,1,none⟩=some (.int .i64 0):=G2.out.cell 1 rfl
       have f1:w7.frozen? ⟨w.heap.size,1,none⟩=false:=G2.out.frozen 1
       have p2:w7.cell? ⟨w.heap.size,2,none⟩=some (.int .i64 0):=G2.out.cell 2 rfl
       have f2:w7.frozen? ⟨w.heap.size,2,none⟩=false:=G2.out.frozen 2
       have p3:w7.cell? ⟨w.heap.size,3,none⟩=some (.int .i64 0):=G2.out.cell 3 rfl
       have f3:w7.frozen? ⟨w.heap.size,3,none⟩=false:=G2.out.frozen 3
       have p4:w7.cell? ⟨w.heap.size,4,none⟩=some (.int .i64 0):=G2.out.cell 4 rfl
       have f4:w7.frozen? ⟨w.heap.size,4,none⟩=false:=G2.out.frozen 4
       have p5:w7.cell? ⟨w.heap.size,5,none⟩=some (.int .i64 0):=G2.out.cell 5 rfl
       have f5:w7.frozen? ⟨w.heap.size,5,none⟩=false:=G2.out.frozen 5
       go_wp2
       refine bodyPost_ret (results_ct rfl rfl rfl ((((((G2.out.set_ 0 _).set_ 1 _).set_ 2 _).set_ 3 _).set_ 4 _).set_ 5 _) Tryz.underlying51 rfl (by kernel_rfl)) rfl ?_
       exact of_none HO.out (((((((B.out.setCell (Nat.le_refl _) _).setCell (Nat.le_refl _) _).setCell (Nat.le_refl _) _).setCell (Nat.le_refl _) _).setCell (Nat.le_refl _) _).setCell (Nat.le_refl _) _))
      have HLEN:=Lib.hid hlen
      have t1:((bn:Int) != (xs.length:Int))=false:=by simp;omega
      clear hlen
      by_cases hfi:s0=headB bn mn
      case neg=>
       have HO:=Lib.hid (show ofR xs=none from ofR_none.2 fun hv=>hfi (by rw [← HS0.out,hv.2.2.1,HMN.out,HLEN.out]))
       have t2:=str_ne hfi
       clear hfi
       go_upto_region 10 with fail
       refine wp_region_ext (by kernel_rfl) (by kernel_rfl) ?_
       repeat (go_big_quiet_step (first
        | (go_at_call 53;with_reducible exact Ext.call (C4.out _))))
       refine wpQuiet_nil ?_
       rintro _ ⟨u,rfl⟩
       have G2:=Lib.hid (G2.out.below u.below G2.out.lt)
       have B:=Lib.hid (B.out.trans (u.below.mono B.out.size))
       clear v0 x0 x1 x2 x3 x4 x5
       generalize u.val=w7 at G2 B
       have p0:w7.cell? ⟨w.heap.size,0,none⟩=some (.int .i64 0):=G2.out.cell 0 rfl
       have f0:w7.frozen? ⟨w.heap.size,0,none⟩=false:=G2.out.frozen 0
       have p1:w7.cell? ⟨w.heap.size,1,none⟩=some (.int .i64 0):=G2.out.cell 1 rfl
       have f1:w7.frozen? ⟨w.heap.size,1,none⟩=false:=G2.out.frozen 1
       have p2:w7.cell? ⟨w.heap.size,2,none⟩=some (.int .i64 0):=G2.out.cell 2 rfl
       have f2:w7.frozen? ⟨w.heap.size,2,none⟩=false:=G2.out.frozen 2
       have p3:w7.cell? ⟨w.heap.size,3,none⟩=some (.int .i64 0):=G2.out.cell 3 rfl
       have f3:w7.frozen? ⟨w.heap.size,3,none⟩=false:=G2.out.frozen 3
       have p4:w7.cell? ⟨w.heap.size,4,none⟩=some (.int .i64 0):=G2.out.cell 4 rfl
       have f4:w7.frozen? ⟨w.heap.size,4,none⟩=false:=G2.out.frozen 4
       have p5:w7.cell? ⟨w.heap.size,5,none⟩=some (.int .i64 0):=G2.out.cell 5 rfl
       have f5:w7.frozen? ⟨w.heap.size,5,none⟩=false:=G2.out.frozen 5
       go_wp2
       refine bodyPost_ret (results_ct rfl rfl rfl ((((((G2.out.set_ 0 _).set_ 1 _).set_ 2 _).set_ 3 _).set_ 4 _).set_ 5 _) Tryz.underlying51 rfl (by kernel_rfl)) rfl ?_
       exact of_none HO.out (((((((B.out.setCell (Nat.le_refl _) _).setCell (Nat.le_refl _) _).setCell (Nat.le_refl _) _).setCell (Nat.le_refl _) _).setCell (Nat.le_refl _) _).setCell (Nat.le_refl _) _))
      have HFI:=Lib.hid hfi
      have t2:(!s0.toList == (headB bn mn).toList)=false:=by rw [hfi];simp
      clear hfi
      go_upto_region 10 with fail
      refine wp_region_ext (by kernel_rfl) (by kernel_rfl) ?_
      repeat (go_big_quiet_step (first
       | (go_at_call 53;with_reducible exact Ext.call (C4.out _))))
      refine wpQuiet_nil ?_
      rintro _ ⟨u,rfl⟩
      have G2:=Lib.hid (G2.out.below u.below G2.out.lt)
      have G6:=Lib.hid (G6.out.below u.below G6.out.lt)
      have HR3:=Lib.hid ((HR2.out.below u.below).mono u.below.size)
      have B:=Lib.hid (B.out.trans (u.below.mono B.out.size))
      clear v0 x0 x1 x2 x3 x4 x5 t1 t2
      generalize u.val=w7 at G2 B G6 HR3
      have C5:Hid (∀ i:Nat,i<1024→Calls Tryz.prog 54 #[.slice (some ⟨b,o,none⟩) xs.length c,.int .i64 i] w7 fun e w'=>e=.returned (.bool (bitL (blkL xs 2) i))∧w7=w'):=fun i hi=>bit_any _ c xs i w7 (by omega) hx (by rw [getD_eq xs 2 (by omega)];exact HS.out 2 (by omega)) hi HR3.out
      have p0:w7.cell? ⟨w.heap.size,0,none⟩=some (.int .i64 0):=G2.out.cell 0 rfl
      have f0:w7.frozen? ⟨w.heap.size,0,none⟩=false:=G2.out.frozen 0
      have p1:w7.cell? ⟨w.heap.size,1,none⟩=some (.int .i64 0):=G2.out.cell 1 rfl
      have f1:w7.frozen? ⟨w.heap.size,1,none⟩=false:=G2.out.frozen 1
      have p2:w7.cell? ⟨w.heap.size,2,none⟩=some (.int .i64 0):=G2.out.cell 2 rfl
      have f2:w7.frozen? ⟨w.heap.size,2,none⟩=false:=G2.out.frozen 2
      have p3:w7.cell? ⟨w.heap.size,3,none⟩=some (.int .i64 0):=G2.out.cell 3 rfl
      have f3:w7.frozen? ⟨w.heap.size,3,none⟩=false:=G2.out.frozen 3
      have p4:w7.cell? ⟨w.heap.size,4,none⟩=some (.int .i64 0):=G2.out.cell 4 rfl
      have f4:w7.frozen? ⟨w.heap.size,4,none⟩=false:=G2.out.frozen 4
      have p5:w7.cell? ⟨w.heap.size,5,none⟩=some (.int .i64 0):=G2.out.cell 5 rfl
      have f5:w7.frozen? ⟨w.heap.size,5,none⟩=false:=G2.out.frozen 5
      have y0:w7.cell? ⟨g6,0,none⟩=some (.int .i64 bn):=G6.out.cell 0 rfl
      have y5:w7.cell? ⟨g6,5,none⟩=some (.int .i64 d):=G6.out.cell 5 rfl
      go_wp2
      go_loop [59] (fun i=>∃ k:Nat,k≤1024∧i=.int .i64 k∧Hid (∀ j,j<k→(j<d→bitL (blkL xs 2) j=true)∧(bn≤j→bitL (blkL xs 2) j=false))) (fun i=>1024-(intOf i).toNat)
      case atStart=>exact ⟨0,by omega,rfl,fun j hj=>by omega⟩
      case round=>
       obtain ⟨k,hk,rfl,HK⟩:=hrel
       by_cases hlt2:k<1024
       ·go_wp2_with fail
        refine (C5.out k hlt2).mono ?_
        rintro e w' ⟨rfl,rfl⟩
        cases hbit:bitL (blkL xs 2) k with
        | false=>
         by_cases hkd:k<d
         ·have HO:=Lib.hid (or_bad (xs:=xs) hlt2 (.inl ⟨by rw [HMN.out,HD.out];exact hkd,hbit⟩))
          have s1:decide (k<d)=true:=by simpa using hkd
          clear hbit
          go_wp2
          refine bodyPost_ret (results_ct rfl rfl rfl ((((((G2.out.set_ 0 _).set_ 1 _).set_ 2 _).set_ 3 _).set_ 4 _).set_ 5 _) Tryz.underlying51 rfl (by kernel_rfl)) rfl ?_
          exact of_none HO.out (((((((B.out.setCell (Nat.le_refl _) _).setCell (Nat.le_refl _) _).setCell (Nat.le_refl _) _).setCell (Nat.le_refl _) _).setCell (Nat.le_refl _) _).setCell (Nat.le_refl _) _))
         ·have s1:decide (k<d)=false:=by simpa using hkd
          have HBT:=Lib.hid hbit
          clear hbit
          by_cases hkb:bn≤k
          all_goals
           go_wp2
           go_round
           case rel=>exact ⟨k+1,by omega,by go_num,fun j hj=>by
            by_cases e:j=k
            ·subst e;exact ⟨fun h=>absurd h (by omega),fun _=>HBT.out⟩
            ·exact HK.out j (by omega)⟩
           case measure=>simp [intOf];omega
        | true=>
         have HBT:=Lib.hid hbit
         clear hbit
         by_cases hkb:bn≤k
         ·have HO:=Lib.hid (or_bad (xs:=xs) hlt2 (.inr ⟨by rw [← HLEN.out];exact hkb,HBT.out⟩))
          have s1:decide (k<d)=false:=by have:=HP.out;simp;omega
          have s2:decide (bn≤k)=true:=by simpa using hkb
          go_wp2
          refine bodyPost_ret (results_ct rfl rfl rfl ((((((G2.out.set_ 0 _).set_ 1 _).set_ 2 _).set_ 3 _).set_ 4 _).set_ 5 _) Tryz.underlying51 rfl (by kernel_rfl)) rfl ?_
          exact of_none HO.out (((((((B.out.setCell (Nat.le_refl _) _).setCell (Nat.le_refl _) _).setCell (Nat.le_refl _) _).setCell (Nat.le_refl _) _).setCell (Nat.le_refl _) _).setCell (Nat.le_refl _) _))
         ·have s2:decide (bn≤k)=false:=by simpa using hkb
          by_cases hkd:k<d
          all_goals
           go_wp2
           go_round
           case rel=>exact ⟨k+1,by omega,by go_num,fun j hj=>by
            by_cases e:j=k
            ·subst e;exact ⟨fun _=>HBT.out,fun h=>absurd h (by omega)⟩
            ·exact HK.out j (by omega)⟩
           case measure=>simp [intOf];omega
       ·have HO:Hid (ofR xs=some mn):=ofR_some.2 ⟨HN.out,by rw [← HLEN.out];exact HPL.out,by rw [HS0.out,HFI.out,HLEN.out],by
         rw [bitsOk_iff,HD.out,← HLEN.out]
         intro i hi
         exact HK.out i (by omega)⟩
        have y1:w7.cell? ⟨g6,1,none⟩=some (.int .i64 mn):=G6.out.cell 1 rfl
        have y2:w7.cell? ⟨g6,2,none⟩=some (.int .i64 1):=G6.out.cell 2 rfl
        have y3:w7.cell? ⟨g6,3,none⟩=some (.int .i64 2):=G6.out.cell 3 rfl
        have y4:w7.cell? ⟨g6,4,none⟩=some (.int .i64 3):=G6.out.cell 4 rfl
        go_wp2
        refine bodyPost_ret (results_ct rfl rfl rfl ((((((G2.out.set_ 0 _).set_ 1 _).set_ 2 _).set_ 3 _).set_ 4 _).set_ 5 _) Tryz.underlying51 rfl (by kernel_rfl)) rfl ?_
        unfold OfPost
        rw [HO.out,← HLEN.out]
        unfold ofE
        dsimp only
        rw [HD.out]
        exact ⟨rfl,(((((((B.out.setCell (Nat.le_refl _) _).setCell (Nat.le_refl _) _).setCell (Nat.le_refl _) _).setCell (Nat.le_refl _) _).setCell (Nat.le_refl _) _).setCell (Nat.le_refl _) _))⟩
end Go.Proofs.YtdldlendppkknaaGreatDoor
