/-
  Contracts and plain laws: ExtN, ExtI, ExtB, ExtC, ExtP.
-/
import Derived.Test.YtdldlendppkknaaGreatDoorPackV10
namespace Go.Proofs.YtdldlendppkknaaGreatDoor
open Go.RowKit Go.Shelf
set_option linter.unusedVariables false
set_option linter.unusedSimpArgs false
set_option maxRecDepth 100000
attribute [local go_sem] Oper.semAt_some
def numC (f:Nat→Int) (k:Nat):Array Value:=((List.range 70).map fun j=>Value.int .i64 (if j<k then f j else 0)).toArray
theorem numC_size (f:Nat→Int) (k:Nat):(numC f k).size=70:=by unfold numC;simp
theorem numC_get (f:Nat→Int) (k j:Nat) (hj:j<70):(numC f k)[j]?=some (.int .i64 (if j<k then f j else 0)):=by
 unfold numC
 rw [List.getElem?_toArray,List.getElem?_map,List.getElem?_range hj];rfl
theorem numC_set (f:Nat→Int) (k:Nat):(numC f k).setIfInBounds k (.int .i64 (f k))=numC f (k+1):=by
 apply Array.ext_getElem?
 intro j
 rw [Array.getElem?_setIfInBounds]
 by_cases hj:j<70
 ·rw [numC_get f (k+1) j hj]
  by_cases e:k=j
  ·subst e
   rw [if_pos rfl,if_pos (by rw [numC_size];exact hj),if_pos (by omega)]
  ·rw [if_neg e,numC_get f k j hj]
   by_cases h:j<k
   ·rw [if_pos h,if_pos (by omega)]
   ·rw [if_neg h,if_neg (by omega)]
 ·rw [Array.getElem?_eq_none (by rw [numC_size];omega)]
  by_cases e:k=j
  ·subst e
   rw [if_pos rfl,if_neg (by rw [numC_size];exact hj),Array.getElem?_eq_none (by rw [numC_size];omega)]
  ·rw [if_neg e,Array.getElem?_eq_none (by rw [numC_size];omega)]
theorem numC_one (f:Nat→Int) (k:Nat):∀ v ∈ numC f k,v.oneCell'=true:=by
 intro v hv
 unfold numC at hv
 simp at hv
 obtain ⟨j,_,rfl⟩:=hv
 rfl
theorem numC_zero (f:Nat→Int):numC f 0=Array.replicate 70 (.int .i64 0):=by
 unfold numC
 simp only [Nat.not_lt_zero,if_false]
 rfl
theorem numC_lit (f:Nat→Int):Tryz.zeroCells202=numC f 0:=by
 rw [numC_zero]
 kernel_rfl
theorem seventy_info:(Tryz.prog.info? 202).map (·.size)=some 70:=by kernel_rfl
theorem idx_num (f:Nat→Int) (w:World) (k:Nat) (hk:k<70):(Instr.index 202 (.agg (numC f 70)) (.int .i64 k)).run Tryz.prog w=.ok (.int .i64 (f k)) w:=by
 have h1:(0:Int)≤(k:Int)∧(k:Int)<70:=by omega
 have h2:=numC_get f 70 k hk
 rw [if_pos hk] at h2
 have h3:(numC f 70)[k]'(by rw [numC_size];exact hk)=Value.int .i64 (f k):=by
  rw [Array.getElem?_eq_getElem (by rw [numC_size];exact hk)] at h2
  exact Option.some.inj h2
 unfold Instr.index
 simp [go_sem,run_underlying Tryz.underlying202,h1,hk,h2,h3,numC_size]
section
variable {B:Nat} {g m n:Nat} {V:List ByteArray} {l:List Nat}
def atF (V:List ByteArray) (m:Nat) (l:List Nat) (j:Nat):Int:=atI (atX V m l j)
set_option maxHeartbeats 4000000 in
theorem numbers_any (w:World) (h:FileX B w g m n V l):Calls Tryz.prog 120 #[.pointer (some ⟨g,0,none⟩)] w fun e w'=>e=.returned (.agg (numC (atF V m l) 70))∧Below w.heap.size w w':=by
 have HX:=Lib.hid h
 clear h
 go_enter Tryz.func120,Tryz.ntmps120
 go_wp2_with fail
 rw [numC_lit (atF V m l)]
 obtain ⟨W0,hW0⟩:∃ W0,((w.alloc (.cells (numC (atF V m l) 0) 202)).alloc (.cells (numC (atF V m l) 0) 202))=W0:=⟨_,rfl⟩
 have G0:Hid (Blk W0 w.heap.size 202 (numC (atF V m l) 0)):=hW0▸(Blk.new w _ _).alloc _
 have G1:Hid (Blk W0 (w.heap.size+1) 202 (numC (atF V m l) 0)):=by
  rw [← hW0]
  have:=Blk.new (w.alloc (.cells (numC (atF V m l) 0) 202)) 202 (numC (atF V m l) 0)
  rw [World.size_alloc] at this
  exact this
 have B0:Hid (Below w.heap.size w W0):=hW0▸((Below.refl w.heap.size w).alloc (Nat.le_refl _) _).alloc (by simp) _
 rw [hW0]
 clear hW0
 go_loopw [5] (fun i wr=>∃ (k:Nat),k≤70∧i=.int .i64 k∧Hid (Blk wr (w.heap.size+1) 202 (numC (atF V m l) k))∧Hid (Blk wr w.heap.size 202 (numC (atF V m l) 0))∧Hid (Below w.heap.size w wr)) (fun i _=>70-(intOf i).toNat)
 case atStart=>exact ⟨0,by omega,rfl,G1,G0,B0⟩
 case round=>
  obtain ⟨k,hk,rfl,GK,GR,BK⟩:=hrel
  by_cases hlt:k<70
  ·have CA:=Lib.hid (at_any k wr hlt (HX.out.below BK.out))
   have HF:Hid (atF V m l k=atI (atX V m l k)):=rfl
   rw [← HF.out] at CA
   have HS:=Lib.hid (numC_set (atF V m l) k)
   generalize atF V m l k=v at *
   have i1:(k:Int)<70:=by omega
   have i2:(0:Int)≤(k:Int):=by omega
   go_wp2_with fail
   refine CA.out.mono ?_
   rintro e w1 ⟨rfl,hb1⟩
   have G1:=Lib.hid (GK.out.below hb1 GK.out.lt)
   have G2:=Lib.hid (GR.out.below hb1 GR.out.lt)
   have B1:=Lib.hid (BK.out.trans (hb1.mono BK.out.size))
   have c1:=G1.out.cell k (numC_get _ _ _ hlt)
   have c1f:=G1.out.frozen k
   generalize (if k<k then _ else _:Int)=y at c1
   clear hb1 CA GK GR BK
   go_wp2
   have hgr:=only_setCell (World.grownBy.refl w1 (some (w.heap.size+1))) k (.int .i64 v)
   have G3:Hid (Blk (w1.setCell ⟨w.heap.size+1,k,none⟩ (.int .i64 v)) (w.heap.size+1) 202 (numC (atF V m l) (k+1))):=by rw [← HS.out];exact G1.out.set_ k _
   have G4:=Lib.hid (G2.out.grown hgr (by intro e;have:=Option.some.inj e;omega))
   have B3:=Lib.hid (B1.out.grown hgr B1.out.size (fun j e=>by have:=Option.some.inj e;omega))
   go_roundw
   case rel=>exact ⟨k+1,by omega,by go_num,G3,G4,B3⟩
   case measure=>simp [intOf];omega
  ·obtain rfl:k=70:=by omega
   go_wp2_with (first
    | (refine load_blk 202 (.tmp 3) (w.heap.size+1) 202 (numC (atF V m l) 70) _ rfl rfl rfl GK.out Tryz.underlying202 rfl (by rw [numC_size];exact seventy_info) ?_)
    | (refine store_blk 202 (.tmp 2) (.tmp 14) w.heap.size 202 (numC (atF V m l) 0) (numC (atF V m l) 70) rfl rfl rfl rfl GR.out (by rw [numC_size,numC_size]) (by rw [numC_size];exact seventy_info) (numC_one _ _) ?_;intro w2 hr2 hg2))
   refine bodyPost_ret (results_cell_row rfl _ _ w.heap.size _ _ (0,0) _ rfl hr2 Tryz.underlying202 rfl (by rw [numC_size];exact seventy_info)) rfl ⟨rfl,?_⟩
   exact BK.out.grown hg2 BK.out.size (fun j e=>by have:=Option.some.inj e;omega)
set_option maxHeartbeats 4000000 in
theorem first_file (count:Int) (w:World) (h:FileX B w g m n V l):Calls Tryz.prog 57 #[.pointer (some ⟨g,0,none⟩),.int .i64 count] w fun e w'=>
  ∃ Bl Bc,e=.returned (.func (Fn.func 121) #[] #[.pointer (some ⟨Bl,0,none⟩),.pointer (some ⟨Bc,0,none⟩)])∧w.heap.size≤Bc∧Bc<Bl∧Blk w' Bl 202 (numC (atF V m l) 70)∧Blk w' Bc 3 #[.int .i64 count]∧Below w.heap.size w w':=by
 have HX:=Lib.hid h
 clear h
 have G0:=Lib.hid (Blk.new w 3 #[.int .i64 count])
 have B0:=Lib.hid ((Below.refl w.heap.size w).alloc (Nat.le_refl _) (.cells #[.int .i64 count] 3))
 have CN:=Lib.hid (numbers_any _ (HX.out.below ((Below.refl w.heap.size w).alloc (Nat.le_refl _) (.cells #[.int .i64 count] 3))))
 go_enter Tryz.func57,Tryz.ntmps57
 go_wp2_with fail
 refine CN.out.mono ?_
 rintro e w1 ⟨rfl,hb1⟩
 have G1:=Lib.hid (G0.out.below hb1 G0.out.lt)
 have B1:=Lib.hid (B0.out.trans (hb1.mono B0.out.size))
 have hlt:=G1.out.lt
 clear hb1 CN G0 B0
 go_wp2_with (refine store_blk 202 (.tmp 5) (.tmp 7) w1.heap.size 202 Tryz.zeroCells202 (numC (atF V m l) 70) rfl rfl rfl rfl (Blk.new w1 _ _) (by rw [numC_size];kernel_rfl) (by rw [numC_size];exact seventy_info) (numC_one _ _) ?_;intro w2 hr2 hg2)
 go_ret
 refine ⟨_,_,rfl,Nat.le_refl _,hlt,hr2,(G1.out.alloc _).grown hg2 (by intro e;have:=Option.some.inj e;omega),?_⟩
 exact (B1.out.alloc B1.out.size _).grown hg2 (by simp;omega) (fun j e=>by have:=Option.some.inj e;have:=B1.out.size;omega)
end
attribute [local go_sem] Oper.semAt_some
def KeepB (b:Nat) (W W':World):Prop:=∀ cs t,Blk W b t cs→Blk W' b t cs
theorem KeepB.refl (b:Nat) (W:World):KeepB b W W:=fun _ _ h=>h
theorem KeepB.trans {b:Nat} {A B C:World} (h:KeepB b A B) (k:KeepB b B C):KeepB b A C:=fun cs t hv=>k cs t (h cs t hv)
theorem KeepB.grown {b:Nat} {W W':World} {row:Option Nat} (h:W.grownBy W' row) (hr:some b≠row):KeepB b W W':=fun cs t hv=>hv.grown h hr
theorem KeepB.below {b:Nat} {W W':World} (h:Below W.heap.size W W'):KeepB b W W':=fun cs t hv=>hv.below h hv.lt
theorem KeepB.putObj {b:Nat} (W:World) (l:Nat) (o o':Obj) (h:W.heap[l]?=some o) (ho:o.isCells=false):KeepB b W (W.putObj l o'):=fun cs t hv=>by
 refine hv.grown (grownBy_putObj' W l o') ?_
 intro e
 have e':b=l:=Option.some.inj e
 subst e'
 unfold Blk at hv
 rw [hv] at h
 cases h
 cases ho
def upK (c:Nat):List (Fin 70):=(List.finRange 70).take c
theorem upK_len (c:Nat) (h:c≤70):(upK c).length=c:=by unfold upK;simp [h]
theorem upK_succ (c:Nat) (h:c<70):upK (c+1)=upK c++[⟨c,h⟩]:=by
 unfold upK
 rw [List.take_succ_eq_append_getElem (by simp [h])]
 simp
theorem upK_zero:upK 0=[]:=rfl
set_option maxHeartbeats 4000000 in
theorem first_stops (f:Nat→Int) (c n:Nat) (hc:c≤70) (hn:1≤n) (Bl Bc:Nat) (w:World) (hl:Blk w Bl 202 (numC f 70)) (hb:Blk w Bc 3 #[.int .i64 (c:Int)]) :
  SeqStopsK Fence.wide n Tryz.prog 121 #[.pointer (some ⟨Bl,0,none⟩),.pointer (some ⟨Bc,0,none⟩)] (fun i:Fin 70=>#[.int .i64 (i.1:Int),.int .i64 (f i.1)]) (KeepB Bc) (·=upK c) (fun _=>True) 70 w:=fun l J Jx W hW hJ hJx hY h0=>by
 have HL:=Lib.hid (hl.below hW hl.lt)
 have HB:=Lib.hid (hb.below hW hb.lt)
 have HY:=Lib.hid hY
 have H0:=Lib.hid h0
 clear hY hJ hJx h0 hl hb hW
 refine callsIn_of_wp Tryz.func121 rfl trivial ?_
 simp only [Tryz.ntmps121,List.size_toArray,List.length_cons,List.length_nil,Nat.reduceAdd,Nat.reduceSub,Array.replicate_succ,Array.replicate_zero,List.push_toArray,List.append_toArray,List.nil_append,List.cons_append]
 refine wpIn_wide.2 ?_
 go_wp2_with (refine load_blk 202 (.tmp 1) Bl 202 (numC f 70) _ rfl rfl rfl HL.out Tryz.underlying202 rfl (by rw [numC_size];exact seventy_info) ?_)
 refine (wpIn_wide (n:=n)).1 ?_
 have hidx:=fun (k:Nat) (hk:k<70) (w:World)=>idx_num f w k hk
 have HI:=Lib.hid hidx
 clear hidx HL
 gi_loopw [7] (fun i wr=>∃ k:Nat,k≤c∧i=.int .i64 k∧Hid (J (upK k) wr)∧Hid (KeepB Bc W wr)) (fun i _=>70-(intOf i).toNat)
 case atStart=>exact ⟨0,by omega,rfl,H0,Lib.hid (KeepB.refl _ _)⟩
 case round=>
  obtain ⟨k,hk,rfl,JK,KK⟩:=hrel
  have cb:wr.cell? ⟨Bc,0,none⟩=some (.int .i64 (c:Int)):=(KK.out _ _ HB.out).cell 0 rfl
  by_cases h70:k<70
  ·have i1:=fun w=>HI.out k h70 w
   by_cases hlt:k<c
   ·obtain ⟨fn,tmps,assign,body,hy0,hR⟩:=HY.out (upK k) ⟨k,h70⟩ wr JK.out (by rw [upK_len k (by omega)];exact h70)
    have hy:(Instr.yield l #[.int .i64 (k:Int),.int .i64 (f k)]).run Tryz.prog wr=.ok (.round l fn tmps assign body) wr:=hy0
    have HR:=Lib.hid hR
    have HSU:=Lib.hid (upK_succ k h70)
    clear hR hy0
    generalize f k=v at *
    have k1:¬ (c:Int)≤(k:Int):=by omega
    gi_wp2
    refine HR.out.mono ?_
    rintro e W3 (⟨rfl,hJ3,hk3⟩ | ⟨rfl,hJx3⟩)
    ·have J3:Hid (J (upK (k+1)) W3):=by rw [HSU.out];exact hJ3
     have K3:=Lib.hid (KK.out.trans hk3)
     clear hJ3 hk3 hy
     gi_wp2
     go_roundw
     case rel=>exact ⟨k+1,by omega,by go_num,J3,K3⟩
     case measure=>simp [intOf];omega
    ·clear hy
     gi_wp2
     refine bodyPost_ret (results_none rfl _ _ _) rfl ?_
     exact ⟨⟨_,rfl⟩,.inr ⟨_,trivial,hJx3⟩⟩
   ·obtain rfl:k=c:=by omega
    generalize f k=v at *
    gi_wp2
    refine ⟨fun _ h=>(by cases h),?_⟩
    gi_wp2
    refine bodyPost_ret (results_none rfl _ _ _) rfl ?_
    exact ⟨⟨_,rfl⟩,.inl ⟨_,rfl,JK.out⟩⟩
  ·obtain rfl:k=70:=by omega
   obtain rfl:c=70:=by omega
   gi_wp2
   go_end0
   exact ⟨⟨_,rfl⟩,.inl ⟨_,rfl,JK.out⟩⟩
open Go.RowKit
theorem quiet_load_mid {P:Program} {C:World→Prop} {K:Act→Prop} {o:Oper} {a:Act} (ty:TypeId) (x:Operand) (b off:Nat) (cs:List Value) (d:TypeDesc) (ho:o.op=.load ty x) (hx:a.eval x=.pointer (some ⟨b,off,none⟩)) (hc:∀ w,C w→w.rangeAt b off cs)
  (hu:P.underlying ty=some d) (hd:d.isRow=true) (hi:(P.info? ty).map (·.size)=some cs.length)
  (hk:K (a.put o.dst (.agg cs.toArray))):o.quiet P a C K:=
 ⟨.agg cs.toArray,fun w hw=>by
  unfold Oper.quietAt
  unfold execOp
  simp only [ho,hx,Instr.loadAt,Instr.sureAddr,Sem.run_bind,Sem.run_pure,Result.andThen_ok,run_loadVar_mid w b off ty cs d (hc w hw) hu hd hi]
  exact ⟨rfl,rfl⟩,hk⟩
theorem own_low {w:World} {base base':Nat} {e:TypeId} {size:Nat} {v:Value} {n:Nat} {xs:List Value} (h:w.ownsRow base e size v n xs) (hb:base'≤base):w.ownsRow base' e size v n xs:=by
 obtain ⟨h1,h2⟩:=h
 refine ⟨h1,?_⟩
 rcases h2 with h2 | ⟨g,cap,cur,hv,hg,r⟩
 ·exact .inl h2
 ·exact .inr ⟨g,cap,cur,hv,by omega,r⟩
section
variable {B:Nat} {g m n:Nat} {V:List ByteArray} {l:List Nat}
set_option maxHeartbeats 2000000 in
theorem lay_any (b p:Nat) (d:ByteArray) (w:World) (hz:B≤w.heap.size) (hb:datB V m b=true) (hp:p+d.size≤128) (h:FileX B w g m n V l) :
  Calls Tryz.prog 107 #[.pointer (some ⟨g,0,none⟩),.int .i64 b,.int .i64 p,.string d] w fun e w'=>e=.returned (.tuple #[])∧FileX B w' g m n (layX V b p d.data.toList) l∧Below B w w':=by
 obtain ⟨gv,c,h⟩:=h
 have HF:=Lib.hid h
 have hlt:=(datB_iff.1 hb).2
 have hsm:=h.small
 have h0:=h.c0
 have hstr:=h.str b hlt
 have hsz:=h.vol.size b hlt
 have HV:Hid (IsVol (layX V b p d.data.toList) m):=layX_ok h.vol hb (by rw [Array.length_toList];exact hp)
 have HL:Hid (layX V b p d.data.toList=V.set b (layB (V.getD b ⟨#[]⟩) p d.data.toList)):=rfl
 have hfz:=h.own.frozenAt b
 clear h
 generalize V.getD b ⟨#[]⟩=s at *
 have ze:∀ a b,a≤b→b≤128→(s.extract a b).size=b-a:=fun a b h1 h2=>by rw [ByteArray.size_extract];omega
 have ad1:=fun (w:World)=>run_string_add_sum (P:=Tryz.prog) (w:=w) (s.extract 0 p) d (by rw [ze 0 p (by omega) (by omega)];omega)
 have ad2:=fun (w:World)=>run_string_add_sum (P:=Tryz.prog) (w:=w) (s.extract 0 p++d) (s.extract (p+d.size) s.size) (by rw [ByteArray.size_append,ze 0 p (by omega) (by omega),ze (p+d.size) s.size (by omega) (by omega)];omega)
 clear ze
 have u0:∀ u:Ext w,u.val.cell? ⟨g,0,none⟩=some (.slice (some ⟨gv,0,none⟩) V.length c):=fun u=>u.cell h0
 have s1:IntKind.i64.wrap ((p:Int)+(d.size:Int))=(p:Int)+(d.size:Int):=IntWalk.i64_in _ (by omega)
 have s2:(0:Int)≤(p:Int)+(d.size:Int):=by omega
 have s3:((p:Int)+(d.size:Int)).toNat=p+d.size:=by omega
 have s4:(p:Int)≤(s.size:Int):=by omega
 have s5:(p:Int)+(d.size:Int)≤(s.size:Int):=by omega
 have s6:(0:Int)≤(b:Int):=by omega
 have s7:(b:Int)<(V.length:Int):=by omega
 have s8:(0:Int)≤(p:Int):=by omega
 have HSZ:=Lib.hid hsz
 clear hsz
 go_enter Tryz.func107,Tryz.ntmps107
 go_wp2_with fail
 refine wp_region_ext_tail 18 (by kernel_rfl) (by kernel_rfl) ?_
 simp only [List.take_succ_cons,List.take_zero,List.drop_succ_cons,List.drop_zero]
 repeat (go_big_quiet_step (fail))
 refine wpQuiet_nil ?_
 rintro _ ⟨u,rfl⟩
 have hF2:=HF.out.below u.below
 have UB:=Lib.hid (u.below.mono hz)
 generalize u.val=W2 at *
 clear u0 ad1 ad2 s1 s2 s3 s4 s5 s8 hstr hfz h0
 have c1:=hF2.str b hlt
 have c2:W2.frozen? ⟨gv,b,none⟩=false:=hF2.own.frozenAt b
 have H2:=Lib.hid hF2
 have hnb:layB s p d.data.toList=s.extract 0 p++d++s.extract (p+d.size) s.size:=by
  apply WideShapes.bytes_inj
  have e1:=Lib.extract_data s 0 p
  have e2:(s.extract (p+d.size) s.size).data.toList=s.data.toList.drop (p+d.size):=by
   rw [Lib.extract_data,List.take_of_length_le]
   rw [List.length_drop,Array.length_toList];exact Nat.le_refl _
  rw [layB_list]
  simp only [ByteArray.data_append,Array.toList_append,e1,e2,List.drop_zero,Nat.sub_zero,Array.length_toList]
  rfl
 rw [← hnb]
 have HB:=Lib.hid hb
 clear hF2 hnb hb
 go_wp2
 go_end0
 rw [HL.out] at HV ⊢
 exact ⟨rfl,⟨gv,c,H2.out.lay b _ hlt HV.out⟩,UB.out.setCell H2.out.gv_low _⟩
theorem ino_range {w:World} {gv c:Nat} (h:FileW B w g m n V l gv c):w.rangeAt g 8 (l.map fun k:Nat=>Value.int .i64 (k:Int)):=fun j v hv=>by
 simp only [List.getElem?_map] at hv
 cases hj:l[j]? with
 | none=>rw [hj] at hv;cases hv
 | some k=>
  rw [hj] at hv
  obtain rfl:=Option.some.inj hv
  have h12:j<12:=by rw [← h.fit.1];exact (List.getElem?_eq_some_iff.1 hj).1
  have:=h.ino j h12
  rw [List.getD_eq_getElem?_getD,hj] at this
  exact this
set_option maxHeartbeats 2000000 in
theorem keep_any (w:World) (hz:B≤w.heap.size) (h:FileX B w g m n V l) :
  Calls Tryz.prog 108 #[.pointer (some ⟨g,0,none⟩)] w fun e w'=>e=.returned (.int .i64 0)∧FileX B w' g m n (putV V n l) l∧Below B w w':=by
 obtain ⟨gv,c,h⟩:=h
 have HF:=Lib.hid h
 have hsm:=h.small
 have h0:=h.c0
 have h7:=h.c7
 have u0:∀ u:Ext w,u.val.cell? ⟨g,0,none⟩=some (.slice (some ⟨gv,0,none⟩) V.length c):=fun u=>u.cell h0
 have u7:∀ u:Ext w,u.val.cell? ⟨g,7,none⟩=some (.int .i64 (n:Int)):=fun u=>u.cell h7
 have CP:Hid (∀ w,FileW B w g m n V l gv c→Calls Tryz.prog 65 #[.slice (some ⟨gv,0,none⟩) V.length c,.int .i64 n,.agg (l.map fun k:Nat=>Value.int .i64 (k:Int)).toArray] w (RowCode (putV V n l) 0 w)):=fun w h=>by
  have:=put_ino (some ⟨gv,0,none⟩) c V (n:Int) (l.map fun k:Nat=>(k:Int)) w (by omega) h.row (by rw [List.length_map];exact h.fit.1) (fun z hz=>by
   obtain ⟨k,hk,rfl⟩:=List.mem_map.1 hz
   obtain ⟨j,hj,rfl⟩:=List.getElem_of_mem hk
   have:=fit_lt h.fit j
   rw [List.getD_eq_getElem?_getD,List.getElem?_eq_getElem hj] at this
   simp only [Option.getD_some] at this
   omega)
  rw [putO_ok h.vol h.one h.top h.fit] at this
  unfold intC at this
  rw [List.map_map] at this
  exact this
 have HR:Hid (∀ u:Ext w,u.val.rangeAt g 8 (l.map fun k:Nat=>Value.int .i64 (k:Int))):=fun u=>ino_range (HF.out.below u.below)
 have HLn:Hid ((l.map fun k:Nat=>Value.int .i64 (k:Int)).length=12):=by show _=_;rw [List.length_map];exact h.fit.1
 clear h h0 h7
 generalize hcs:(l.map fun k:Nat=>Value.int .i64 (k:Int))=cs at *
 clear hcs
 go_enter Tryz.func108,Tryz.ntmps108
 go_wp2_with fail
 refine wp_region_waist 12 (by kernel_rfl) (by kernel_rfl) ?_
 simp only [List.take_succ_cons,List.take_zero,List.drop_succ_cons,List.drop_zero]
 repeat (first
  | (go_big_quiet_want;refine quiet_load_mid 39 (.tmp 16) g 8 cs _ rfl rfl (by rintro _ ⟨u,rfl⟩;exact HR.out u) Tryz.underlying39 rfl (by rw [HLn.out];kernel_rfl) ?_;go_frame;go_big_quiet_on)
  | go_big_quiet_step (fail))
 refine wpQuiet_nil ?_
 rintro _ ⟨u,rfl⟩
 have H2:=Lib.hid (HF.out.below u.below)
 have UB:=Lib.hid (u.below.mono hz)
 have hz2:=u.below.size
 generalize u.val=W2 at *
 clear u0 u7 HR
 go_wp2_with fail
 refine (CP.out _ H2.out).mono ?_
 rintro e w3 ⟨⟨v,rfl,hown⟩,hb3⟩
 have H3:=Lib.hid (H2.out.below hb3)
 have B3:=Lib.hid (UB.out.trans (hb3.mono (by omega)))
 have hlen:=putV_length V n l
 obtain ⟨gv2,c2,rfl⟩:=Go.Joins.ownsRow_form hown (by omega)
 have O3:Hid (w3.ownsRow B 9 1 (.slice (some ⟨gv2,0,none⟩) (putV V n l).length c2) (putV V n l).length ((putV V n l).map .string)):=own_low hown (by omega)
 have HV:=Lib.hid (H2.out.vol.putI H2.out.one H2.out.top l)
 clear hown hb3 CP
 rw [hlen] at O3
 go_wp2
 repeat (go_big_quiet_step (fail))
 refine wpQuiet_nil ?_
 rintro _ ⟨u,rfl⟩
 have H4:=Lib.hid (H3.out.below u.below)
 have O4:=Lib.hid (own_below O3.out u.below)
 have B4:=Lib.hid (B3.out.trans (u.below.mono (by have:=B3.out.size;omega)))
 have c0:=H4.out.c0
 have c0f:=H4.out.blk.frozen 0
 generalize u.val=W4 at *
 clear O3 H3
 go_wp2
 go_ret
 refine ⟨rfl,⟨gv2,c2,?_⟩,B4.out.setCell H4.out.low _⟩
 have:=H4.out.vol_ (V':=putV V n l) hlen HV.out (by rw [hlen];exact O4.out)
 rw [hlen] at this
 exact this
set_option maxHeartbeats 2000000 in
theorem take_file (w:World) (hz:B≤w.heap.size) (h:FileX B w g m n V l) :
  Calls Tryz.prog 176 #[.pointer (some ⟨g,0,none⟩)] w fun e w'=>Below B w w'∧match takX V m with
   | none=>e=.returned (.tuple #[.int .i64 0,.int .i64 10])
   | some r=>e=.returned (.tuple #[.int .i64 (r.2:Int),.int .i64 0])∧FileX B w' g m n r.1 l:=by
 obtain ⟨gv,c,h⟩:=h
 have HF:=Lib.hid h
 have hsm:=h.small
 have h0:=h.c0
 have hT:=take_any (some ⟨gv,0,none⟩) c V w (by omega) h.row
 unfold TakePost at hT
 rw [ofR_some.2 h.vol] at hT
 dsimp only at hT
 have hv:=h.vol
 clear h
 unfold takX
 cases hf:freeR V m with
 | none=>
  dsimp only [Option.map_none]
  rw [hf] at hT
  have CT:=Lib.hid hT
  clear hT hf hv
  go_enter Tryz.func176,Tryz.ntmps176
  go_wp2_with fail
  refine CT.out.mono ?_
  rintro e w1 ⟨hb1,rfl⟩
  have B1:=Lib.hid (hb1.mono hz)
  clear hb1
  go_wp2
  go_ret2
  exact ⟨B1.out,rfl⟩
 | some i=>
  dsimp only [Option.map_some]
  rw [hf] at hT
  have CT:=Lib.hid hT
  have hi:=(freeR_some (by have:=hv.len;omega)).1 hf
  have HV:=Lib.hid (hv.take hi.1 hi.2.1)
  clear hT hf hv
  go_enter Tryz.func176,Tryz.ntmps176
  go_wp2_with fail
  refine CT.out.mono ?_
  rintro e w1 ⟨hb1,v,rfl,hn⟩
  have hlen:=takeV_length V i
  have hown:=hn.own (by unfold maxLen;omega)
  obtain ⟨gv2,c2,rfl⟩:=Go.Joins.ownsRow_form hown (by omega)
  have O1:Hid (w1.ownsRow B 9 1 (.slice (some ⟨gv2,0,none⟩) (takeV V i).length c2) (takeV V i).length ((takeV V i).map .string)):=own_low hown hz
  have H1:=Lib.hid (HF.out.below hb1)
  have B1:=Lib.hid (hb1.mono hz)
  have c0:=H1.out.c0
  have c0f:=H1.out.blk.frozen 0
  clear hb1 hn hown h0 CT
  rw [hlen] at O1
  go_wp2
  go_ret2
  refine ⟨B1.out.setCell H1.out.low _,rfl,⟨gv2,c2,?_⟩⟩
  have:=H1.out.vol_ (V':=takeV V i) hlen HV.out (by rw [hlen];exact O1.out)
  rw [hlen] at this
  exact this
set_option maxHeartbeats 2000000 in
theorem give_file (b:Nat) (w:World) (hz:B≤w.heap.size) (h:FileX B w g m n V l) :
  Calls Tryz.prog 200 #[.pointer (some ⟨g,0,none⟩),.int .i64 b] w fun e w'=>e=.returned (.tuple #[])∧FileX B w' g m n (giveV V m b) l∧Below B w w':=by
 obtain ⟨gv,c,h⟩:=h
 have HF:=Lib.hid h
 have hsm:=h.small
 have h0:=h.c0
 have hT:=give_any (some ⟨gv,0,none⟩) c V (b:Int) w (by omega) h.row
 unfold GivePost at hT
 rw [ofR_some.2 h.vol] at hT
 dsimp only at hT
 have hv:=h.vol
 clear h
 by_cases hd:datB V m b=true∧bitL (blkL V 2) b=true
 ·have hdd:=datB_iff.1 hd.1
  simp only [if_neg (show ¬ ((b:Int)<(dataN m:Int)∨(V.length:Int)≤(b:Int)) by omega),Int.toNat_natCast,if_neg (show ¬ (bitL (blkL V 2) b=false) by rw [hd.2];simp)] at hT
  have HG:Hid (giveV V m b=turnV V b):=by show _=_;unfold giveV;rw [if_pos hd]
  have CT:=Lib.hid hT
  have HV:=Lib.hid (hv.turn hdd.1 hdd.2)
  clear hT hd hv hdd
  go_enter Tryz.func200,Tryz.ntmps200
  go_wp2_with fail
  refine CT.out.mono ?_
  rintro e w1 ⟨hb1,v,rfl,hn⟩
  have hlen:=turnV_length V b
  have hown:=hn.own (by unfold maxLen;omega)
  obtain ⟨gv2,c2,rfl⟩:=Go.Joins.ownsRow_form hown (by omega)
  have O1:Hid (w1.ownsRow B 9 1 (.slice (some ⟨gv2,0,none⟩) (turnV V b).length c2) (turnV V b).length ((turnV V b).map .string)):=own_low hown hz
  have H1:=Lib.hid (HF.out.below hb1)
  have B1:=Lib.hid (hb1.mono hz)
  have c0:=H1.out.c0
  have c0f:=H1.out.blk.frozen 0
  clear hb1 hn hown h0 CT
  rw [hlen] at O1
  go_wp2
  go_end0
  refine ⟨rfl,⟨gv2,c2,?_⟩,B1.out.setCell H1.out.low _⟩
  have:=H1.out.vol_ (V':=turnV V b) hlen HV.out (by rw [hlen];exact O1.out)
  rw [hlen] at this
  rw [HG.out]
  exact this
 ·have HG:Hid (giveV V m b=V):=by show _=_;unfold giveV;rw [if_neg hd]
  have CT:Hid (Calls Tryz.prog 126 #[.slice (some ⟨gv,0,none⟩) V.length c,.int .i64 b] w fun e w'=>(∃ k:Int,e=.returned (.tuple #[.slice none 0 0,.int .i64 k])∧(k == 0)=false)∧Below w.heap.size w w'):=hT.mono fun e w' h=>by
   obtain ⟨hb,h⟩:=h
   refine ⟨?_,hb⟩
   by_cases h1:(b:Int)<(dataN m:Int)∨(V.length:Int)≤(b:Int)
   ·rw [if_pos h1] at h;exact ⟨2,h,rfl⟩
   ·rw [if_neg h1,Int.toNat_natCast] at h
    have h2:bitL (blkL V 2) b=false:=by
     cases hbt:bitL (blkL V 2) b with
     | false=>rfl
     | true=>exact absurd ⟨datB_iff.2 (by omega),hbt⟩ hd
    rw [if_pos h2] at h
    exact ⟨9,h,rfl⟩
  clear hT hd hv
  go_enter Tryz.func200,Tryz.ntmps200
  go_wp2_with fail
  refine CT.out.mono ?_
  rintro e w1 ⟨⟨k,rfl,hk⟩,hb1⟩
  have H1:=Lib.hid (HF.out.below hb1)
  have B1:=Lib.hid (hb1.mono hz)
  clear hb1 CT
  go_wp2
  go_end0
  rw [HG.out]
  exact ⟨rfl,⟨gv,c,H1.out⟩,B1.out⟩
end
section
variable {B:Nat} {g m n:Nat} {V:List ByteArray} {l:List Nat}
theorem FileX.base {w:World} (h:FileX B w g m n V l):B≤w.heap.size:=by
 obtain ⟨gv,c,h⟩:=h
 have:=h.low
 have:=h.blk.lt
 omega
theorem FileX.ok {w:World} (h:FileX B w g m n V l):OkS V.length m (V,l)∧1≤n∧n≤m:=by
 obtain ⟨gv,c,h⟩:=h
 exact ⟨⟨h.vol,rfl,h.fit⟩,h.one,h.top⟩
set_option maxHeartbeats 2000000 in
theorem name_any (k b:Nat) (w:World) (hk:k<70) (hb:b<65536) (h:FileX B w g m n V l) :
  Calls Tryz.prog 177 #[.pointer (some ⟨g,0,none⟩),.int .i64 k,.int .i64 b] w fun e w'=>e=.returned (.int .i64 0)∧FileX B w' g m n (nameG (putK n) V m l k b).1 (nameG (putK n) V m l k b).2∧Below B w w':=by
 have hz:=h.base
 by_cases h6:k<6
 ·have HN:Hid (nameG (putK n) V m l k b=(putV V n (l.set (4+k) b),l.set (4+k) b)):=by show _=_;unfold nameG;rw [if_pos h6];rfl
  obtain ⟨gv,c,h⟩:=h
  have HF:=Lib.hid h
  have hcell:w.cell? ⟨g,8+(4+k),none⟩=some (.int .i64 ((l.getD (4+k) 0:Nat):Int)):=h.ino (4+k) (by omega)
  have hfz:w.frozen? ⟨g,8+(4+k),none⟩=false:=h.blk.frozen _
  have HP:Hid (FileW B (w.setCell ⟨g,8+(4+k),none⟩ (.int .i64 (b:Int))) g m n V (l.set (4+k) b) gv c):=h.put (4+k) b (h.fit.direct h6 hb)
  have BP:Hid (Below B w (w.setCell ⟨g,8+(4+k),none⟩ (.int .i64 (b:Int)))):=(Below.refl B w).setCell h.low _
  rw [show 8+(4+k)=12+k by omega] at hcell hfz HP BP
  have k1:(k:Int)<6:=by omega
  have k2:(0:Int)≤(k:Int):=by omega
  clear h
  generalize l.getD (4+k) 0=r at *
  go_enter Tryz.func177,Tryz.ntmps177
  go_wp2_with fail
  refine (keep_any _ (by simpa [World.setCell] using hz) ⟨gv,c,HP.out⟩).mono ?_
  rintro e w' ⟨rfl,hf,hbl⟩
  have H1:=Lib.hid hf
  have B1:=Lib.hid (BP.out.trans hbl)
  clear hf hbl
  go_wp2
  go_ret
  rw [HN.out]
  exact ⟨rfl,H1.out,B1.out⟩
 ·have HX:=Lib.hid h
  obtain ⟨gv,c,h⟩:=h
  have hcell:w.cell? ⟨g,18,none⟩=some (.int .i64 ((l.getD 10 0:Nat):Int)):=h.ino 10 (by omega)
  have k1:¬ (k:Int)<6:=by omega
  have HN:Hid (nameG (putK n) V m l k b=if datB V m (l.getD 10 0)=true then (layX V (l.getD 10 0) (2 * (k-6)) (putL b 2),l) else (V,l)):=by show _=_;unfold nameG;rw [if_neg h6]
  clear h
  generalize l.getD 10 0=i at *
  cases hd:datB V m i with
  | false=>
   rw [hd] at HN
   go_enter Tryz.func177,Tryz.ntmps177
   go_wp2_with fail
   refine (is_any i _ HX.out).mono ?_
   rw [hd]
   rintro e w' ⟨rfl,rfl⟩
   go_wp2
   go_ret
   rw [HN.out]
   exact ⟨rfl,HX.out,Below.refl _ _⟩
  | true=>
   rw [hd] at HN
   obtain ⟨p,hp⟩:∃ p,2 * (k-6)=p:=⟨_,rfl⟩
   rw [hp] at HN
   have p1:(2:Int) * ((k:Int)-6)=(p:Int):=by omega
   have p2:p+2≤128:=by omega
   have q1:IntKind.i64.wrap ((k:Int)-6)=(k:Int)-6:=IntWalk.i64_in _ (by omega)
   have q2:IntKind.i64.wrap ((2:Int) * ((k:Int)-6))=(p:Int):=by rw [p1];exact IntWalk.i64_in _ (by omega)
   have q3:IntKind.u64.wrap (b:Int)=(b:Int):=IntWalk.u64_in _ (by omega)
   obtain ⟨st,hst⟩:∃ st:ByteArray,(⟨(putL b 2).toArray⟩:ByteArray)=st:=⟨_,rfl⟩
   have HS:Hid (st.data.toList=putL b 2∧st.size=2):=by
    rw [← hst]
    refine ⟨by simp,?_⟩
    show (putL b 2).toArray.size=2
    rw [List.size_toArray,putL_length]
   have CP:Hid (∀ u:Ext w,Calls Tryz.prog 93 #[.int .u64 b,.int .i64 2] u.val fun e w'=>e=.returned (.string st)∧Below u.val.heap.size u.val w'):=fun u=>by
    have:=put_any b 2 u.val (by omega) (by omega)
    rw [hst] at this
    exact this
   have u1:∀ u:Ext w,u.val.cell? ⟨g,18,none⟩=some (.int .i64 (i:Int)):=fun u=>u.cell hcell
   have HD:=Lib.hid hd
   clear p1 hst
   go_enter Tryz.func177,Tryz.ntmps177
   go_wp2_with fail
   refine (is_any i _ HX.out).mono ?_
   rw [hd]
   rintro e w' ⟨rfl,rfl⟩
   go_wp2_with fail
   refine wp_region_ext_tail 12 (by kernel_rfl) (by kernel_rfl) ?_
   simp only [List.take_succ_cons,List.take_zero,List.drop_succ_cons,List.drop_zero]
   repeat (go_big_quiet_step (first
    | (go_at_call 93;with_reducible exact Ext.call (CP.out _))))
   refine wpQuiet_nil ?_
   rintro _ ⟨u,rfl⟩
   have UB:=Lib.hid (u.below.mono hz)
   have HX2:=Lib.hid (HX.out.below u.below)
   generalize u.val=W2 at *
   clear u1 CP
   go_wp2_with fail
   refine (lay_any i p st _ HX2.out.base HD.out (by rw [HS.out.2];exact p2) HX2.out).mono ?_
   rintro e w3 ⟨rfl,hf,hbl⟩
   rw [HS.out.1] at hf
   have H3:=Lib.hid hf
   have B3:=Lib.hid (UB.out.trans hbl)
   clear hf hbl
   go_wp2
   go_ret
   rw [HN.out]
   exact ⟨rfl,H3.out,B3.out⟩
end
def PlaPost (B g m n:Nat) (w:World) (o:Option ((List ByteArray × List Nat) × Nat)) (e:Ending) (w':World):Prop:=Below B w w'∧match o with
 | none=>e=.returned (.tuple #[.int .i64 0,.int .i64 10])
 | some r=>e=.returned (.tuple #[.int .i64 (r.2:Int),.int .i64 0])∧FileX B w' g m n r.1.1 r.1.2
section
variable {B:Nat} {g m n:Nat} {V:List ByteArray} {l:List Nat}
set_option maxHeartbeats 4000000 in
theorem place_file (k:Nat) (w:World) (hk:k<70) (h:FileX B w g m n V l) :
  Calls Tryz.prog 106 #[.pointer (some ⟨g,0,none⟩),.int .i64 k] w (PlaPost B g m n w (plaG (putK n) V m l k)):=by
 have hz:=h.base
 have HX0:=Lib.hid h
 have CA:=Lib.hid (at_any k w hk h)
 clear h
 by_cases h0:atX V m l k=0
 ·have HP0:Hid (plaG (putK n) V m l k=(indG (putK n) V m l k).bind fun s=>(takX s.1 m).map fun r=>(nameG (putK n) r.1 m s.2 k r.2,r.2)):=by show _=_;unfold plaG;rw [if_neg (by simpa using h0)]
  rw [h0] at CA
  clear h0
  have hI:∃ i,l.getD 10 0=i:=⟨_,rfl⟩
  obtain ⟨i,hi⟩:=hI
  have HI:=Lib.hid hi
  clear hi
  go_enter Tryz.func106,Tryz.ntmps106
  go_wp2_with fail
  refine CA.out.mono ?_
  rintro e w1 ⟨rfl,hb1⟩
  unfold atI
  rw [if_pos rfl]
  have HX:=Lib.hid (HX0.out.below hb1)
  have BW:=Lib.hid (hb1.mono hz)
  clear hb1 CA HX0
  by_cases h6:k<6
  ·have k1:¬ (6:Int)≤(k:Int):=by omega
   have HP:Hid (plaG (putK n) V m l k=(takX V m).map fun r=>(nameG (putK n) r.1 m l k r.2,r.2)):=by
    show _=_
    rw [HP0.out]
    unfold indG
    rw [if_pos (Or.inl h6)];rfl
   clear HP0 h6
   unfold PlaPost
   cases ht:takX V m with
   | none=>
    have CT:Hid (∀ w,FileX B w g m n V l→Calls Tryz.prog 176 #[.pointer (some ⟨g,0,none⟩)] w fun e w'=>Below B w w'∧e=.returned (.tuple #[.int .i64 0,.int .i64 10])):=fun w h=>by
     have:=take_file w h.base h
     rw [ht] at this
     exact this
    rw [ht] at HP
    clear ht
    go_wp2_with fail
    refine (CT.out _ HX.out).mono ?_
    rintro e w2 ⟨hb2,rfl⟩
    have B2:=Lib.hid (BW.out.trans hb2)
    clear hb2 CT
    go_wp2
    go_ret2
    rw [HP.out]
    exact ⟨B2.out,rfl⟩
   | some r=>
    have CT:Hid (∀ w,FileX B w g m n V l→Calls Tryz.prog 176 #[.pointer (some ⟨g,0,none⟩)] w fun e w'=>Below B w w'∧e=.returned (.tuple #[.int .i64 (r.2:Int),.int .i64 0])∧FileX B w' g m n r.1 l):=fun w h=>by
     have:=take_file w h.base h
     rw [ht] at this
     exact this
    have HD:Hid (r.2<65536):=by
     obtain ⟨_,_,c,_⟩:=takX_ok HX.out.ok.1.vol ht
     have h1:=(datB_iff.1 c).2
     have h2:=HX.out.ok.1.vol.len
     show r.2<65536
     omega
    rw [ht] at HP
    clear ht
    obtain ⟨rv,rb⟩:=r
    go_wp2_with fail
    refine (CT.out _ HX.out).mono ?_
    rintro e w2 ⟨hb2,rfl,hf⟩
    have H2:=Lib.hid hf
    have B2:=Lib.hid (BW.out.trans hb2)
    clear hb2 hf CT
    go_wp2_with fail
    refine (name_any k rb _ hk HD.out H2.out).mono ?_
    rintro e w3 ⟨rfl,hf,hb3⟩
    have H3:=Lib.hid hf
    have B3:=Lib.hid (B2.out.trans hb3)
    clear hf hb3
    go_wp2
    go_ret2
    rw [HP.out]
    exact ⟨B3.out,rfl,H3.out⟩
  ·have k1:(6:Int)≤(k:Int):=by omega
   have c18:w1.cell? ⟨g,18,none⟩=some (.int .i64 (i:Int)):=by
    obtain ⟨gv,c,h⟩:=HX.out
    have:=h.ino 10 (by omega)
    rw [HI.out] at this
    exact this
   cases hd:datB V m i with
   | true=>
    have HP:Hid (plaG (putK n) V m l k=(takX V m).map fun r=>(nameG (putK n) r.1 m l k r.2,r.2)):=by
     show _=_
     rw [HP0.out]
     unfold indG
     rw [HI.out,if_pos (Or.inr hd)];rfl
    clear HP0 h6
    go_wp2_with fail
    refine (is_any i _ HX.out).mono ?_
    rw [hd]
    rintro e w' ⟨rfl,rfl⟩
    clear hd c18
    unfold PlaPost
    cases ht:takX V m with
    | none=>
     have CT:Hid (∀ w,FileX B w g m n V l→Calls Tryz.prog 176 #[.pointer (some ⟨g,0,none⟩)] w fun e w'=>Below B w w'∧e=.returned (.tuple #[.int .i64 0,.int .i64 10])):=fun w h=>by
      have:=take_file w h.base h
      rw [ht] at this
      exact this
     rw [ht] at HP
     clear ht
     go_wp2_with fail
     refine (CT.out _ HX.out).mono ?_
     rintro e w2 ⟨hb2,rfl⟩
     have B2:=Lib.hid (BW.out.trans hb2)
     clear hb2 CT
     go_wp2
     go_ret2
     rw [HP.out]
     exact ⟨B2.out,rfl⟩
    | some r=>
     have CT:Hid (∀ w,FileX B w g m n V l→Calls Tryz.prog 176 #[.pointer (some ⟨g,0,none⟩)] w fun e w'=>Below B w w'∧e=.returned (.tuple #[.int .i64 (r.2:Int),.int .i64 0])∧FileX B w' g m n r.1 l):=fun w h=>by
      have:=take_file w h.base h
      rw [ht] at this
      exact this
     have HD:Hid (r.2<65536):=by
      obtain ⟨_,_,c,_⟩:=takX_ok HX.out.ok.1.vol ht
      have h1:=(datB_iff.1 c).2
      have h2:=HX.out.ok.1.vol.len
      show r.2<65536
      omega
     rw [ht] at HP
     clear ht
     obtain ⟨rv,rb⟩:=r
     go_wp2_with fail
     refine (CT.out _ HX.out).mono ?_
     rintro e w2 ⟨hb2,rfl,hf⟩
     have H2:=Lib.hid hf
     have B2:=Lib.hid (BW.out.trans hb2)
     clear hb2 hf CT
     go_wp2_with fail
     refine (name_any k rb _ hk HD.out H2.out).mono ?_
     rintro e w3 ⟨rfl,hf,hb3⟩
     have H3:=Lib.hid hf
     have B3:=Lib.hid (B2.out.trans hb3)
     clear hf hb3
     go_wp2
     go_ret2
     rw [HP.out]
     exact ⟨B3.out,rfl,H3.out⟩
   | false=>
    have HP1:Hid (plaG (putK n) V m l k=((takX V m).map fun r=>((putV r.1 n (l.set 10 r.2),l.set 10 r.2):List ByteArray × List Nat)).bind fun s=>(takX s.1 m).map fun r=>(nameG (putK n) r.1 m s.2 k r.2,r.2)):=by
     show _=_
     rw [HP0.out]
     unfold indG
     rw [HI.out,if_neg (by rw [hd];simp;omega)];rfl
    clear HP0
    go_wp2_with fail
    refine (is_any i _ HX.out).mono ?_
    rw [hd]
    rintro e w' ⟨rfl,rfl⟩
    clear hd c18
    cases ht0:takX V m with
    | none=>
     have CT:Hid (∀ w,FileX B w g m n V l→Calls Tryz.prog 176 #[.pointer (some ⟨g,0,none⟩)] w fun e w'=>Below B w w'∧e=.returned (.tuple #[.int .i64 0,.int .i64 10])):=fun w h=>by
      have:=take_file w h.base h
      rw [ht0] at this
      exact this
     rw [ht0] at HP1
     clear ht0
     go_wp2_with fail
     refine (CT.out _ HX.out).mono ?_
     rintro e w2 ⟨hb2,rfl⟩
     have B2:=Lib.hid (BW.out.trans hb2)
     clear hb2 CT
     go_wp2
     go_ret2
     unfold PlaPost
     rw [HP1.out]
     exact ⟨B2.out,rfl⟩
    | some r0=>
     have CT0:Hid (∀ w,FileX B w g m n V l→Calls Tryz.prog 176 #[.pointer (some ⟨g,0,none⟩)] w fun e w'=>Below B w w'∧e=.returned (.tuple #[.int .i64 (r0.2:Int),.int .i64 0])∧FileX B w' g m n r0.1 l):=fun w h=>by
      have:=take_file w h.base h
      rw [ht0] at this
      exact this
     have HD0:Hid (r0.2<65536):=by
      obtain ⟨_,_,c,_⟩:=takX_ok HX.out.ok.1.vol ht0
      have h1:=(datB_iff.1 c).2
      have h2:=HX.out.ok.1.vol.len
      show r0.2<65536
      omega
     rw [ht0] at HP1
     clear ht0
     obtain ⟨rv0,rb0⟩:=r0
     have HP:Hid (plaG (putK n) V m l k=(takX (putV rv0 n (l.set 10 rb0)) m).map fun r=>(nameG (putK n) r.1 m (l.set 10 rb0) k r.2,r.2)):=HP1.out
     clear HP1
     go_wp2_with fail
     refine (CT0.out _ HX.out).mono ?_
     rintro e w2 ⟨hb2,rfl,hf⟩
     have BW2:=Lib.hid (BW.out.trans hb2)
     obtain ⟨gv,c,hF⟩:=hf
     have hcell:w2.cell? ⟨g,18,none⟩=some (.int .i64 ((l.getD 10 0:Nat):Int)):=hF.ino 10 (by omega)
     have hfz:w2.frozen? ⟨g,18,none⟩=false:=hF.blk.frozen _
     have HX3:Hid (FileX B (w2.setCell ⟨g,18,none⟩ (.int .i64 (rb0:Int))) g m n rv0 (l.set 10 rb0)):=⟨gv,c,hF.put 10 rb0 (hF.fit.ind HD0.out)⟩
     have BW3:Hid (Below B w (w2.setCell ⟨g,18,none⟩ (.int .i64 (rb0:Int)))):=BW2.out.setCell hF.low _
     clear hb2 hF CT0 HX BW BW2
     generalize l.getD 10 0=iv at hcell
     go_wp2_with fail
     refine (keep_any _ HX3.out.base HX3.out).mono ?_
     rintro e w4 ⟨rfl,hf,hb4⟩
     have HX:=Lib.hid hf
     have BW:=Lib.hid (BW3.out.trans hb4)
     clear hf hb4 HX3 BW3 hcell hfz
     unfold PlaPost
     cases ht:takX (putV rv0 n (l.set 10 rb0)) m with
     | none=>
      have CT:Hid (∀ w,FileX B w g m n (putV rv0 n (l.set 10 rb0)) (l.set 10 rb0)→Calls Tryz.prog 176 #[.pointer (some ⟨g,0,none⟩)] w fun e w'=>Below B w w'∧e=.returned (.tuple #[.int .i64 0,.int .i64 10])):=fun w h=>by
       have:=take_file w h.base h
       rw [ht] at this
       exact this
      rw [ht] at HP
      clear ht
      go_wp2_with fail
      refine (CT.out _ HX.out).mono ?_
      rintro e w2 ⟨hb2,rfl⟩
      have B2:=Lib.hid (BW.out.trans hb2)
      clear hb2 CT
      go_wp2
      go_ret2
      rw [HP.out]
      exact ⟨B2.out,rfl⟩
     | some r=>
      have CT:Hid (∀ w,FileX B w g m n (putV rv0 n (l.set 10 rb0)) (l.set 10 rb0)→Calls Tryz.prog 176 #[.pointer (some ⟨g,0,none⟩)] w fun e w'=>Below B w w'∧e=.returned (.tuple #[.int .i64 (r.2:Int),.int .i64 0])∧FileX B w' g m n r.1 (l.set 10 rb0)):=fun w h=>by
       have:=take_file w h.base h
       rw [ht] at this
       exact this
      have HD:Hid (r.2<65536):=by
       obtain ⟨_,_,c,_⟩:=takX_ok HX.out.ok.1.vol ht
       have h1:=(datB_iff.1 c).2
       have h2:=HX.out.ok.1.vol.len
       show r.2<65536
       omega
      rw [ht] at HP
      clear ht
      obtain ⟨rv,rb⟩:=r
      go_wp2_with fail
      refine (CT.out _ HX.out).mono ?_
      rintro e w2 ⟨hb2,rfl,hf⟩
      have H2:=Lib.hid hf
      have B2:=Lib.hid (BW.out.trans hb2)
      clear hb2 hf CT
      go_wp2_with fail
      refine (name_any k rb _ hk HD.out H2.out).mono ?_
      rintro e w3 ⟨rfl,hf,hb3⟩
      have H3:=Lib.hid hf
      have B3:=Lib.hid (B2.out.trans hb3)
      clear hf hb3
      go_wp2
      go_ret2
      rw [HP.out]
      exact ⟨B3.out,rfl,H3.out⟩
 ·have HP:Hid (plaG (putK n) V m l k=some ((V,l),atX V m l k)):=by show _=_;unfold plaG;rw [if_pos h0]
  have hne:(((atX V m l k:Nat):Int) != -1)=true:=by simp
  have HA:Hid (atI (atX V m l k)=(atX V m l k:Nat)):=by show _=_;unfold atI;rw [if_neg h0]
  rw [HA.out] at CA
  rw [HP.out]
  generalize atX V m l k=a at *
  clear h0
  go_enter Tryz.func106,Tryz.ntmps106
  go_wp2_with fail
  refine CA.out.mono ?_
  rintro e w1 ⟨rfl,hb1⟩
  have HX:=Lib.hid (HX0.out.below hb1)
  have BW:=Lib.hid (hb1.mono hz)
  clear hb1 CA
  go_wp2
  go_ret2
  unfold PlaPost
  exact ⟨BW.out,rfl,HX.out⟩
end
end Go.Proofs.YtdldlendppkknaaGreatDoor
