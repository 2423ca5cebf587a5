/-
  Contracts and plain laws: Fields, InoPlain, Shelf, GeomA, GeomB.
-/
import Derived.BigRegionIn
import Derived.RegionIn
import Derived.Shelf.Strings.Builder1
import Derived.Shelf.Strings.Builder2
import Derived.Shelf.Small.Bits
import Derived.Shelf.Strings.BuilderF
import Derived.Shelf.Strings.BuilderK
import Derived.Shelf.Strings.Builder2Cap
import Derived.Shelf.Strings.Prefix
import Derived.Shelf.Bits.Mul64
import Derived.Shelf.Strings.Repeat
import Derived.Shelf.Strings.BuilderCap
import Derived.Test.YtdldlendppkknaaGreatDoorProg
import Derived.Test.YtdldlendppkknaaGreatDoorPackV02
namespace Go.Proofs.YtdldlendppkknaaGreatDoor
open Go.RowKit Go.Shelf
set_option linter.unusedVariables false
set_option linter.unusedSimpArgs false
set_option maxRecDepth 100000
attribute [local go_sem] Oper.semAt_some
def fsz (i:Fin 12):Nat:=[1,1,2,4,2,2,2,2,2,2,2,2].getD i.1 0
def fof (i:Fin 12):Nat:=[0,2,1,3,4,5,6,7,8,9,10,11].getD i.1 0
def fieldV (xb:Nat) (i:Fin 12):Value:=.agg #[.int .i64 (fsz i:Nat),.pointer (some ⟨xb,fof i,none⟩)]
def allF:List (Fin 12):=[0,1,2,3,4,5,6,7,8,9,10,11]
def keepTy (t:TypeId):Bool:=t == 187 || t == 184
set_option maxHeartbeats 4000000 in
theorem fields_stops (n:Nat) (hn:1≤n) (Bn xb:Nat) (w:World) (hB:Blk w Bn 184 #[.pointer (some ⟨xb,0,none⟩)]) :
  SeqStopsK Fence.wide n Tryz.prog 173 #[.pointer (some ⟨Bn,0,none⟩)] (fun i:Fin 12=>#[fieldV xb i]) (KeepT keepTy) (·=allF) (fun _=>True) 12 w:=fun l J Jx W hW hJ hJx hY h0=>by
 have hBk:Blk W Bn 184 #[.pointer (some ⟨xb,0,none⟩)]:=hB.below hW hB.lt
 have HBk:=Lib.hid hBk
 have hBW:W.cell? ⟨Bn,0,none⟩=some (.pointer (some ⟨xb,0,none⟩)):=hBk.cell 0 rfl
 have hsz:=hW.size
 have HY:=Lib.hid hY
 have HJ:Hid (∀ s A B,J s A→A.grownBy B none→J s B):=fun s A B hs hg=>hJ s A B none hs hg (fun r e=>by cases e)
 have H0:=Lib.hid h0
 clear hY hJ hJx h0 hB hW hBk
 refine callsIn_of_wp Tryz.func173 rfl trivial ?_
 simp only [Tryz.ntmps173,List.size_toArray,List.length_cons,List.length_nil,Nat.reduceAdd,Nat.reduceSub,Array.replicate_succ,Array.replicate_zero,List.push_toArray,List.append_toArray,List.nil_append,List.cons_append]
 gi_wp2
 gi_region
 generalize hWs:World.drew _=Ws
 have G:Hid (Blk Ws W.heap.size 187 #[.int .i64 1,.pointer (some ⟨xb,0,none⟩),.int .i64 1,.pointer (some ⟨xb,2,none⟩),.int .i64 2,.pointer (some ⟨xb,1,none⟩),.int .i64 4,.pointer (some ⟨xb,3,none⟩)]):=hWs▸(Blk.new W _ _).drew
 have J1:Hid (J [] Ws):=hWs▸HJ.out _ _ _ (HJ.out _ _ _ H0.out (World.grownBy_alloc W _ none)) (only_drew (World.grownBy.refl _ none))
 have C1:Hid (Blk Ws Bn 184 #[.pointer (some ⟨xb,0,none⟩)]):=hWs▸(HBk.out.alloc _).drew
 clear hWs hBW H0 hsz HBk
 generalize W.heap.size=sb at *
 gi_wp2
 gi_loopw [4,24] (fun _ i wr=>∃ k:Nat,k≤4∧i=.int .i64 k∧Hid (J (allF.take k) wr)∧Hid (KeepT keepTy Ws wr)) (fun _ i _=>4-(intOf i).toNat)
 case atStart=>exact ⟨0,by omega,rfl,J1,Lib.hid (KeepT.refl _ _)⟩
 case round=>
  obtain ⟨k,hk,rfl,JK,KK⟩:=hrel
  by_cases hlt:k<4
  ·have hk4:k=0∨k=1∨k=2∨k=3:=by omega
   rcases hk4 with rfl | rfl | rfl | rfl
   ·obtain ⟨fn,tmps,assign,body,hy0,hR⟩:=HY.out (allF.take 0) 0 (wr.alloc (.cells #[.int .i64 1,.pointer (some ⟨xb,0,none⟩)] 187)) (HJ.out _ _ _ JK.out (World.grownBy_alloc _ _ none)) (by decide)
    have hy:(Instr.yield l #[.agg #[.int .i64 1,.pointer (some ⟨xb,0,none⟩)]]).run Tryz.prog (wr.alloc (.cells #[.int .i64 1,.pointer (some ⟨xb,0,none⟩)] 187))=.ok (.round l fn tmps assign body) (wr.alloc (.cells #[.int .i64 1,.pointer (some ⟨xb,0,none⟩)] 187)):=hy0
    have HR:=Lib.hid hR
    clear hR hy0
    have c0:wr.cell? ⟨sb,0,none⟩=some (.int .i64 1):=(KK.out _ _ _ rfl G.out).cell 0 rfl
    have c1:wr.cell? ⟨sb,1,none⟩=some (.pointer (some ⟨xb,0,none⟩)):=(KK.out _ _ _ rfl G.out).cell 1 rfl
    gi_wp2
    refine HR.out.mono ?_
    rintro e W3 (⟨rfl,hJ3,hk3⟩ | ⟨rfl,hJx3⟩)
    ·have J3:Hid (J (allF.take (0+1)) W3):=hJ3
     have K3:=Lib.hid (KK.out.trans ((KeepT.alloc _ _).trans hk3))
     clear hJ3 hk3 hy
     gi_wp2
     go_roundw
     case rel=>exact ⟨0+1,by omega,rfl,J3,K3⟩
     case measure=>simp [intOf]
    ·clear hy
     gi_wp2
     refine bodyPost_ret (results_none rfl _ _ _) rfl ?_
     exact ⟨⟨_,rfl⟩,.inr ⟨_,trivial,hJx3⟩⟩
   ·obtain ⟨fn,tmps,assign,body,hy0,hR⟩:=HY.out (allF.take 1) 1 (wr.alloc (.cells #[.int .i64 1,.pointer (some ⟨xb,2,none⟩)] 187)) (HJ.out _ _ _ JK.out (World.grownBy_alloc _ _ none)) (by decide)
    have hy:(Instr.yield l #[.agg #[.int .i64 1,.pointer (some ⟨xb,2,none⟩)]]).run Tryz.prog (wr.alloc (.cells #[.int .i64 1,.pointer (some ⟨xb,2,none⟩)] 187))=.ok (.round l fn tmps assign body) (wr.alloc (.cells #[.int .i64 1,.pointer (some ⟨xb,2,none⟩)] 187)):=hy0
    have HR:=Lib.hid hR
    clear hR hy0
    have c0:wr.cell? ⟨sb,2,none⟩=some (.int .i64 1):=(KK.out _ _ _ rfl G.out).cell 2 rfl
    have c1:wr.cell? ⟨sb,3,none⟩=some (.pointer (some ⟨xb,2,none⟩)):=(KK.out _ _ _ rfl G.out).cell 3 rfl
    gi_wp2
    refine HR.out.mono ?_
    rintro e W3 (⟨rfl,hJ3,hk3⟩ | ⟨rfl,hJx3⟩)
    ·have J3:Hid (J (allF.take (1+1)) W3):=hJ3
     have K3:=Lib.hid (KK.out.trans ((KeepT.alloc _ _).trans hk3))
     clear hJ3 hk3 hy
     gi_wp2
     go_roundw
     case rel=>exact ⟨1+1,by omega,rfl,J3,K3⟩
     case measure=>simp [intOf]
    ·clear hy
     gi_wp2
     refine bodyPost_ret (results_none rfl _ _ _) rfl ?_
     exact ⟨⟨_,rfl⟩,.inr ⟨_,trivial,hJx3⟩⟩
   ·obtain ⟨fn,tmps,assign,body,hy0,hR⟩:=HY.out (allF.take 2) 2 (wr.alloc (.cells #[.int .i64 2,.pointer (some ⟨xb,1,none⟩)] 187)) (HJ.out _ _ _ JK.out (World.grownBy_alloc _ _ none)) (by decide)
    have hy:(Instr.yield l #[.agg #[.int .i64 2,.pointer (some ⟨xb,1,none⟩)]]).run Tryz.prog (wr.alloc (.cells #[.int .i64 2,.pointer (some ⟨xb,1,none⟩)] 187))=.ok (.round l fn tmps assign body) (wr.alloc (.cells #[.int .i64 2,.pointer (some ⟨xb,1,none⟩)] 187)):=hy0
    have HR:=Lib.hid hR
    clear hR hy0
    have c0:wr.cell? ⟨sb,4,none⟩=some (.int .i64 2):=(KK.out _ _ _ rfl G.out).cell 4 rfl
    have c1:wr.cell? ⟨sb,5,none⟩=some (.pointer (some ⟨xb,1,none⟩)):=(KK.out _ _ _ rfl G.out).cell 5 rfl
    gi_wp2
    refine HR.out.mono ?_
    rintro e W3 (⟨rfl,hJ3,hk3⟩ | ⟨rfl,hJx3⟩)
    ·have J3:Hid (J (allF.take (2+1)) W3):=hJ3
     have K3:=Lib.hid (KK.out.trans ((KeepT.alloc _ _).trans hk3))
     clear hJ3 hk3 hy
     gi_wp2
     go_roundw
     case rel=>exact ⟨2+1,by omega,rfl,J3,K3⟩
     case measure=>simp [intOf]
    ·clear hy
     gi_wp2
     refine bodyPost_ret (results_none rfl _ _ _) rfl ?_
     exact ⟨⟨_,rfl⟩,.inr ⟨_,trivial,hJx3⟩⟩
   ·obtain ⟨fn,tmps,assign,body,hy0,hR⟩:=HY.out (allF.take 3) 3 (wr.alloc (.cells #[.int .i64 4,.pointer (some ⟨xb,3,none⟩)] 187)) (HJ.out _ _ _ JK.out (World.grownBy_alloc _ _ none)) (by decide)
    have hy:(Instr.yield l #[.agg #[.int .i64 4,.pointer (some ⟨xb,3,none⟩)]]).run Tryz.prog (wr.alloc (.cells #[.int .i64 4,.pointer (some ⟨xb,3,none⟩)] 187))=.ok (.round l fn tmps assign body) (wr.alloc (.cells #[.int .i64 4,.pointer (some ⟨xb,3,none⟩)] 187)):=hy0
    have HR:=Lib.hid hR
    clear hR hy0
    have c0:wr.cell? ⟨sb,6,none⟩=some (.int .i64 4):=(KK.out _ _ _ rfl G.out).cell 6 rfl
    have c1:wr.cell? ⟨sb,7,none⟩=some (.pointer (some ⟨xb,3,none⟩)):=(KK.out _ _ _ rfl G.out).cell 7 rfl
    gi_wp2
    refine HR.out.mono ?_
    rintro e W3 (⟨rfl,hJ3,hk3⟩ | ⟨rfl,hJx3⟩)
    ·have J3:Hid (J (allF.take (3+1)) W3):=hJ3
     have K3:=Lib.hid (KK.out.trans ((KeepT.alloc _ _).trans hk3))
     clear hJ3 hk3 hy
     gi_wp2
     go_roundw
     case rel=>exact ⟨3+1,by omega,rfl,J3,K3⟩
     case measure=>simp [intOf]
    ·clear hy
     gi_wp2
     refine bodyPost_ret (results_none rfl _ _ _) rfl ?_
     exact ⟨⟨_,rfl⟩,.inr ⟨_,trivial,hJx3⟩⟩
  ·obtain rfl:k=4:=by omega
   have C4:=Lib.hid (KK.out _ _ _ rfl C1.out)
   clear hlt hk
   have e4:((4:Nat):Int)=4:=rfl
   rw [e4]
   clear e4
   gi_wp2
   obtain ⟨Wt,rfl⟩:∃ Wt:World,Wt=wr:=⟨_,rfl⟩
   gi_loopw [5,33] (fun _ i wr=>∃ k:Nat,k≤6∧i=.int .i64 k∧Hid (J (allF.take (4+k)) wr)∧Hid (KeepT keepTy Wt wr)) (fun _ i _=>6-(intOf i).toNat)
   case atStart=>exact ⟨0,by omega,rfl,JK,Lib.hid (KeepT.refl _ _)⟩
   case round=>
    obtain ⟨k,hk,rfl,JK2,KK2⟩:=hrel
    have cb:wr.cell? ⟨Bn,0,none⟩=some (.pointer (some ⟨xb,0,none⟩)):=(KK2.out _ _ _ rfl C4.out).cell 0 rfl
    by_cases hlt:k<6
    ·have hk4:k=0∨k=1∨k=2∨k=3∨k=4∨k=5:=by omega
     rcases hk4 with rfl | rfl | rfl | rfl | rfl | rfl
     ·obtain ⟨fn,tmps,assign,body,hy0,hR⟩:=HY.out (allF.take 4) 4 wr (JK2.out) (by decide)
      have hy:(Instr.yield l #[.agg #[.int .i64 2,.pointer (some ⟨xb,4,none⟩)]]).run Tryz.prog wr=.ok (.round l fn tmps assign body) wr:=hy0
      have HR:=Lib.hid hR
      clear hR hy0
      gi_wp2
      refine HR.out.mono ?_
      rintro e W3 (⟨rfl,hJ3,hk3⟩ | ⟨rfl,hJx3⟩)
      ·have J3:Hid (J (allF.take (4+(0+1))) W3):=hJ3
       have K3:=Lib.hid (KK2.out.trans hk3)
       clear hJ3 hk3 hy
       gi_wp2
       go_roundw
       case rel=>exact ⟨0+1,by omega,rfl,J3,K3⟩
       case measure=>simp [intOf]
      ·clear hy
       gi_wp2
       refine bodyPost_ret (results_none rfl _ _ _) rfl ?_
       exact ⟨⟨_,rfl⟩,.inr ⟨_,trivial,hJx3⟩⟩
     ·obtain ⟨fn,tmps,assign,body,hy0,hR⟩:=HY.out (allF.take 5) 5 wr (JK2.out) (by decide)
      have hy:(Instr.yield l #[.agg #[.int .i64 2,.pointer (some ⟨xb,5,none⟩)]]).run Tryz.prog wr=.ok (.round l fn tmps assign body) wr:=hy0
      have HR:=Lib.hid hR
      clear hR hy0
      gi_wp2
      refine HR.out.mono ?_
      rintro e W3 (⟨rfl,hJ3,hk3⟩ | ⟨rfl,hJx3⟩)
      ·have J3:Hid (J (allF.take (4+(1+1))) W3):=hJ3
       have K3:=Lib.hid (KK2.out.trans hk3)
       clear hJ3 hk3 hy
       gi_wp2
       go_roundw
       case rel=>exact ⟨1+1,by omega,rfl,J3,K3⟩
       case measure=>simp [intOf]
      ·clear hy
       gi_wp2
       refine bodyPost_ret (results_none rfl _ _ _) rfl ?_
       exact ⟨⟨_,rfl⟩,.inr ⟨_,trivial,hJx3⟩⟩
     ·obtain ⟨fn,tmps,assign,body,hy0,hR⟩:=HY.out (allF.take 6) 6 wr (JK2.out) (by decide)
      have hy:(Instr.yield l #[.agg #[.int .i64 2,.pointer (some ⟨xb,6,none⟩)]]).run Tryz.prog wr=.ok (.round l fn tmps assign body) wr:=hy0
      have HR:=Lib.hid hR
      clear hR hy0
      gi_wp2
      refine HR.out.mono ?_
      rintro e W3 (⟨rfl,hJ3,hk3⟩ | ⟨rfl,hJx3⟩)
      ·have J3:Hid (J (allF.take (4+(2+1))) W3):=hJ3
       have K3:=Lib.hid (KK2.out.trans hk3)
       clear hJ3 hk3 hy
       gi_wp2
       go_roundw
       case rel=>exact ⟨2+1,by omega,rfl,J3,K3⟩
       case measure=>simp [intOf]
      ·clear hy
       gi_wp2
       refine bodyPost_ret (results_none rfl _ _ _) rfl ?_
       exact ⟨⟨_,rfl⟩,.inr ⟨_,trivial,hJx3⟩⟩
     ·obtain ⟨fn,tmps,assign,body,hy0,hR⟩:=HY.out (allF.take 7) 7 wr (JK2.out) (by decide)
      have hy:(Instr.yield l #[.agg #[.int .i64 2,.pointer (some ⟨xb,7,none⟩)]]).run Tryz.prog wr=.ok (.round l fn tmps assign body) wr:=hy0
      have HR:=Lib.hid hR
      clear hR hy0
      gi_wp2
      refine HR.out.mono ?_
      rintro e W3 (⟨rfl,hJ3,hk3⟩ | ⟨rfl,hJx3⟩)
      ·have J3:Hid (J (allF.take (4+(3+1))) W3):=hJ3
       have K3:=Lib.hid (KK2.out.trans hk3)
       clear hJ3 hk3 hy
       gi_wp2
       go_roundw
       case rel=>exact ⟨3+1,by omega,rfl,J3,K3⟩
       case measure=>simp [intOf]
      ·clear hy
       gi_wp2
       refine bodyPost_ret (results_none rfl _ _ _) rfl ?_
       exact ⟨⟨_,rfl⟩,.inr ⟨_,trivial,hJx3⟩⟩
     ·obtain ⟨fn,tmps,assign,body,hy0,hR⟩:=HY.out (allF.take 8) 8 wr (JK2.out) (by decide)
      have hy:(Instr.yield l #[.agg #[.int .i64 2,.pointer (some ⟨xb,8,none⟩)]]).run Tryz.prog wr=.ok (.round l fn tmps assign body) wr:=hy0
      have HR:=Lib.hid hR
      clear hR hy0
      gi_wp2
      refine HR.out.mono ?_
      rintro e W3 (⟨rfl,hJ3,hk3⟩ | ⟨rfl,hJx3⟩)
      ·have J3:Hid (J (allF.take (4+(4+1))) W3):=hJ3
       have K3:=Lib.hid (KK2.out.trans hk3)
       clear hJ3 hk3 hy
       gi_wp2
       go_roundw
       case rel=>exact ⟨4+1,by omega,rfl,J3,K3⟩
       case measure=>simp [intOf]
      ·clear hy
       gi_wp2
       refine bodyPost_ret (results_none rfl _ _ _) rfl ?_
       exact ⟨⟨_,rfl⟩,.inr ⟨_,trivial,hJx3⟩⟩
     ·obtain ⟨fn,tmps,assign,body,hy0,hR⟩:=HY.out (allF.take 9) 9 wr (JK2.out) (by decide)
      have hy:(Instr.yield l #[.agg #[.int .i64 2,.pointer (some ⟨xb,9,none⟩)]]).run Tryz.prog wr=.ok (.round l fn tmps assign body) wr:=hy0
      have HR:=Lib.hid hR
      clear hR hy0
      gi_wp2
      refine HR.out.mono ?_
      rintro e W3 (⟨rfl,hJ3,hk3⟩ | ⟨rfl,hJx3⟩)
      ·have J3:Hid (J (allF.take (4+(5+1))) W3):=hJ3
       have K3:=Lib.hid (KK2.out.trans hk3)
       clear hJ3 hk3 hy
       gi_wp2
       go_roundw
       case rel=>exact ⟨5+1,by omega,rfl,J3,K3⟩
       case measure=>simp [intOf]
      ·clear hy
       gi_wp2
       refine bodyPost_ret (results_none rfl _ _ _) rfl ?_
       exact ⟨⟨_,rfl⟩,.inr ⟨_,trivial,hJx3⟩⟩
    ·obtain rfl:k=6:=by omega
     clear hlt hk
     obtain ⟨fn,tmps,assign,body,hy0,hR⟩:=HY.out (allF.take 10) 10 wr (JK2.out) (by decide)
     have hy:(Instr.yield l #[.agg #[.int .i64 2,.pointer (some ⟨xb,10,none⟩)]]).run Tryz.prog wr=.ok (.round l fn tmps assign body) wr:=hy0
     have HR:=Lib.hid hR
     clear hR hy0
     gi_wp2
     refine HR.out.mono ?_
     rintro e W3 (⟨rfl,hJ3,hk3⟩ | ⟨rfl,hJx3⟩)
     ·have J3:Hid (J (allF.take 11) W3):=hJ3
      have cb3:W3.cell? ⟨Bn,0,none⟩=some (.pointer (some ⟨xb,0,none⟩)):=(hk3 _ _ _ rfl (KK2.out _ _ _ rfl C4.out)).cell 0 rfl
      clear hJ3 hk3 hy HR cb
      obtain ⟨fn,tmps,assign,body,hy0,hR⟩:=HY.out (allF.take 11) 11 W3 (J3.out) (by decide)
      have hy:(Instr.yield l #[.agg #[.int .i64 2,.pointer (some ⟨xb,11,none⟩)]]).run Tryz.prog W3=.ok (.round l fn tmps assign body) W3:=hy0
      have HR:=Lib.hid hR
      clear hR hy0
      gi_wp2
      refine HR.out.mono ?_
      rintro e W4 (⟨rfl,hJ4,hk4⟩ | ⟨rfl,hJx4⟩)
      ·clear hy
       gi_wp2
       go_end0
       exact ⟨⟨_,rfl⟩,.inl ⟨_,rfl,hJ4⟩⟩
      ·clear hy
       gi_wp2
       go_end0
       exact ⟨⟨_,rfl⟩,.inr ⟨_,trivial,hJx4⟩⟩
     ·clear hy
      gi_wp2
      go_end0
      exact ⟨⟨_,rfl⟩,.inr ⟨_,trivial,hJx3⟩⟩
def numAt (bs:List UInt8) (p k:Nat):Nat:=leN ((bs.drop p).take k)
def toldSt (bs:List UInt8) (p:Nat) (pre:List (Fin 12)):Nat × List Nat:=pre.foldl (fun st i=>(st.1+fsz i,st.2.set (fof i) (numAt bs st.1 (fsz i)))) (p,List.replicate 12 0)
def inoR (bs:List UInt8) (p:Nat):List Nat:=[numAt bs p 1,numAt bs (p+2) 2,numAt bs (p+1) 1,numAt bs (p+4) 4,numAt bs (p+8) 2,numAt bs (p+10) 2,numAt bs (p+12) 2,numAt bs (p+14) 2,numAt bs (p+16) 2,numAt bs (p+18) 2,numAt bs (p+20) 2,numAt bs (p+22) 2]
theorem toldSt_all (bs:List UInt8) (p:Nat):(toldSt bs p allF).2=inoR bs p:=rfl
theorem toldSt_snoc (bs:List UInt8) (p:Nat) (pre:List (Fin 12)) (i:Fin 12):toldSt bs p (pre++[i])=((toldSt bs p pre).1+fsz i,(toldSt bs p pre).2.set (fof i) (numAt bs (toldSt bs p pre).1 (fsz i))):=by
 unfold toldSt;rw [List.foldl_append];rfl
theorem fsz_le:∀ i,fsz i≤4:=by decide
theorem fsz_pos:∀ i,1≤fsz i:=by decide
theorem fof_lt:∀ i,fof i<12:=by decide
theorem told_len (bs:List UInt8):∀ (pre:List (Fin 12)) (st:Nat × List Nat),(pre.foldl (fun st i=>(st.1+fsz i,st.2.set (fof i) (numAt bs st.1 (fsz i)))) st).2.length=st.2.length
 | [],st=>rfl
 | i::pre,st=>by rw [List.foldl_cons,told_len bs pre];simp
theorem told_at (bs:List UInt8):∀ (pre:List (Fin 12)) (st:Nat × List Nat),st.1≤(pre.foldl (fun st i=>(st.1+fsz i,st.2.set (fof i) (numAt bs st.1 (fsz i)))) st).1∧(pre.foldl (fun st i=>(st.1+fsz i,st.2.set (fof i) (numAt bs st.1 (fsz i)))) st).1≤st.1+4 * pre.length
 | [],st=>by simp
 | i::pre,st=>by
  rw [List.foldl_cons]
  have:=told_at bs pre (st.1+fsz i,st.2.set (fof i) (numAt bs st.1 (fsz i)))
  have h:=fsz_le i
  simp only [List.length_cons] at *
  omega
theorem toldSt_len (bs:List UInt8) (p:Nat) (pre:List (Fin 12)):(toldSt bs p pre).2.length=12:=by
 unfold toldSt;rw [told_len];rfl
theorem toldSt_at (bs:List UInt8) (p:Nat) (pre:List (Fin 12)):p≤(toldSt bs p pre).1∧(toldSt bs p pre).1≤p+4 * pre.length:=told_at bs pre (p,List.replicate 12 0)
def inoC (l:List Nat):Array Value:=(l.map fun k:Nat=>Value.int .i64 (k:Int)).toArray
theorem inoC_set (l:List Nat) (i k:Nat):inoC (l.set i k)=(inoC l).setIfInBounds i (.int .i64 (k:Int)):=by
 unfold inoC;simp
theorem inoC_size (l:List Nat):(inoC l).size=l.length:=by unfold inoC;simp
theorem inoC_one (l:List Nat):∀ v ∈ inoC l,v.oneCell'=true:=by
 intro v hv
 unfold inoC at hv
 simp at hv
 obtain ⟨k,_,rfl⟩:=hv
 rfl
theorem numAt_lt (bs:List UInt8) (p k:Nat):numAt bs p k<256 ^ k:=by
 unfold numAt
 have h:=leN_lt ((bs.drop p).take k)
 have:((bs.drop p).take k).length≤k:=List.length_take_le _ _
 exact Nat.lt_of_lt_of_le h (Nat.pow_le_pow_right (by omega) this)
end Go.Proofs.YtdldlendppkknaaGreatDoor
namespace Go.Proofs
open Go.Shelf
def Tryz.lays169_ren:Go.Shelf.Ren:=⟨fun | 169=>102 | n=>n,fun | 70=>170 | 9=>9 | 0=>0 | 72=>172 | 37=>44 | 127=>243 | 3=>3 | 5=>5 | n=>n,fun | n=>n⟩
theorem Tryz.lays169:Go.Proofs.Lays.n169 Tryz.prog Tryz.lays169_ren:={
 mixed:=by kernel_rfl
 f169:=Tryz.func102.trans (congrArg some (by kernel_rfl))
 t0:=Tryz.underlying0
 a0:=Tryz.isAgg0
 z0:=Tryz.sizeOf0
 v0:=Tryz.zeroValue0
 t3:=Tryz.underlying3
 a3:=Tryz.isAgg3
 z3:=Tryz.sizeOf3
 v3:=Tryz.zeroValue3
 t9:=Tryz.underlying9
 a9:=Tryz.isAgg9
 z9:=Tryz.sizeOf9
 v9:=Tryz.zeroValue9
 t37:=Tryz.underlying44
 a37:=Tryz.isAgg44
 z37:=Tryz.sizeOf44
 v37:=Tryz.zeroValue44
 t70:=Tryz.underlying170
 a70:=Tryz.isAgg170
 z70:=Tryz.sizeOf170
 v70:=Tryz.zeroValue170
 t72:=Tryz.underlying172
 a72:=Tryz.isAgg172
 z72:=Tryz.sizeOf172
 v72:=Tryz.zeroValue172
 t127:=Tryz.underlying243
 a127:=Tryz.isAgg243
 z127:=Tryz.sizeOf243
 v127:=Tryz.zeroValue243 }
theorem Tryz.Builder_Extra_169:Builder.Extra Tryz.prog Tryz.lays169_ren:={
 sizeBuilder:=by kernel_rfl
 liesBuilder:=by kernel_rfl
 t5:=Tryz.underlying5
 a5:=Tryz.isAgg5
 z5:=Tryz.sizeOf5
 v5:=Tryz.zeroValue5
 infoByte:=by kernel_rfl
 cellsByte:=by kernel_rfl
 sizeByte:=by kernel_rfl
 neB5:=by decide }
open Go.RowKit in
theorem Tryz.Builder_String_any_f (B b:Nat) (l:List UInt8) (w:World) (h:Lib.IsBuilderF 172 5 B b (Lib.byteCells l) w) (hBw:B≤w.heap.size) :
  Calls Tryz.prog 102 #[.pointer (some ⟨b,0,none⟩)] w fun e w'=>e=.returned (.string ⟨l.toArray⟩)∧(Lib.IsBuilderF 172 5 B b (Lib.byteCells l) w'∧Below B w w'):=Any.Builder_String_any_f Tryz.lays169 Tryz.Builder_Extra_169 B b l w h hBw
def Tryz.lays105_ren:Go.Shelf.Ren:=⟨fun | 105=>101 | 212=>170 | 99=>89 | 165=>171 | 166=>100 | 170=>172 | 169=>102 | 263=>203 | 264=>204 | 206=>163 | 240=>169 | 241=>205 | 276=>202 | 277=>225 | n=>n,fun | 9=>9 | 3=>3 | 4=>4 | 20=>20 | 0=>0 | 46=>82 | 109=>240 | 5=>5 | 72=>172 | 76=>175 | 51=>68 | 146=>270 | 53=>106 | 148=>272 | 70=>170 | 37=>44 | 75=>174 | 127=>243 | 164=>268 | 80=>178 | n=>n,fun | n=>n⟩
theorem Tryz.lays105:Go.Proofs.Lays.n105 Tryz.prog Tryz.lays105_ren:={
 mixed:=by kernel_rfl
 f99:=Tryz.func89.trans (congrArg some (by kernel_rfl))
 f105:=Tryz.func101.trans (congrArg some (by kernel_rfl))
 f165:=Tryz.func171.trans (congrArg some (by kernel_rfl))
 f166:=Tryz.func100.trans (congrArg some (by kernel_rfl))
 f169:=Tryz.func102.trans (congrArg some (by kernel_rfl))
 f170:=Tryz.func172.trans (congrArg some (by kernel_rfl))
 f206:=Tryz.func163.trans (congrArg some (by kernel_rfl))
 f212:=Tryz.func170.trans (congrArg some (by kernel_rfl))
 f240:=Tryz.func169.trans (congrArg some (by kernel_rfl))
 f241:=Tryz.func205.trans (congrArg some (by kernel_rfl))
 f263:=Tryz.func203.trans (congrArg some (by kernel_rfl))
 f264:=Tryz.func204.trans (congrArg some (by kernel_rfl))
 f276:=Tryz.func202.trans (congrArg some (by kernel_rfl))
 f277:=Tryz.func225.trans (congrArg some (by kernel_rfl))
 t0:=Tryz.underlying0
 a0:=Tryz.isAgg0
 z0:=Tryz.sizeOf0
 v0:=Tryz.zeroValue0
 t3:=Tryz.underlying3
 a3:=Tryz.isAgg3
 z3:=Tryz.sizeOf3
 v3:=Tryz.zeroValue3
 t4:=Tryz.underlying4
 a4:=Tryz.isAgg4
 z4:=Tryz.sizeOf4
 v4:=Tryz.zeroValue4
 t5:=Tryz.underlying5
 a5:=Tryz.isAgg5
 z5:=Tryz.sizeOf5
 v5:=Tryz.zeroValue5
 t9:=Tryz.underlying9
 a9:=Tryz.isAgg9
 z9:=Tryz.sizeOf9
 v9:=Tryz.zeroValue9
 t20:=Tryz.underlying20
 a20:=Tryz.isAgg20
 z20:=Tryz.sizeOf20
 v20:=Tryz.zeroValue20
 t37:=Tryz.underlying44
 a37:=Tryz.isAgg44
 z37:=Tryz.sizeOf44
 v37:=Tryz.zeroValue44
 t46:=Tryz.underlying82
 a46:=Tryz.isAgg82
 z46:=Tryz.sizeOf82
 v46:=Tryz.zeroValue82
 t51:=Tryz.underlying68
 a51:=Tryz.isAgg68
 z51:=Tryz.sizeOf68
 v51:=Tryz.zeroValue68
 t53:=Tryz.underlying106
 a53:=Tryz.isAgg106
 z53:=Tryz.sizeOf106
 v53:=Tryz.zeroValue106
 t70:=Tryz.underlying170
 a70:=Tryz.isAgg170
 z70:=Tryz.sizeOf170
 v70:=Tryz.zeroValue170
 t72:=Tryz.underlying172
 a72:=Tryz.isAgg172
 z72:=Tryz.sizeOf172
 v72:=Tryz.zeroValue172
 t75:=Tryz.underlying174
 a75:=Tryz.isAgg174
 z75:=Tryz.sizeOf174
 v75:=Tryz.zeroValue174
 t76:=Tryz.underlying175
 a76:=Tryz.isAgg175
 z76:=Tryz.sizeOf175
 v76:=Tryz.zeroValue175
 t109:=Tryz.underlying240
 a109:=Tryz.isAgg240
 z109:=Tryz.sizeOf240
 v109:=Tryz.zeroValue240
 t127:=Tryz.underlying243
 a127:=Tryz.isAgg243
 z127:=Tryz.sizeOf243
 v127:=Tryz.zeroValue243
 t146:=Tryz.underlying270
 a146:=Tryz.isAgg270
 z146:=Tryz.sizeOf270
 v146:=Tryz.zeroValue270
 t148:=Tryz.underlying272
 a148:=Tryz.isAgg272
 z148:=Tryz.sizeOf272
 v148:=Tryz.zeroValue272
 t164:=Tryz.underlying268
 a164:=Tryz.isAgg268
 z164:=Tryz.sizeOf268
 v164:=Tryz.zeroValue268 }
theorem Tryz.Builder_Extra_105:Builder.Extra Tryz.prog Tryz.lays105_ren:={
 sizeBuilder:=by kernel_rfl
 liesBuilder:=by kernel_rfl
 t5:=Tryz.underlying5
 a5:=Tryz.isAgg5
 z5:=Tryz.sizeOf5
 v5:=Tryz.zeroValue5
 infoByte:=by kernel_rfl
 cellsByte:=by kernel_rfl
 sizeByte:=by kernel_rfl
 neB5:=by decide }
open Go.RowKit Go.Lib in
theorem Tryz.strings_Repeat (s:ByteArray) (c:Nat) (w:World) (hc:c≤9223372036854775807) (hlen:s.size * c≤140737488355328) :
  Calls Tryz.prog 101 #[.string s,.int .i64 c] w fun e w'=>e=.returned (.string ⟨(Lib.repeatL s.data.toList c).toArray⟩)∧Below w.heap.size w w':=Any.strings_Repeat Tryz.lays105 Tryz.Builder_Extra_105 s c w hc hlen
open Go.RowKit
theorem Tryz.lays166:Go.Proofs.Lays.n166 Tryz.prog Tryz.lays105_ren:={
 mixed:=Tryz.lays105.mixed
 f166:=Tryz.lays105.f166
 f240:=Tryz.lays105.f240
 f276:=Tryz.lays105.f276
 t0:=Tryz.lays105.t0
 a0:=Tryz.lays105.a0
 z0:=Tryz.lays105.z0
 v0:=Tryz.lays105.v0
 t3:=Tryz.lays105.t3
 a3:=Tryz.lays105.a3
 z3:=Tryz.lays105.z3
 v3:=Tryz.lays105.v3
 t4:=Tryz.lays105.t4
 a4:=Tryz.lays105.a4
 z4:=Tryz.lays105.z4
 v4:=Tryz.lays105.v4
 t9:=Tryz.lays105.t9
 a9:=Tryz.lays105.a9
 z9:=Tryz.lays105.z9
 v9:=Tryz.lays105.v9
 t20:=Tryz.lays105.t20
 a20:=Tryz.lays105.a20
 z20:=Tryz.lays105.z20
 v20:=Tryz.lays105.v20
 t37:=Tryz.lays105.t37
 a37:=Tryz.lays105.a37
 z37:=Tryz.lays105.z37
 v37:=Tryz.lays105.v37
 t70:=Tryz.lays105.t70
 a70:=Tryz.lays105.a70
 z70:=Tryz.lays105.z70
 v70:=Tryz.lays105.v70
 t72:=Tryz.lays105.t72
 a72:=Tryz.lays105.a72
 z72:=Tryz.lays105.z72
 v72:=Tryz.lays105.v72
 t75:=Tryz.lays105.t75
 a75:=Tryz.lays105.a75
 z75:=Tryz.lays105.z75
 v75:=Tryz.lays105.v75
 t164:=Tryz.lays105.t164
 a164:=Tryz.lays105.a164
 z164:=Tryz.lays105.z164
 v164:=Tryz.lays105.v164 }
theorem Tryz.Builder_WriteString_k (B b:Nat) (bs:List Value) (s:ByteArray) (w:World) (h:Lib.IsBuilderF 172 5 B b bs w) (hlen:bs.length+s.size≤140737488355328) (hBw:B≤w.heap.size) :
  Calls Tryz.prog 100 #[.pointer (some ⟨b,0,none⟩),.string s] w fun e w'=>e=.returned (.tuple #[.int .i64 s.size,.nilIface])∧(Lib.BuilderAtF 172 5 B b (.pointer (some ⟨b,0,none⟩)) (bs++Lib.strCells s) w'∧Below B w w'∧Lib.OthersKept 5 (some b) w w'):=Any.Builder_WriteString_k Tryz.lays166 Tryz.Builder_Extra_105 B b bs s w h hlen hBw
end Go.Proofs
namespace Go.Proofs.YtdldlendppkknaaGreatDoor
open Go.RowKit
set_option linter.unusedVariables false
set_option linter.unusedSimpArgs false
def geomC (b m d:Int):Array Value:=#[.int .i64 b,.int .i64 m,.int .i64 1,.int .i64 2,.int .i64 3,.int .i64 d]
def geomZ:Array Value:=#[.int .i64 0,.int .i64 0,.int .i64 0,.int .i64 0,.int .i64 0,.int .i64 0]
def planC (b m:Int):Array Value:=if planE b m=0 then geomC b m (3+(m+1) / 2) else geomZ
def PlanPost (b m:Int) (w:World) (e:Ending) (w':World):Prop:=e=.returned (.tuple #[.agg (planC b m),.int .i64 (planE b m)])∧Below w.heap.size w w'
theorem plan_no {b m:Int} {c:Int} (h:planE b m=c) (hc:c≠0) {w w':World} (hb:Below w.heap.size w w'):PlanPost b m w (.returned (.tuple #[.agg #[.int .i64 0,.int .i64 0,.int .i64 0,.int .i64 0,.int .i64 0,.int .i64 0],.int .i64 c])) w':=by
 unfold PlanPost planC
 rw [if_neg (by rw [h];exact hc),h]
 exact ⟨rfl,hb⟩
set_option maxHeartbeats 1000000 in
theorem plan_any (b m:Int) (w:World):Calls Tryz.prog 51 #[.int .i64 b,.int .i64 m] w (PlanPost b m w):=by
 have hbel:=fun (o:Obj)=>(Below.refl w.heap.size w).alloc (Nat.le_refl _) o
 have HB:=Lib.hid hbel
 clear hbel
 by_cases h1:b<16∨223<b∨m<4∨64<m
 ·have HE:=Lib.hid (show planE b m=2 by unfold planE;rw [if_pos h1])
  by_cases a1:b<16
  ·go_enter Tryz.func51,Tryz.ntmps51
   go_wp2
   exact bodyPost_ret (v:=.tuple #[.agg #[.int .i64 0,.int .i64 0,.int .i64 0,.int .i64 0,.int .i64 0,.int .i64 0],.int .i64 2]) (by simp [results,Tryz.results51,go_sem]) rfl (plan_no HE.out (by decide) (HB.out _))
  have a1':decide (b<16)=false:=by simpa using a1
  by_cases a2:223<b
  ·go_enter Tryz.func51,Tryz.ntmps51
   go_wp2
   exact bodyPost_ret (v:=.tuple #[.agg #[.int .i64 0,.int .i64 0,.int .i64 0,.int .i64 0,.int .i64 0,.int .i64 0],.int .i64 2]) (by simp [results,Tryz.results51,go_sem]) rfl (plan_no HE.out (by decide) (HB.out _))
  have a2':decide (223<b)=false:=by simpa using a2
  by_cases a3:m<4
  ·go_enter Tryz.func51,Tryz.ntmps51
   go_wp2
   exact bodyPost_ret (v:=.tuple #[.agg #[.int .i64 0,.int .i64 0,.int .i64 0,.int .i64 0,.int .i64 0,.int .i64 0],.int .i64 2]) (by simp [results,Tryz.results51,go_sem]) rfl (plan_no HE.out (by decide) (HB.out _))
  have a3':decide (m<4)=false:=by simpa using a3
  have a4:64<m:=by omega
  clear h1
  go_enter Tryz.func51,Tryz.ntmps51
  go_wp2
  exact bodyPost_ret (v:=.tuple #[.agg #[.int .i64 0,.int .i64 0,.int .i64 0,.int .i64 0,.int .i64 0,.int .i64 0],.int .i64 2]) (by simp [results,Tryz.results51,go_sem]) rfl (plan_no HE.out (by decide) (HB.out _))
 ·have a1:16≤b:=by omega
  have a2:b≤223:=by omega
  have a3:4≤m:=by omega
  have a4:m≤64:=by omega
  have a1':decide (b<16)=false:=by simp;omega
  have a3':decide (m<4)=false:=by simp;omega
  have a2':decide (223<b)=false:=by simp;omega
  have a4':decide (64<m)=false:=by simp;omega
  by_cases h2:b≤3+(m+1) / 2
  ·have HE:=Lib.hid (show planE b m=10 by unfold planE;rw [if_neg h1,if_pos h2])
   clear h1
   go_enter Tryz.func51,Tryz.ntmps51
   go_wp2
   exact bodyPost_ret (v:=.tuple #[.agg #[.int .i64 0,.int .i64 0,.int .i64 0,.int .i64 0,.int .i64 0,.int .i64 0],.int .i64 10]) (by simp [results,Tryz.results51,go_sem]) rfl (plan_no HE.out (by decide) (HB.out _))
  ·have HE:=Lib.hid (show planE b m=0 by unfold planE;rw [if_neg h1,if_neg h2])
   clear h1
   go_enter Tryz.func51,Tryz.ntmps51
   go_wp2
   refine bodyPost_ret (v:=.tuple #[.agg #[.int .i64 b,.int .i64 m,.int .i64 1,.int .i64 2,.int .i64 3,.int .i64 (3+(m+1) / 2)],.int .i64 0]) (by simp [results,Tryz.results51,go_sem]) rfl ?_
   unfold PlanPost planC
   rw [if_pos HE.out,HE.out]
   exact ⟨rfl,HB.out _⟩
theorem repeat_zero (n:Nat):(⟨(Lib.repeatL (⟨#[0]⟩:ByteArray).data.toList n).toArray⟩:ByteArray)=zerosB n:=by
 unfold zerosB
 congr 2
 show Lib.repeatL [0] n=List.replicate n 0
 induction n with
 | zero=>rfl
 | succ n ih=>rw [Lib.repeatL,ih];rfl
theorem zeros_any (w:World):Calls Tryz.prog 142 #[] w fun e w'=>e=.returned (.string (zerosB 128))∧Below w.heap.size w w':=by
 have HR:=Lib.hid (repeat_zero 128)
 go_enter Tryz.func142,Tryz.ntmps142
 go_wp2_with fail
 refine (Tryz.strings_Repeat ⟨#[0]⟩ 128 _ (by decide) (by decide)).mono ?_
 rintro e w1 ⟨rfl,hb1⟩
 rw [HR.out]
 have HB:=Lib.hid hb1
 clear hb1
 go_wp2
 go_ret
 exact ⟨rfl,HB.out⟩
theorem head_join (b m:Nat):(⟨#[104,105,98,49]⟩:ByteArray)++⟨(putL b 2).toArray⟩++⟨(putL m 2).toArray⟩++zerosB 120=headB b m:=by
 apply WideShapes.bytes_inj
 simp [headB,headL,zerosB]
set_option maxHeartbeats 1000000 in
theorem first_any (b m:Nat) (q r t d:Int) (w:World) (hb:b≤1000000) (hm:m≤1000000):Calls Tryz.prog 53 #[.agg #[.int .i64 b,.int .i64 m,.int .i64 q,.int .i64 r,.int .i64 t,.int .i64 d]] w fun e w'=>e=.returned (.string (headB b m))∧Below w.heap.size w w':=by
 have HJ:=Lib.hid (head_join b m)
 have HR:=Lib.hid (repeat_zero 120)
 have HBb:=Lib.hid hb
 have HBm:=Lib.hid hm
 have e1:IntKind.u64.wrap (b:Int)=(b:Int):=IntWalk.u64_in _ (by omega)
 have e2:IntKind.u64.wrap (m:Int)=(m:Int):=IntWalk.u64_in _ (by omega)
 obtain ⟨p1,hp1,sp1⟩:∃ p,(⟨(putL b 2).toArray⟩:ByteArray)=p∧p.size=2:=⟨_,rfl,by show (putL b 2).toArray.size=2;rw [List.size_toArray,putL_length]⟩
 obtain ⟨p2,hp2,sp2⟩:∃ p,(⟨(putL m 2).toArray⟩:ByteArray)=p∧p.size=2:=⟨_,rfl,by show (putL m 2).toArray.size=2;rw [List.size_toArray,putL_length]⟩
 rw [hp1,hp2] at HJ
 have k0:(⟨#[104,105,98,49]⟩:ByteArray).size=4:=rfl
 have ad1:=fun (w:World)=>run_string_add_sum (P:=Tryz.prog) (w:=w) ⟨#[104,105,98,49]⟩ p1 (by omega)
 have ad2:=fun (w:World)=>run_string_add_sum (P:=Tryz.prog) (w:=w) (⟨#[104,105,98,49]⟩++p1) p2 (by rw [ByteArray.size_append];omega)
 have ad3:=fun (w:World)=>run_string_add_sum (P:=Tryz.prog) (w:=w) (⟨#[104,105,98,49]⟩++p1++p2) (zerosB 120) (by rw [ByteArray.size_append,ByteArray.size_append,zerosB_size];omega)
 have HSZ:Hid ((⟨#[104,105,98,49]⟩++p1++p2:ByteArray).size=8):=by show _=8;rw [ByteArray.size_append,ByteArray.size_append];omega
 have HP1:=Lib.hid hp1
 have HP2:=Lib.hid hp2
 clear hb hm hp1 hp2 sp1 sp2 k0
 go_enter Tryz.func53,Tryz.ntmps53
 go_wp2
 generalize hw1:w.alloc _=w1
 have G:Hid (Blk w1 w.heap.size 51 #[.int .i64 b,.int .i64 m,.int .i64 q,.int .i64 r,.int .i64 t,.int .i64 d]):=hw1▸Blk.new _ _ _
 have B:Hid (Below w.heap.size w w1):=hw1▸(Below.refl _ _).alloc (Nat.le_refl _) _
 clear hw1
 have u0:∀ u:Ext w1,u.val.cell? ⟨w.heap.size,0,none⟩=some (.int .i64 b):=fun u=>u.cell (G.out.cell 0 rfl)
 have u1:∀ u:Ext w1,u.val.cell? ⟨w.heap.size,1,none⟩=some (.int .i64 m):=fun u=>u.cell (G.out.cell 1 rfl)
 have c1:∀ w,Calls Tryz.prog 93 #[.int .u64 b,.int .i64 2] w fun e w'=>e=.returned (.string p1)∧Below w.heap.size w w':=fun w=>by rw [← HP1.out];exact put_any b 2 w (by have:=HBb.out;omega) (by omega)
 have c2:∀ w,Calls Tryz.prog 93 #[.int .u64 m,.int .i64 2] w fun e w'=>e=.returned (.string p2)∧Below w.heap.size w w':=fun w=>by rw [← HP2.out];exact put_any m 2 w (by have:=HBm.out;omega) (by omega)
 have C1:=Lib.hid c1
 have C2:=Lib.hid c2
 clear c1 c2
 refine wp_region_ext (by kernel_rfl) (by kernel_rfl) ?_
 repeat (go_big_quiet_step (first
  | (go_at_call 93;with_reducible exact Ext.call (C1.out _))
  | (go_at_call 93;with_reducible exact Ext.call (C2.out _))))
 refine wpQuiet_nil ?_
 rintro _ ⟨u,rfl⟩
 have B:=Lib.hid (B.out.trans (u.below.mono B.out.size))
 generalize u.val=w2 at B
 have hsz:=HSZ.out
 go_wp2_with fail
 refine (Tryz.strings_Repeat ⟨#[0]⟩ 120 _ (by decide) (by decide)).mono ?_
 rintro e w3 ⟨rfl,hb3⟩
 rw [HR.out]
 have B:=Lib.hid (B.out.trans (hb3.mono B.out.size))
 clear hb3
 go_wp2
 go_ret
 exact ⟨by rw [← HJ.out];rfl,B.out⟩
theorem bit_ask (x k:Nat) (hx:x<256):(bits .and .u8 ((x:Int) / 2 ^ k) 1 == 1)=x.testBit k:=by
 have e:((x:Int) / 2 ^ k)=((x / 2 ^ k:Nat):Int):=by simp
 have hle:x / 2 ^ k≤x:=Nat.div_le_self _ _
 rw [e,show (1:Int)=((1:Nat):Int) by rfl,u8_and_nat _ _ (by omega) (by omega),Nat.and_one_is_mod]
 rw [Nat.testBit_eq_decide_div_mod_eq]
 by_cases h:x / 2 ^ k % 2=1
 ·simp [h]
 ·have:x / 2 ^ k % 2=0:=by omega
  simp [this]
theorem row_get {w:World} {B:Nat} {A:Option Addr} {xs:List ByteArray} (h:RowAt w B A (xs.map .string)) (k:Nat) (hk:k<xs.length):∃ b o,A=some ⟨b,o,none⟩∧b<B∧w.cell? ⟨b,o+k,none⟩=some (.string (xs.getD k ⟨#[]⟩)):=by
 obtain ⟨b,o,rfl,hb,hc⟩:=h.at_ (by simp;omega)
 refine ⟨b,o,rfl,hb,?_⟩
 simp only [List.getD,List.getElem?_eq_getElem hk,Option.getD_some]
 exact hc k _ (by simp [hk])
theorem bitL_byte (s:ByteArray) (i:Nat) (h:i / 8<s.size):bitL s.data.toList i=(s[i / 8].toNat).testBit (i % 8):=by
 unfold bitL
 simp only [List.getD]
 rw [List.getElem?_eq_getElem (by simpa using h)]
 rfl
set_option maxHeartbeats 1000000 in
theorem bit_any (A:Option Addr) (c:Nat) (xs:List ByteArray) (i:Nat) (w:World) (hl:3≤xs.length) (hx:xs.length≤1000000) (h2:(xs.getD 2 ⟨#[]⟩).size=128) (hi:i<1024) (h:RowAt w w.heap.size A (xs.map .string)) :
  Calls Tryz.prog 54 #[.slice A xs.length c,.int .i64 i] w fun e w'=>e=.returned (.bool (bitL (blkL xs 2) i))∧w=w':=by
 obtain ⟨b,o,rfl,hb,hc⟩:=row_get h 2 (by omega)
 have HE:Hid (∀ s:ByteArray,xs.getD 2 ⟨#[]⟩=s→bitL (blkL xs 2) i=bitL s.data.toList i):=fun s e=>by unfold blkL;rw [e]
 generalize hs:xs.getD 2 ⟨#[]⟩=s at h2 hc
 have h3:i / 8<s.size:=by omega
 have HB:=Lib.hid ((HE.out s hs).trans (bitL_byte s i h3))
 have hlt:=s[i / 8].toNat_lt
 have HK:=Lib.hid (bit_ask s[i / 8].toNat (i % 8) hlt)
 have l2:(2:Int)<(xs.length:Int):=by omega
 clear h hs HE h2 hlt
 go_enter Tryz.func54,Tryz.ntmps54
 go_wp2
 go_ret
 exact ⟨ret_bool (by rw [HB.out];exact HK.out),rfl⟩
def ofE (n:Nat):Option Nat→Ending
 | some m=>.returned (.tuple #[.agg #[.int .i64 n,.int .i64 m,.int .i64 1,.int .i64 2,.int .i64 3,.int .i64 (dataN m:Nat)],.int .i64 0])
 | none=>.returned (.tuple #[.agg #[.int .i64 0,.int .i64 0,.int .i64 0,.int .i64 0,.int .i64 0,.int .i64 0],.int .i64 3])
def OfPost (xs:List ByteArray) (w:World) (e:Ending) (w':World):Prop:=e=ofE xs.length (ofR xs)∧Below w.heap.size w w'
theorem of_none {xs:List ByteArray} (h:ofR xs=none) {w w':World} (hb:Below w.heap.size w w'):OfPost xs w (.returned (.tuple #[.agg #[.int .i64 0,.int .i64 0,.int .i64 0,.int .i64 0,.int .i64 0,.int .i64 0],.int .i64 3])) w':=by
 unfold OfPost;rw [h];exact ⟨rfl,hb⟩
theorem getD_eq (xs:List ByteArray) (k:Nat) (h:k<xs.length):xs.getD k ⟨#[]⟩=xs[k]:=by simp [List.getD,h]
set_option maxHeartbeats 1000000 in
theorem of_bad (A:Option Addr) (c:Nat) (xs:List ByteArray) (w:World) (hx:xs.length≤1000000) (h:RowAt w w.heap.size A (xs.map .string)) (hn:¬ ∀ s ∈ xs,s.size=128) :
  Calls Tryz.prog 17 #[.slice A xs.length c] w (OfPost xs w):=by
 have HO:=Lib.hid (show ofR xs=none from ofR_none.2 fun hv=>hn hv.1)
 have HR:=Lib.hid h
 have HN:=Lib.hid hn
 have HB:=Lib.hid (fun (o:Obj)=>(Below.refl w.heap.size w).alloc (Nat.le_refl _) o)
 clear h hn
 go_enter Tryz.func17,Tryz.ntmps17
 go_wp2
 go_loop [12] (fun i=>∃ k:Nat,k≤xs.length∧i=.int .i64 k∧Hid (∀ j (hj:j<xs.length),j<k→xs[j].size=128)) (fun i=>xs.length-(intOf i).toNat)
 case atStart=>exact ⟨0,Nat.zero_le _,rfl,fun j hj h=>by omega⟩
 case round=>
  obtain ⟨k,hk,rfl,HK⟩:=hrel
  by_cases hlt:k<xs.length
  ·obtain ⟨b,o,rfl,hb,hc⟩:=row_get HR.out k hlt
   rw [getD_eq xs k hlt] at hc
   have hc1:(w.alloc (.cells #[.int .i64 0,.int .i64 0,.int .i64 0,.int .i64 0,.int .i64 0,.int .i64 0] 51)).cell? ⟨b,o+k,none⟩=some (.string xs[k]):=((HB.out _).cell (p:=⟨b,o+k,none⟩) hb).trans hc
   clear hc
   by_cases hs:xs[k].size=128
   ·have h1:((xs[k].size:Int) != 128)=false:=by simp [hs]
    have HS:=Lib.hid hs
    clear hs
    go_wp2
    go_round
    case rel=>exact ⟨k+1,by omega,by go_num,fun j hj hl=>by
     by_cases e:j=k
     ·subst e;exact HS.out
     ·exact HK.out j hj (by omega)⟩
    case measure=>simp [intOf];omega
   ·have h1:((xs[k].size:Int) != 128)=true:=by simp;omega
    clear hs
    go_wp2
    exact bodyPost_ret (v:=.tuple #[.agg #[.int .i64 0,.int .i64 0,.int .i64 0,.int .i64 0,.int .i64 0,.int .i64 0],.int .i64 3]) (by simp [results,Tryz.results17,go_sem]) rfl (of_none HO.out (HB.out _))
  ·exfalso
   apply HN.out
   intro s hs
   obtain ⟨j,hj,rfl⟩:=List.getElem_of_mem hs
   exact HK.out j hj (by omega)
end Go.Proofs.YtdldlendppkknaaGreatDoor
