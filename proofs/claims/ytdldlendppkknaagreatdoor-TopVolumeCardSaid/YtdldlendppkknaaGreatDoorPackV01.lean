/-
  Contracts and plain laws: Infra.
-/
import Derived.WalkKit
import Derived.WalkSpells
import Derived.WalkLawsBesides
import Derived.Lib.Hide
import Derived.Deep.QuietTactic
import Derived.BigQuiet
import Derived.Lib.Strings
import Derived.WideShapes
import Derived.Deep.MidRow
import Derived.Lib.LazyBuf
import Derived.OwnWalk
import Derived.Laws.CopyRow
import Derived.Lib.ConvBytes
import Derived.Test.YtdldlendppkknaaGreatDoorRows
import Derived.ProofKit
import Derived.OpenShut
import Derived.ShutString
import Derived.Lib.SmallJoins
import Derived.Carry
import Derived.SliceStrings
import Derived.SizedLaws
import Derived.StillTail
import Derived.RangeFuncNested
import Derived.RangeFuncBound
import Derived.RangeFuncCalls
import Derived.RangeFuncLeaves
import Derived.Shelf.Abstract
import Derived.Shelf.RegionOpen
import Derived.OwnWalkIn
import Derived.TacticsInMore
import Derived.LoopNIn
import Derived.LoopIn
import Derived.OrdersIn
namespace Go.Proofs.YtdldlendppkknaaGreatDoor
open Go.RowKit
set_option linter.unusedVariables false
set_option linter.unusedSimpArgs false
theorem ret_int {k:IntKind} {a b:Int} (h:a=b):Ending.returned (.int k a)=.returned (.int k b):=by rw [h]
theorem ret_bool {a b:Bool} (h:a=b):Ending.returned (.bool a)=.returned (.bool b):=by rw [h]
def RowAt (w:World) (B:Nat) (A:Option Addr) (xs:List Value):Prop:=
 xs=[]∨∃ b o,A=some ⟨b,o,none⟩∧b<B∧∀ j u,xs[j]?=some u→w.cell? ⟨b,o+j,none⟩=some u
theorem RowAt.nil {w:World} {B:Nat} {A:Option Addr}:RowAt w B A []:=.inl rfl
theorem RowAt.at_ {w:World} {B:Nat} {A:Option Addr} {xs:List Value} (h:RowAt w B A xs) (hn:0<xs.length) :
  ∃ b o,A=some ⟨b,o,none⟩∧b<B∧∀ j u,xs[j]?=some u→w.cell? ⟨b,o+j,none⟩=some u:=by
 rcases h with rfl | h
 ·simp at hn
 ·exact h
theorem RowAt.keep {w w':World} {B:Nat} {A:Option Addr} {xs:List Value} (h:RowAt w B A xs) (hk:∀ b o,b<B→w'.cell? ⟨b,o,none⟩=w.cell? ⟨b,o,none⟩):RowAt w' B A xs:=by
 rcases h with rfl | ⟨b,o,hA,hb,hc⟩
 ·exact .inl rfl
 ·exact .inr ⟨b,o,hA,hb,fun j u hu=>(hk b _ hb).trans (hc j u hu)⟩
theorem RowAt.below {w w':World} {B:Nat} {A:Option Addr} {xs:List Value} (h:RowAt w B A xs) (hb:Below B w w'):RowAt w' B A xs:=
 h.keep fun b o hlt=>hb.cell (p:=⟨b,o,none⟩) hlt
theorem RowAt.mono {w:World} {B B':Nat} {A:Option Addr} {xs:List Value} (h:RowAt w B A xs) (hB:B≤B'):RowAt w B' A xs:=by
 rcases h with rfl | ⟨b,o,hA,hb,hc⟩
 ·exact .inl rfl
 ·exact .inr ⟨b,o,hA,by omega,hc⟩
theorem add_zero_addr (g j:Nat):(⟨g,0,none⟩:Addr).add j=⟨g,0+j,none⟩:=by unfold Addr.add;split <;> simp_all
theorem RowAt.of_own {w:World} {base:Nat} {e:TypeId} {A:Option Addr} {n c:Nat} {xs:List Value} (h:w.ownsRow base e 1 (.slice A n c) n xs):RowAt w w.heap.size A xs:=by
 obtain ⟨h1,h2⟩:=h
 rcases h2 with ⟨_,rfl⟩ | ⟨g,cap,cur,hv,hg,hh,hnc,hm,hsz,ht⟩
 ·exact .inl (List.eq_nil_of_length_eq_zero (by simpa using h1))
 ·injection hv with hA
  refine .inr ⟨g,0,hA,?_,fun j u hu=>?_⟩
  ·rcases Nat.lt_or_ge g w.heap.size with hlt | hge
   ·exact hlt
   ·rw [Array.getElem?_eq_none hge] at hh;cases hh
  ·have:cur[j]?=some u:=by
    rw [← ht,List.getElem?_take] at hu
    split at hu
    ·simpa using hu
    ·cases hu
   simp [World.cell?,hh,this]
structure Ext (w:World) where
 val:World
 below:Below w.heap.size w val
instance (w:World):Inhabited (Ext w):=⟨⟨w,Below.refl _ _⟩⟩
theorem Ext.cell {w:World} (u:Ext w) {b o:Nat} {x:Value} (h:w.cell? ⟨b,o,none⟩=some x):u.val.cell? ⟨b,o,none⟩=some x:=by
 have hb:b<w.heap.size:=by
  rcases Nat.lt_or_ge b w.heap.size with hlt | hge
  ·exact hlt
  ·simp [World.cell?,Array.getElem?_eq_none hge] at h
 rw [← h];exact u.below.cell (p:=⟨b,o,none⟩) hb
theorem RowAt.ext {w:World} {A:Option Addr} {xs:List Value} (h:RowAt w w.heap.size A xs) (u:Ext w):RowAt u.val u.val.heap.size A xs:=(h.below u.below).mono u.below.size
theorem wp_region_ext {P:Program} {id:Nat} {Q:Exit→Act→World→Prop} {a:Act} {w:World} {l:List Oper} (hm:P.follows .mixedOrders=true) (hB:Region.lexB .any l.toArray=true)
  (h:wpQuiet P l.toArray (fun w'=>∃ u:Ext w,w'=u.val) (fun a'=>∀ w',(∃ u:Ext w,w'=u.val)→Q .normal a' w') l a):(Code.region id l.toArray true).wp P Q a w:=
 wp_region_quiet (C:=fun w'=>∃ u:Ext w,w'=u.val) hm hB ⟨⟨w.drew,(Below.refl _ _).drew⟩,rfl⟩ (by simpa using h)
theorem Ext.call {P:Program} {f:FuncId} {args:Array Value} {w:World} {u:Ext w} {v:Value}
  (h:Calls P f args u.val fun e w'=>e=.returned v∧Below u.val.heap.size u.val w'):Calls P f args u.val fun e w''=>e=.returned v∧∃ u':Ext w,w''=u'.val:=
 h.mono fun _ w' ⟨he,hb⟩=>⟨he,⟨w',u.below.trans (hb.mono u.below.size)⟩,rfl⟩
theorem Ext.call_same {P:Program} {f:FuncId} {args:Array Value} {w:World} {u:Ext w} {v:Value}
  (h:Calls P f args u.val fun e w'=>e=.returned v∧u.val=w'):Calls P f args u.val fun e w''=>e=.returned v∧∃ u':Ext w,w''=u'.val:=
 h.mono fun _ w' ⟨he,hb⟩=>⟨he,u,hb.symm⟩
theorem Ext.call_drew {P:Program} {f:FuncId} {args:Array Value} {w:World} {u:Ext w} {v:Value}
  (h:Calls P f args u.val fun e w'=>e=.returned v∧∃ k,w'=u.val.drewN k):Calls P f args u.val fun e w''=>e=.returned v∧∃ u':Ext w,w''=u'.val:=
 h.mono fun _ w' ⟨he,k,hk⟩=>⟨he,⟨w',by subst hk;exact ⟨u.below.os,u.below.tape,u.below.output,u.below.size,u.below.block⟩⟩,rfl⟩
theorem below_drewN {B:Nat} {a w:World} (h:Below B a w) (n:Nat):Below B a (w.drewN n):=⟨h.os,h.tape,h.output,h.size,h.block⟩
def Blk (w:World) (g:Nat) (t:TypeId) (cs:Array Value):Prop:=w.heap[g]?=some (.cells cs t (0,0))
theorem Blk.lt {w:World} {g:Nat} {t:TypeId} {cs:Array Value} (h:Blk w g t cs):g<w.heap.size:=by
 rcases Nat.lt_or_ge g w.heap.size with hlt | hge
 ·exact hlt
 ·unfold Blk at h;rw [Array.getElem?_eq_none hge] at h;cases h
theorem Blk.cell {w:World} {g:Nat} {t:TypeId} {cs:Array Value} (h:Blk w g t cs) (i:Nat) {v:Value} (hv:cs[i]?=some v):w.cell? ⟨g,i,none⟩=some v:=by
 unfold Blk at h
 simp [World.cell?,h,hv]
theorem Blk.frozen {w:World} {g:Nat} {t:TypeId} {cs:Array Value} (h:Blk w g t cs) (i:Nat):w.frozen? ⟨g,i,none⟩=false:=by
 unfold Blk at h
 simp [World.frozen?,h]
theorem Blk.new (w:World) (t:TypeId) (cs:Array Value):Blk (w.alloc (.cells cs t)) w.heap.size t cs:=heap_alloc_new w _
theorem Blk.alloc {w:World} {g:Nat} {t:TypeId} {cs:Array Value} (h:Blk w g t cs) (o:Obj):Blk (w.alloc o) g t cs:=(Below.heap_alloc w o g h.lt).trans h
theorem Blk.drew {w:World} {g:Nat} {t:TypeId} {cs:Array Value} (h:Blk w g t cs):Blk w.drew g t cs:=h
theorem Blk.set_ {w:World} {g:Nat} {t:TypeId} {cs:Array Value} (h:Blk w g t cs) (i:Nat) (u:Value):Blk (w.setCell ⟨g,i,none⟩ u) g t (cs.setIfInBounds i u):=by
 unfold Blk at h ⊢
 simp [World.setCell,Array.getElem?_modify,h]
theorem Blk.far {w:World} {g:Nat} {t:TypeId} {cs:Array Value} (h:Blk w g t cs) {p:Addr} (hp:g≠p.block) (u:Value):Blk (w.setCell p u) g t cs:=(Below.heap_setCell w p u g hp).trans h
theorem Blk.below {w w':World} {B g:Nat} {t:TypeId} {cs:Array Value} (h:Blk w g t cs) (hb:Below B w w') (hg:g<B):Blk w' g t cs:=(hb.block g hg).trans h
theorem Blk.grown {w w':World} {g:Nat} {t:TypeId} {cs:Array Value} {row:Option Nat} (h:Blk w g t cs) (hb:w.grownBy w' row) (hg:some g≠row):Blk w' g t cs:=(hb.block g h.lt hg).trans h
theorem only_setCell {a w:World} {g:Nat} (h:a.grownBy w (some g)) (i:Nat) (u:Value):a.grownBy (w.setCell ⟨g,i,none⟩ u) (some g):=
 ⟨h.os,h.tape,h.output,by simpa [World.setCell] using h.size,fun k hk hne=>(Below.heap_setCell w _ u k (by rintro rfl;exact hne rfl)).trans (h.block k hk hne)⟩
theorem only_drew {a w:World} {row:Option Nat} (h:a.grownBy w row):a.grownBy w.drew row:=⟨h.os,h.tape,h.output,h.size,h.block⟩
theorem own_below {w w':World} {base:Nat} {e:TypeId} {size:Nat} {v:Value} {n:Nat} {xs:List Value} (h:w.ownsRow base e size v n xs) (hb:Below w.heap.size w w'):w'.ownsRow base e size v n xs:=by
 obtain ⟨h1,h2⟩:=h
 refine ⟨h1,?_⟩
 rcases h2 with h2 | ⟨g,cap,cur,hv,hg,hh,r⟩
 ·exact .inl h2
 ·refine .inr ⟨g,cap,cur,hv,hg,?_,r⟩
  have hlt:g<w.heap.size:=by
   rcases Nat.lt_or_ge g w.heap.size with hlt | hge
   ·exact hlt
   ·rw [Array.getElem?_eq_none hge] at hh;cases hh
  rw [hb.block g hlt];exact hh
theorem own_row {w:World} {base:Nat} {e:TypeId} {size:Nat} {v:Value} {n:Nat} {xs:List Value} (h:w.ownsRow base e size v n xs):∀ k,v.ownBlock=some k→base≤k:=by
 intro k hk
 rcases h.2 with ⟨rfl,_⟩ | ⟨g,cap,cur,rfl,hg,_⟩
 ·simp [Value.ownBlock] at hk
 ·simp [Value.ownBlock] at hk;omega
theorem own_ne {w:World} {base:Nat} {e t:TypeId} {size:Nat} {v:Value} {n:Nat} {xs:List Value} {g:Nat} {cs:Array Value} (h:w.ownsRow base e size v n xs) (hg:Blk w g t cs) (hne:e≠t):some g≠v.ownBlock:=by
 rcases h.2 with ⟨rfl,_⟩ | ⟨g',cap,cur,rfl,_,hh,_⟩
 ·simp [Value.ownBlock]
 ·intro he
  have:g'=g:=by simpa [Value.ownBlock] using he.symm
  subst this
  unfold Blk at hg
  rw [hg] at hh
  injection hh with hh
  injection hh with _ ht
  exact hne ht.symm
theorem str_eq (a:ByteArray):(!a.toList == a.toList)=false:=by simp
theorem str_ne {a b:ByteArray} (h:a≠b):(!a.toList == b.toList)=true:=by
 simp only [Bool.not_eq_true',beq_eq_false_iff_ne]
 intro e
 rw [Lib.toList_data,Lib.toList_data] at e
 exact h (WideShapes.bytes_inj e)
section
variable {P:Program} {ops:Array Oper} {rest:List Oper} {o:Oper} {a:Act} {w:World} {Q:Exit→Act→World→Prop}
theorem load_blk (ty:TypeId) (x:Operand) (g:Nat) (t:TypeId) (cs:Array Value) (d:TypeDesc) (hgd:o.guard=none) (ho:o.op=.load ty x) (hx:a.eval x=.pointer (some ⟨g,0,none⟩)) (hg:Blk w g t cs)
  (hu:P.underlying ty=some d) (hd:(match d with | .struct _ | .array _ _=>true | _=>false)=true) (hi:(P.info? ty).map (·.size)=some cs.size)
  (h:wpList P ops Q rest (a.put o.dst (.agg cs)) w):wpList P ops Q (o::rest) a w:=
 wpList_load_row hgd ty x ho g hx t cs (0,0) d hg hu hd hi h
theorem quiet_load_blk {C:World→Prop} {K:Act→Prop} (ty:TypeId) (x:Operand) (g:Nat) (t:TypeId) (cs:Array Value) (d:TypeDesc) (ho:o.op=.load ty x) (hx:a.eval x=.pointer (some ⟨g,0,none⟩)) (hg:∀ w,C w→Blk w g t cs)
  (hu:P.underlying ty=some d) (hd:(match d with | .struct _ | .array _ _=>true | _=>false)=true) (hi:(P.info? ty).map (·.size)=some cs.size)
  (hk:K (a.put o.dst (.agg cs))):o.quiet P a C K:=
 ⟨.agg cs,fun w hw=>by
  unfold Oper.quietAt
  have hr:=run_loadVar_row (P:=P) w g t ty cs (0,0) d (hg w hw) hu hd hi
  unfold execOp
  simp only [ho,hx,Instr.loadAt,Instr.sureAddr,Sem.run_bind,Sem.run_pure,Result.andThen_ok,hr]
  exact ⟨rfl,rfl⟩,hk⟩
end
def setL:Array Value→Nat→List Value→Array Value
 | cs,_,[]=>cs
 | cs,o,v::vs=>setL (cs.setIfInBounds o v) (o+1) vs
theorem setL_get:∀ (vs:List Value) (cs:Array Value) (o j:Nat),o+vs.length≤cs.size→(setL cs o vs)[j]?=if o≤j∧j<o+vs.length then vs[j-o]? else cs[j]?
 | [],cs,o,j,_=>by rw [setL,if_neg (by intro h;simp at h;omega)]
 | v::vs,cs,o,j,h=>by
  simp only [List.length_cons] at h
  rw [setL,setL_get vs _ (o+1) j (by simp;omega)]
  simp only [List.length_cons]
  by_cases hj:j=o
  ·subst hj
   rw [if_neg (by omega),if_pos (by omega),Array.getElem?_setIfInBounds]
   simp;omega
  ·by_cases hin:o+1≤j∧j<o+1+vs.length
   ·rw [if_pos hin,if_pos (by omega)]
    rw [show j-o=(j-(o+1))+1 by omega,List.getElem?_cons_succ]
   ·rw [if_neg hin,if_neg (by omega),Array.getElem?_setIfInBounds,if_neg (by omega)]
theorem setL_all (cs:Array Value) (vs:List Value) (h:vs.length=cs.size):setL cs 0 vs=vs.toArray:=by
 apply Array.ext_getElem?
 intro j
 rw [setL_get vs cs 0 j (by omega)]
 by_cases hj:j<vs.length
 ·rw [if_pos (by omega)];simp
 ·rw [if_neg (by omega),Array.getElem?_eq_none (by omega)];simp;omega
theorem blk_setCells {g:Nat} {t:TypeId}:∀ (vs:List Value) (o:Nat) (w:World) (cs:Array Value),Blk w g t cs→Blk (w.setCells g o vs) g t (setL cs o vs)
 | [],_,_,_,h=>h
 | v::vs,o,w,cs,h=>blk_setCells vs (o+1) _ _ (h.set_ o v)
theorem only_setCells {a:World} {g:Nat}:∀ (vs:List Value) (o:Nat) (w:World),a.grownBy w (some g)→a.grownBy (w.setCells g o vs) (some g)
 | [],_,_,h=>h
 | v::vs,o,w,h=>only_setCells vs (o+1) _ (only_setCell h o v)
section
variable {P:Program} {ops:Array Oper} {rest:List Oper} {o:Oper} {a:Act} {w:World} {Q:Exit→Act→World→Prop}
theorem store_blk (ty:TypeId) (x y:Operand) (g:Nat) (t:TypeId) (cs new:Array Value) (hgd:o.guard=none) (ho:o.op=.store ty x y) (hx:a.eval x=.pointer (some ⟨g,0,none⟩)) (hy:a.eval y=.agg new)
  (hg:Blk w g t cs) (hsz:new.size=cs.size) (hi:(P.info? ty).map (·.size)=some new.size) (h1:∀ v ∈ new,v.oneCell'=true)
  (h:∀ w',Blk w' g t new→w.grownBy w' (some g)→wpList P ops Q rest (a.put o.dst undef) w'):wpList P ops Q (o::rest) a w:=by
 refine wpList_store_mid hgd ty x y ho g 0 new hx hy (fun j hj=>⟨?_,by rw [Nat.zero_add];exact hg.frozen j⟩) hi (by rw [Array.all_eq_true_iff_forall_mem];exact h1) (h _ ?_ (only_setCells _ _ _ (World.grownBy.refl w _)))
 ·rw [Nat.zero_add,hg.cell j (Array.getElem?_eq_getElem (by omega))];rfl
 ·have:=blk_setCells new.toList 0 w cs hg
  rwa [setL_all cs new.toList (by simpa using hsz),Array.toArray_toList] at this
end
theorem results_ct {P:Program} {f:Func} {ts:Array Value} {s k g:Nat} {ty t:TypeId} {cs:Array Value} {d:TypeDesc} {w:World} {v:Value} (hf:f.results=#[.cell s ty,.tmp k]) (hs:ts.getD s undef=.pointer (some ⟨g,0,none⟩)) (hk:ts.getD k undef=v) (hg:Blk w g t cs)
  (hu:P.underlying ty=some d) (hd:(match d with | .struct _ | .array _ _=>true | _=>false)=true) (hi:(P.info? ty).map (·.size)=some cs.size) :
  (results f ts).run P w=.ok (.tuple #[.agg cs,v]) w:=by
 have hr:=run_loadVar_row (P:=P) w g t ty cs (0,0) d hg hu hd hi
 simp only [Array.getD_eq_getD_getElem?] at hs hk
 unfold results
 rw [hf]
 simp [hs,hk,asAddr,hr,Sem.run_bind,Sem.run_pure,Result.andThen_ok]
theorem results_ctc {P:Program} {f:Func} {ts:Array Value} {s k s2 g g2:Nat} {ty t ty2 t2:TypeId} {cs cs2:Array Value} {d d2:TypeDesc} {w:World} {v:Value} (hf:f.results=#[.cell s ty,.tmp k,.cell s2 ty2]) (hs:ts.getD s undef=.pointer (some ⟨g,0,none⟩)) (hk:ts.getD k undef=v) (hs2:ts.getD s2 undef=.pointer (some ⟨g2,0,none⟩)) (hg:Blk w g t cs)
  (hu:P.underlying ty=some d) (hd:(match d with | .struct _ | .array _ _=>true | _=>false)=true) (hi:(P.info? ty).map (·.size)=some cs.size)
  (hg2:Blk w g2 t2 cs2) (hu2:P.underlying ty2=some d2) (hd2:(match d2 with | .struct _ | .array _ _=>true | _=>false)=true) (hi2:(P.info? ty2).map (·.size)=some cs2.size) :
  (results f ts).run P w=.ok (.tuple #[.agg cs,v,.agg cs2]) w:=by
 have hr:=run_loadVar_row (P:=P) w g t ty cs (0,0) d hg hu hd hi
 have hr2:=run_loadVar_row (P:=P) w g2 t2 ty2 cs2 (0,0) d2 hg2 hu2 hd2 hi2
 simp only [Array.getD_eq_getD_getElem?] at hs hk hs2
 unfold results
 rw [hf]
 simp [hs,hk,hs2,asAddr,hr,hr2,Sem.run_bind,Sem.run_pure,Result.andThen_ok]
section
variable {P:Program} {ops:Array Oper} {rest:List Oper} {o:Oper} {a:Act} {w:World} {Q:Exit→Act→World→Prop}
theorem store_cell (ty:TypeId) (x y:Operand) (g i:Nat) (k:IntKind) (n:Int) (v0:Value) (hgd:o.guard=none) (ho:o.op=.store ty x y) (hx:a.eval x=.pointer (some ⟨g,i,none⟩)) (hy:a.eval y=.int k n)
  (hs:∀ w,Sem.run P (sizeOf ty) w=.ok 1 w) (hc:w.cell? ⟨g,i,none⟩=some v0) (hf:w.frozen? ⟨g,i,none⟩=false) (h:∀ w',w.setCell ⟨g,i,none⟩ (.int k n)=w'→wpList P ops Q rest (a.put o.dst undef) w'):wpList P ops Q (o::rest) a w:=by
 refine wpList_plain hgd fun K hK=>?_
 unfold Oper.wp execOp
 simp only [ho,hx,hy]
 simp [go_sem,hs,hc,hf]
 exact hK _ _ (h _ rfl)
end
theorem own_blk {w:World} {base:Nat} {e:TypeId} {g n:Nat} {xs:List Value} (h:w.ownsRow base e 1 (.slice (some ⟨g,0,none⟩) n n) n xs):Blk w g e xs.toArray:=by
 obtain ⟨h1,h2⟩:=h
 rcases h2 with ⟨hv,_⟩ | ⟨g',cap,cur,hv,_,hh,_,_,hs,ht⟩
 ·cases hv
 ·cases hv
  unfold Blk
  rw [hh]
  have:cur.toList.length=n:=by simpa using hs
  rw [List.take_of_length_le (by omega)] at ht
  rw [← ht]
theorem Blk.row {w:World} {g:Nat} {t:TypeId} {xs:List Value} (h:Blk w g t xs.toArray):RowAt w w.heap.size (some ⟨g,0,none⟩) xs:=
 .inr ⟨g,0,rfl,h.lt,fun j u hu=>by rw [Nat.zero_add];exact h.cell j (by simpa using hu)⟩
section
variable {P:Program} {ops:Array Oper} {rest:List Oper} {o:Oper} {a:Act} {w:World} {Q:Exit→Act→World→Prop}
theorem make_blk (t:TypeId) (l c:Operand) (e:TypeId) (i:TypeInfo) (z:Value) (L C:Int) (n:Nat) (hgd:o.guard=none) (hop:o.op=.makeSlice t l c) (h1:P.underlying t=some (.slice e)) (h2:P.info? e=some i) (h3:i.zero=some z) (h4:i.size=1) (hz:z.cells=#[z])
  (hl:a.eval l=.int .i64 L) (hc:a.eval c=.int .i64 C) (hL:L=(n:Int)) (hC:C=(n:Int)) (hb:i.bytes * n≤281474976710656) (hm:n≤maxLen)
  (h:∀ w',Blk w' w.heap.size e (Array.replicate n z)→w.grownBy w' none→wpList P ops Q rest (a.put o.dst (.slice (some ⟨w.heap.size,0,none⟩) n n)) w'):wpList P ops Q (o::rest) a w:=by
 refine wpList_make_full w hgd l c t hop 0 e i z 1 h1 h2 h3 h4 .i64 .i64 L C n hl hc hL hC hb hm (Nat.zero_le _) fun w' own hg=>h w' ?_ hg
 have:=own_blk own
 have e:(madeCells z.cells (n * 1)).toList.toArray=Array.replicate n z:=by
  rw [hz,Array.toArray_toList]
  apply Array.ext
  ·simp [size_madeCells]
  ·intro k h1 h2
   simp [madeCells,Nat.mod_one]
 rwa [e] at this
theorem copy_str_blk (d s:Operand) (dT sT e:TypeId) (g n c:Nat) (t:TypeId) (cs:Array Value) (st:ByteArray) (hgd:o.guard=none) (ho:o.op=.call { callee:=.builtin .copy,args:=#[d,s],argTypes:=#[dT,sT] })
  (hu:P.underlying dT=some (.slice e)) (hz:∀ w,(sizeOf e).run P w=.ok 1 w) (hd:a.eval d=.slice (some ⟨g,0,none⟩) n c) (hs:a.eval s=.string st) (hg:Blk w g t cs) (hn:cs.size=n) (hst:st.size=n)
  (h:∀ w',Blk w' g t (st.data.toList.map fun x=>Value.int .u8 (x.toNat:Int)).toArray→w.grownBy w' (some g)→wpList P ops Q rest (a.put o.dst (goInt st.size)) w'):wpList P ops Q (o::rest) a w:=by
 have hrun:=Go.run_copy_string (P:=P) w dT sT o.type e g 0 n c st hu hz (by omega) (fun j hj=>by rw [Nat.zero_add,hg.cell j (Array.getElem?_eq_getElem (by omega))];rfl) (fun j _=>by rw [Nat.zero_add];exact hg.frozen j)
 refine wpList_plain hgd fun K hK=>?_
 unfold Oper.wp
 simp only [execOp,ho,resolve,invoke,builtin,hd,hs]
 simp [hd,hs,hrun,Result.andThen]
 refine hK _ _ (h _ ?_ (only_setCells _ _ _ (World.grownBy.refl w _)))
 have hb:=blk_setCells (st.data.toList.map fun x=>Value.int .u8 (x.toNat:Int)) 0 w cs hg
 rwa [setL_all _ _ (by rw [List.length_map,Array.length_toList,hn,← hst];rfl)] at hb
theorem copy_row_blk (d s:Operand) (dT sT e:TypeId) (g n c:Nat) (t:TypeId) (cs:Array Value) (B:Nat) (A:Option Addr) (m:Nat) (vs:List Value) (hgd:o.guard=none) (ho:o.op=.call { callee:=.builtin .copy,args:=#[d,s],argTypes:=#[dT,sT] })
  (hu:P.underlying dT=some (.slice e)) (hz:(P.info? e).map (·.size)=some 1) (hd:a.eval d=.slice (some ⟨g,0,none⟩) n c) (hs:a.eval s=.slice A n m) (hg:Blk w g t cs) (hn:cs.size=n) (hv:vs.length=n) (hpos:0<n) (hr:RowAt w B A vs) (h1:∀ v ∈ vs,v.oneCell'=true)
  (h:∀ w',Blk w' g t vs.toArray→w.grownBy w' (some g)→wpList P ops Q rest (a.put o.dst (goInt n)) w'):wpList P ops Q (o::rest) a w:=by
 subst hv
 obtain ⟨b,off,rfl,hb,hc⟩:=hr.at_ hpos
 have hrun:=run_copy_row (P:=P) w dT sT o.type e g 0 vs.length c ⟨b,off,none⟩ vs.length m cs t vs hu hz hg (Nat.min_self _).symm (fun j v hj=>by
  have:(⟨b,off,none⟩:Addr).add j=⟨b,off+j,none⟩:=by unfold Addr.add;split <;> simp_all
  rw [this];exact hc j v hj) (by omega) h1
 refine wpList_plain hgd fun K hK=>?_
 unfold Oper.wp
 simp only [execOp,ho,resolve,invoke,builtin,hd,hs]
 simp [hd,hs,hrun,Result.andThen]
 refine hK _ _ (h _ ?_ ?_)
 ·have:=setRow_heap w g cs (cs.toList.take 0++vs++cs.toList.drop (0+vs.length)).toArray t (0,0) hg
  unfold Blk
  rw [show vs.toArray=(cs.toList.take 0++vs++cs.toList.drop (0+vs.length)).toArray by
   rw [List.drop_of_length_le (by simp;omega)];simp]
  simpa using this
 ·exact ⟨rfl,rfl,rfl,by simp [World.setRow],fun k hk hne=>setRow_other w g k _ (by rintro rfl;exact hne rfl)⟩
end
theorem bytes_of_str {P:Program} {ops:Array Oper} {rest:List Oper} {o:Oper} {a:Act} {w:World} {Q:Exit→Act→World→Prop} (src dst:TypeId) (x:Operand) (e:TypeId) (s:ByteArray) {u:TypeDesc} (hgd:o.guard=none) (ho:o.op=.convert src dst x) (hx:a.eval x=.string s)
  (hs:P.underlying src=some u) (hd:P.underlying dst=some (.slice e)) (he:P.underlying e=some (.int .u8))
  (h:∀ w' c,(∀ j,j<s.size→w'.cell? ⟨w.heap.size,j,none⟩=some (.int .u8 ((s.data.toList.getD j 0).toNat:Int)))→Below w.heap.size w w'→wpList P ops Q rest (a.put o.dst (.slice (some ⟨w.heap.size,0,none⟩) s.size c)) w'):wpList P ops Q (o::rest) a w:=by
 have hrun:=Lib.run_convert_string_bytes (P:=P) w src dst e s hs hd he
 refine wpList_plain hgd fun K hK=>?_
 unfold Oper.wp
 simp only [execOp,ho,hx]
 simp [hrun,Result.andThen]
 exact hK _ _ (h _ _ (fun j hj=>Lib.bytesWorld_cell w e s j hj) ⟨rfl,rfl,rfl,by rw [Lib.bytesWorld_size];omega,fun k hk=>Lib.bytesWorld_at_old w e s k hk⟩)
theorem conv_blk {P:Program} {w:World} {g:Nat} {t src e dst:TypeId} {st:ByteArray} (n:Nat) (hg:Blk w g t (st.data.toList.map fun x=>Value.int .u8 (x.toNat:Int)).toArray) (hn:st.size=n) (c:Nat) (hs:P.underlying src=some (.slice e)) (he:P.underlying e=some (.int .u8)) (hd:P.underlying dst=some .string) :
  (convert src dst (.slice (some ⟨g,0,none⟩) n c)).run P w=.ok (.string st) w:=by
 have hl:st.data.toList.length=n:=by rw [Array.length_toList];exact hn
 have:=run_convert_bytes_arg (P:=P) w src e hs he g 0 n c (st.data.toList.map fun x=>(x.toNat:Int)) (by simpa using hl) (fun i hi=>by
  rw [Nat.zero_add]
  refine hg.cell i ?_
  have:i<st.data.toList.length:=by omega
  simp only [List.getElem?_toArray,List.getElem?_map,List.getElem?_eq_getElem this,Option.map_some,List.getD,Option.getD_some]) dst hd
 rw [this]
 congr 2
 unfold strOfNums
 apply WideShapes.bytes_inj
 rw [List.map_map,List.toList_toArray]
 have e:((fun n:Int=>UInt8.ofNat n.toNat)∘fun x:UInt8=>(x.toNat:Int))=id:=by funext x;simp
 rw [e,List.map_id]
open Go.ChangeShapes Go.WideShapes Go.ChangeAt Go.RowKit
open Go.ChangeMaps (open_string shut_string)
theorem own:ownKnob Tryz.prog.godebug=none:=by kernel_rfl
theorem laidOut:laidOutB Tryz.prog=true:=by kernel_rfl
theorem trodAll_below {H:Type} {enc:TypeId × Value→H} {P:Program} (hl:laidOutB P=true) {W W':World} (hb:Below W.heap.size W W') :
  ∀ (ts:List TypeId) (vs:List Value) (ds:List (DataW H)) (ps:List MemPlace),(ts.all fun t=>P.readableRec t && decide (t<P.types.size))=true→DataW.TrodAll enc P W 0 (fun _=>true) true ts vs ds ps →
   (∀ x ∈ ps,x.block<W.heap.size)→DataW.TrodAll enc P W' 0 (fun b=>decide (b<W.heap.size)) true ts vs ds ps
 | [],[],[],_,_,h,_=>h
 | t::ts,v::vs,d::ds,ps,hr,h,hlt=>by
  obtain ⟨p,q,h1,h2,rfl⟩:=h
  simp only [List.all_cons,Bool.and_eq_true,decide_eq_true_eq] at hr
  exact ⟨p,q,Below.trod hl hr.1.1 hr.1.2 h1 hb (fun x hx=>hlt x (by simp [hx])),trodAll_below hl hb ts vs ds q hr.2 h2 (fun x hx=>hlt x (by simp [hx])),rfl⟩
 | [],[],_::_,_,_,h,_=>h.elim
 | [],_::_,_,_,_,h,_=>h.elim
 | _::_,[],_,_,_,h,_=>h.elim
 | _::_,_::_,[],_,_,h,_=>h.elim
theorem law_post {H:Type} {enc:TypeId × Value→H} {P:Program} {f:Func} {s:ChangeSpec} {W W':World} {args:Array Value} {ds:List (DataW H)} {before:List MemPlace} {tb:TypeId}
  (hl:laidOutB P=true) (hr:(f.params.toList.all fun t=>P.readableRec t && decide (t<P.types.size))=true) (hres:f.resultTypes=#[tb]) (htb:P.underlying tb=some .bool) (hv:s.vars=[])
  (hW:DataW.Whole enc P f.params.toList s.vars false W args.toList ds [] before) (hfn:(s.fn H (ds++[])).results=[.lit (.bool true)]∧(s.fn H (ds++[])).args=ds∧(s.fn H (ds++[])).vars=[])
  (hb:Below W.heap.size W W'):s.post enc P f false true false false W args (.bool true) W':=by
 have hlt:∀ p ∈ before,p.block<W.heap.size:=fun p hp=>hW.lt p hp
 have hW':=hW
 obtain ⟨p,q,hA,hV,rfl,_,_⟩:=hW
 rw [hv] at hV
 have hq:q=[]:=hV
 subst hq
 refine ⟨ds,[],p++[],[],p,[],hW',?_,?_,?_,World.keptBut_mono (fun x hx=>⟨hx,?_⟩) (hb.frame (· ∈ p++[])),fun h=>by cases h⟩
 ·rw [hres,hfn.1]
  exact trodAll_cons_mk (shut_bool htb true) trodAll_mk0
 ·rw [hfn.2.1]
  exact trodAll_below hl hb _ _ _ _ hr hA (fun x hx=>hlt x (by simp [hx]))
 ·rw [hv,hfn.2.2];rfl
 ·exact .inr (.inl (by simpa using hx))
section
variable {H:Type} {enc:TypeId × Value→H} {P:Program} {W:World} {r:Reach} {base b0:Nat} {spare:Nat→Bool} {held:Bool} {v:Value} {d:DataW H} {p:List MemPlace}
theorem open_struct {t:TypeId} {fs:Array Field} (hs:P.underlying t=some (.struct fs)) (hv:Value.okWide P W r b0 t v) (h:DataW.Trod enc P W base spare held t v d p) :
  ∃ (cs:Array Value) (n:Nat),v=.agg cs∧cs.size=P.cellsOf t∧∀ (i:Nat) (f:Field),fs[i]?=some f→∃ y,DataW.trod enc P W base spare held n f.type ((cs.toList.drop f.offset).take (P.cellsOf f.type))=some y:=by
 obtain ⟨cs,rfl,hsz⟩:=okWide_struct hs hv
 obtain ⟨fuel,hf⟩:=h
 obtain ⟨xs,n,_,_,_,hl,hi⟩:=DataW.trod_struct hs hf
 refine ⟨cs,n,rfl,hsz,fun i f hf=>?_⟩
 have:=hi i f hf
 have hlt:i<xs.length:=by rw [hl];exact (Array.getElem?_eq_some_iff.1 hf).1
 rw [List.getElem?_eq_getElem hlt] at this
 exact ⟨_,this⟩
theorem field_int {f:Field} {cs:Array Value} {n:Nat} {k:IntKind} {y:DataW H × List MemPlace} (hk:P.underlying f.type=some (.int k)) (hc:P.cellsOf f.type=1)
  (h:DataW.trod enc P W base spare held n f.type ((cs.toList.drop f.offset).take (P.cellsOf f.type))=some y):∃ z,cs[f.offset]?=some (.int k z)∧(Lit.int k z).wf=true:=by
 obtain ⟨z,e,_,hw⟩:=DataW.trod_int hk h
 refine ⟨z,?_,hw⟩
 rw [hc] at e
 have:=congrArg (·[0]?) e
 simpa [List.getElem?_take,List.getElem?_drop] using this
end
theorem wf_u8 {z:Int} (h:(Lit.int .u8 z).wf=true):∃ n:Nat,z=n∧n<256:=by
 simp [Lit.wf,IntKind.min,IntKind.max,IntKind.signed,IntKind.bits] at h
 exact ⟨z.toNat,by omega,by omega⟩
theorem wf_i32 {z:Int} (h:(Lit.int .i32 z).wf=true):-2147483648≤z∧z<2147483648:=by
 simp [Lit.wf,IntKind.min,IntKind.max,IntKind.signed,IntKind.bits] at h
 omega
theorem size5 {cs:Array Value} (h:cs.size=5):∃ a b c d e,cs=#[a,b,c,d,e]:=by
 obtain ⟨l⟩:=cs
 match l,h with
 | [a,b,c,d,e],_=>exact ⟨a,b,c,d,e,rfl⟩
theorem insC:Tryz.prog.cellsOf 72=5:=by kernel_rfl
theorem u8C:Tryz.prog.cellsOf 5=1:=by kernel_rfl
theorem i32C:Tryz.prog.cellsOf 21=1:=by kernel_rfl
set_option maxRecDepth 100000
/-- an instruction that comes in -/
theorem open_ins {H:Type} {enc:TypeId × Value→H} {W:World} {r:Reach} {base b0:Nat} {spare:Nat→Bool} {held:Bool} {v:Value} {d:DataW H} {p:List MemPlace}
    (hv:Value.okWide Tryz.prog W r b0 72 v) (h:DataW.Trod enc Tryz.prog W base spare held 72 v d p):∃ op a b c:Nat,∃ imm:Int,v=.agg #[.int .u8 op,.int .u8 a,.int .u8 b,.int .u8 c,.int .i32 imm]∧(op<256∧a<256∧b<256∧c<256) ∧ -2147483648≤imm∧imm<2147483648:=by
  obtain ⟨cs,n,rfl,hsz,hf⟩:=open_struct Tryz.underlying72 hv h
  obtain ⟨c0,c1,c2,c3,c4,rfl⟩:=size5 (hsz.trans insC)
  obtain ⟨y0,h0⟩:=hf 0 _ rfl
  obtain ⟨y1,h1⟩:=hf 1 _ rfl
  obtain ⟨y2,h2⟩:=hf 2 _ rfl
  obtain ⟨y3,h3⟩:=hf 3 _ rfl
  obtain ⟨y4,h4⟩:=hf 4 _ rfl
  obtain ⟨z0,e0,w0⟩:=field_int Tryz.underlying5 u8C h0
  obtain ⟨z1,e1,w1⟩:=field_int Tryz.underlying5 u8C h1
  obtain ⟨z2,e2,w2⟩:=field_int Tryz.underlying5 u8C h2
  obtain ⟨z3,e3,w3⟩:=field_int Tryz.underlying5 u8C h3
  obtain ⟨z4,e4,w4⟩:=field_int Tryz.underlying21 i32C h4
  obtain ⟨op,rfl,b0⟩:=wf_u8 w0
  obtain ⟨a,rfl,b1⟩:=wf_u8 w1
  obtain ⟨b,rfl,b2⟩:=wf_u8 w2
  obtain ⟨c,rfl,b3⟩:=wf_u8 w3
  have b4:=wf_i32 w4
  simp at e0 e1 e2 e3 e4
  subst e0 e1 e2 e3 e4
  exact ⟨op,a,b,c,z4,rfl,⟨b0,b1,b2,b3⟩,b4.1,b4.2⟩
theorem block_of_cell {w:World} {b o:Nat} {s:Option Nat} {v:Value} (h:w.cell? ⟨b,o,s⟩=some v):b<w.heap.size:=by
 unfold World.cell? at h
 dsimp only at h
 cases hb:w.heap[b]? with
 | none=>rw [hb] at h;cases h
 | some x=>exact (Array.getElem?_eq_some_iff.1 hb).1
section
variable {P:Program} {ops:Array Oper} {md:Region.Mode} {C:World→Prop}
def headAny (P:Program) (md:Region.Mode) (ops:Array Oper) (C:World→Prop) (n:Nat) (L:Array Bool→Act→Prop):Nat→Array Bool→Act→Prop
 | 0,listed,a=>L listed a
 | f+1,listed,a=>Region.ready md ops listed≠[]∧∀ i ∈ Region.ready md ops listed,i<n∧qOp P ops C i (headAny P md ops C n L f (listed.setIfInBounds i true)) a
theorem wpAny_of_headAny {n g:Nat} {L:Array Bool→Act→Prop} {Q:Exit→Act→World→Prop} (hL:∀ listed a w,C w→L listed a→wpAny P md ops Q g listed a w) :
  ∀ (f:Nat) (listed:Array Bool) (a:Act) (w:World),C w→headAny P md ops C n L f listed a→wpAny P md ops Q (f+g) listed a w:=by
 intro f
 induction f with
 | zero=>intro listed a w hw h;rw [Nat.zero_add];exact hL _ _ _ hw h
 | succ f ih=>
  intro listed a w hw h
  rw [Nat.add_right_comm]
  exact ⟨fun h0=>absurd h0 h.1,fun i hi=>wpOp_of_qOp hw (fun a' w' hw' h'=>ih _ a' w' hw' h') (h.2 i hi).2⟩
theorem headAny_first {n i:Nat} {oi:Oper} {v:Value} {L:Array Bool→Act→Prop} (hi:ops[i]?=some oi) (hsel:∀ (j:Nat) (o:Oper) cs b,ops[j]?=some o→o.op≠.select cs b)
  (hs:Region.sinkB md ops n=true) (hc:Region.chainB md ops n=true) (hn:n<ops.size) (hin:i<n) (hdone:∀ listed a,L listed a→∀ j ∈ Region.ready md ops listed,n≤j) :
  ∀ (f:Nat) (listed:Array Bool) (a:Act),HeadInv md ops n listed →
   (∀ j oj,ops[j]?=some oj→j≠i→listed.getD j true=false→(∀ e ∈ oj.after,Region.binds md e=true→e.on≠i)→oi.apart ops oj=true) →
   i ∈ Region.ready md ops listed→YieldsIn P ops C oi v a→headAny P md ops C n L f (listed.setIfInBounds i true) (a.put oi.dst v)→headAny P md ops C n L (f+1) listed a:=by
 have low:∀ listed,HeadInv md ops n listed→i ∈ Region.ready md ops listed→∀ j ∈ Region.ready md ops listed,j<n:=fun listed inv hr j hj=>by
  rcases Nat.lt_or_ge j n with h | h
  ·exact h
  ·exact absurd hj (tail_waits hs hc hn inv _ i rfl hin (mem_ready.1 hr).1 j h)
 intro f
 induction f with
 | zero=>
  intro listed a inv _ hr hy H
  refine ⟨List.ne_nil_of_mem hr,fun j hj=>⟨low listed inv hr j hj,?_⟩⟩
  by_cases hji:j=i
  ·subst hji;exact hy.qOp hi H
  ·have h1:=hdone _ _ H j (ready_mono hj hji)
   have h2:=low listed inv hr j hj
   omega
 | succ f ih=>
  intro listed a inv hfree hr hy H
  refine ⟨List.ne_nil_of_mem hr,fun j hj=>⟨low listed inv hr j hj,?_⟩⟩
  by_cases hji:j=i
  ·subst hji;exact hy.qOp hi H
  ·obtain ⟨hjun,oj,hoj,hall⟩:=mem_ready.1 hj
   have hnot:∀ e ∈ oj.after,Region.binds md e=true→e.on≠i:=fun e he hb heq=>by
    have h1:=hall e he hb
    rw [heq,getD_both (mem_ready.1 hr).1] at h1
    cases h1
   have h2:=qOp_put hoj (hfree j oj hoj hji hjun hnot) (fun cs b=>hsel i oi cs b hi) (fun cs b=>hsel j oj cs b hoj) hy (H.2 j (ready_mono hj hji)).2
   refine qOp_mono (fun a' h3=>ih _ a' (inv.set hj (low listed inv hr j hj)) (fun k ok hk hki hun hno=>hfree k ok hk hki ?_ hno) (ready_mono hr (Ne.symm hji)) h3.1 ?_) h2
   ·by_cases hjk:j=k
    ·subst hjk;exact hjun
    ·rwa [getD_set_ne true hjk] at hun
   ·rw [Array.setIfInBounds_comm _ _ hji];exact h3.2
theorem headAny_lex {n g:Nat} {Lq:Act→Prop} (hsel:Region.noSelect ops=true) (hs:Region.sinkB md ops n=true) (hc:Region.chainB md ops n=true) (hn:n<ops.size) :
  ∀ (l:List Oper) (k:Nat) (listed:Array Bool) (a:Act),(∀ j,j<l.length→l[j]?=ops[k+j]?)→k+l.length=n→HeadInv md ops n listed →
  Region.lexHead md ops g l.length k listed=true→wpQuiet P ops C Lq l a→headAny P md ops C n (fun listed' a'=>Region.seqB md ops g n listed'=true∧Lq a') l.length listed a:=by
 intro l
 induction l with
 | nil=>
  intro k listed a _ hk _ hB h
  obtain rfl:k=n:=by simpa using hk
  exact ⟨by simpa [Region.lexHead] using hB,h⟩
 | cons o l ih=>
  intro k listed a hl hk inv hB h
  have h0:ops[k]?=some o:=by simpa using (hl 0 (by simp)).symm
  simp only [List.length_cons,Region.lexHead,Bool.and_eq_true] at hB
  simp only [List.length_cons] at hk
  have hr:k ∈ Region.ready md ops listed:=by simpa using hB.1.1
  obtain ⟨v,hy,hK⟩:=yieldsIn_of_qOp h0 (show qOp P ops C k (wpQuiet P ops C Lq l) a by unfold qOp;simp only [h0];exact h)
  refine headAny_first h0 (Region.noSelect_spec hsel) hs hc hn (by omega) (fun _ _ hL=>seqB_ready hL.1) l.length listed a inv (Region.free_spec h0 hB.1.2) hr hy ?_
  exact ih (k+1) _ _ (fun j hj=>by have:=hl (j+1) (by simp;omega);simpa [Nat.add_assoc,Nat.add_comm 1 j] using this) (by omega) (inv.set hr (by omega)) hB.2 hK
end
theorem wp_region_ext_tail {P:Program} {id:Nat} {Q:Exit→Act→World→Prop} {a:Act} {w:World} {l:List Oper} (n:Nat) (hm:P.follows .mixedOrders=true) (hB:Region.lexTailB .any l.toArray n=true)
  (h:wpQuiet P l.toArray (fun w'=>∃ u:Ext w,w'=u.val) (fun a'=>∀ w',(∃ u:Ext w,w'=u.val)→wpList P l.toArray Q (l.drop n) a' w') (l.take n) a):(Code.region id l.toArray true).wp P Q a w:=by
 simp only [Region.lexTailB,Bool.and_eq_true,decide_eq_true_eq] at hB
 obtain ⟨⟨⟨⟨hsel,hn⟩,hs⟩,hc⟩,hlex⟩:=hB
 have hn':n<l.length:=by simpa using hn
 have htl:(l.take n).length=n:=by simp;omega
 have hdl:(l.drop n).length=l.toArray.size-n:=by simp
 have inv0:HeadInv .any l.toArray n (Array.replicate l.toArray.size false):=
  ⟨by simp,fun j oj _ hl=>(by rw [getD_replicate_false] at hl;cases hl),fun t _ ht=>getD_in (by simpa using ht) (getD_replicate_false _ _)⟩
 have H:=headAny_lex (md:=.any) (g:=l.toArray.size-n) hsel hs hc hn (l.take n) 0 _ a (fun j hj=>by
  have hj':j<n:=by omega
  simp [hj']) (by omega) inv0 (by rw [htl];exact hlex) h
 refine wp_region_any hm ?_
 have:=wpAny_of_headAny (C:=fun w'=>∃ u:Ext w,w'=u.val) (Q:=Q) (g:=l.toArray.size-n) (fun listed a' w' hw' hL=>by
  have:=wpAny_of_seq (md:=.any) (Q':=Q) (l.drop n) n listed a' w' (fun j=>by simp [List.getElem?_drop]) (by rw [hdl];exact hL.1) (hL.2 w' hw')
  rwa [hdl] at this) _ _ _ ({ w with drawn:=w.drawn+1 }) ⟨⟨w.drew,(Below.refl _ _).drew⟩,rfl⟩ H
 rw [htl,show n+(l.toArray.size-n)=l.toArray.size by omega] at this
 exact this
section
variable {P:Program} {ops:Array Oper} {md:Region.Mode} {C:World→Prop} {Q:Exit→Act→World→Prop}
def behindB (md:Region.Mode) (ops:Array Oper) (n:Nat):Bool:=
 (List.range ops.size).all fun t=>decide (t≤n) || (List.range t).any fun j=>decide (n≤j) && Region.waitsFor md ops t j
theorem waist_waits {n:Nat} {listed:Array Bool} (hs:Region.sinkB md ops n=true) (hc:behindB md ops n=true) (hn:n<ops.size) (inv:HeadInv md ops n listed) :
  ∀ (d i:Nat),n-i=d→i<n→listed.getD i true=false→∀ t,n≤t→t ∉ Region.ready md ops listed:=by
 intro d
 induction d using Nat.strongRecOn with
 | _ d ih=>
  intro i hd hi hun t ht hr
  obtain ⟨_,ot,hot,hall⟩:=mem_ready.1 hr
  have htlt:t<ops.size:=(Array.getElem?_eq_some_iff.1 hot).1
  by_cases htn:t=n
  ·subst htn
   have h1:=List.all_eq_true.1 hs i (List.mem_range.2 hi)
   obtain ⟨j,hj,hj2⟩:=List.any_eq_true.1 h1
   simp only [Bool.and_eq_true,decide_eq_true_eq] at hj2
   obtain ⟨oj,hoj,e,he,hb,hon⟩:=Region.waitsFor_spec hj2.2
   have hjle:j≤t:=by have:=List.mem_range.1 hj;omega
   by_cases hjt:j=t
   ·subst hjt
    have:oj=ot:=Option.some.inj (hoj.symm.trans hot)
    subst this
    have h2:=hall e he hb
    rw [hon,getD_both hun] at h2
    cases h2
   ·cases hl:listed.getD j false with
    | true=>
     have h2:=inv.closed j oj hoj hl e he hb
     rw [hon,getD_both hun] at h2
     cases h2
    | false=>
     have hjs:j<listed.size:=by rw [inv.size];omega
     exact ih (t-j) (by omega) j rfl (by omega) (getD_in hjs hl) t (Nat.le_refl _) hr
  ·have h1:=List.all_eq_true.1 hc t (List.mem_range.2 htlt)
   simp only [Bool.or_eq_true,decide_eq_true_eq] at h1
   rcases h1 with h1 | h1
   ·omega
   ·obtain ⟨j,hj,hj2⟩:=List.any_eq_true.1 h1
    simp only [Bool.and_eq_true,decide_eq_true_eq] at hj2
    obtain ⟨o',ho',e,he,hb,hon⟩:=Region.waitsFor_spec hj2.2
    have:o'=ot:=Option.some.inj (ho'.symm.trans hot)
    subst this
    have hjt:=List.mem_range.1 hj
    have h2:=hall e he hb
    rw [hon,getD_both (inv.tail j hj2.1 (by omega))] at h2
    cases h2
theorem headAny_firstW {n i:Nat} {oi:Oper} {v:Value} {L:Array Bool→Act→Prop} (hi:ops[i]?=some oi) (hsel:∀ (j:Nat) (o:Oper) cs b,ops[j]?=some o→o.op≠.select cs b)
  (hs:Region.sinkB md ops n=true) (hc:behindB md ops n=true) (hn:n<ops.size) (hin:i<n) (hdone:∀ listed a,L listed a→∀ j ∈ Region.ready md ops listed,n≤j) :
  ∀ (f:Nat) (listed:Array Bool) (a:Act),HeadInv md ops n listed →
   (∀ j oj,ops[j]?=some oj→j≠i→listed.getD j true=false→(∀ e ∈ oj.after,Region.binds md e=true→e.on≠i)→oi.apart ops oj=true) →
   i ∈ Region.ready md ops listed→YieldsIn P ops C oi v a→headAny P md ops C n L f (listed.setIfInBounds i true) (a.put oi.dst v)→headAny P md ops C n L (f+1) listed a:=by
 have low:∀ listed,HeadInv md ops n listed→i ∈ Region.ready md ops listed→∀ j ∈ Region.ready md ops listed,j<n:=fun listed inv hr j hj=>by
  rcases Nat.lt_or_ge j n with h | h
  ·exact h
  ·exact absurd hj (waist_waits hs hc hn inv _ i rfl hin (mem_ready.1 hr).1 j h)
 intro f
 induction f with
 | zero=>
  intro listed a inv _ hr hy H
  refine ⟨List.ne_nil_of_mem hr,fun j hj=>⟨low listed inv hr j hj,?_⟩⟩
  by_cases hji:j=i
  ·subst hji;exact hy.qOp hi H
  ·have h1:=hdone _ _ H j (ready_mono hj hji)
   have h2:=low listed inv hr j hj
   omega
 | succ f ih=>
  intro listed a inv hfree hr hy H
  refine ⟨List.ne_nil_of_mem hr,fun j hj=>⟨low listed inv hr j hj,?_⟩⟩
  by_cases hji:j=i
  ·subst hji;exact hy.qOp hi H
  ·obtain ⟨hjun,oj,hoj,hall⟩:=mem_ready.1 hj
   have hnot:∀ e ∈ oj.after,Region.binds md e=true→e.on≠i:=fun e he hb heq=>by
    have h1:=hall e he hb
    rw [heq,getD_both (mem_ready.1 hr).1] at h1
    cases h1
   have h2:=qOp_put hoj (hfree j oj hoj hji hjun hnot) (fun cs b=>hsel i oi cs b hi) (fun cs b=>hsel j oj cs b hoj) hy (H.2 j (ready_mono hj hji)).2
   refine qOp_mono (fun a' h3=>ih _ a' (inv.set hj (low listed inv hr j hj)) (fun k ok hk hki hun hno=>hfree k ok hk hki ?_ hno) (ready_mono hr (Ne.symm hji)) h3.1 ?_) h2
   ·by_cases hjk:j=k
    ·subst hjk;exact hjun
    ·rwa [getD_set_ne true hjk] at hun
   ·rw [Array.setIfInBounds_comm _ _ hji];exact h3.2
def markW:Nat→Nat→Array Bool→Array Bool
 | 0,_,listed=>listed
 | f+1,k,listed=>markW f (k+1) (listed.setIfInBounds k true)
def lexWaist (md:Region.Mode) (ops:Array Oper):Nat→Nat→Array Bool→Bool
 | 0,k,listed=>decide (Region.ready md ops listed=[k])
 | f+1,k,listed=>(Region.ready md ops listed).contains k && Region.free md ops listed k && lexWaist md ops f (k+1) (listed.setIfInBounds k true)
theorem headAny_lexW {n:Nat} {Lq:Act→Prop} (hsel:Region.noSelect ops=true) (hs:Region.sinkB md ops n=true) (hc:behindB md ops n=true) (hn:n<ops.size) :
  ∀ (l:List Oper) (k:Nat) (listed:Array Bool) (a:Act),(∀ j,j<l.length→l[j]?=ops[k+j]?)→k+l.length=n→HeadInv md ops n listed →
  lexWaist md ops l.length k listed=true→wpQuiet P ops C Lq l a→headAny P md ops C n (fun listed' a'=>(Region.ready md ops listed'=[n]∧listed'=markW l.length k listed)∧Lq a') l.length listed a:=by
 intro l
 induction l with
 | nil=>
  intro k listed a _ hk _ hB h
  obtain rfl:k=n:=by simpa using hk
  exact ⟨⟨by simpa [lexWaist] using hB,rfl⟩,h⟩
 | cons o l ih=>
  intro k listed a hl hk inv hB h
  have h0:ops[k]?=some o:=by simpa using (hl 0 (by simp)).symm
  simp only [List.length_cons,lexWaist,Bool.and_eq_true] at hB
  simp only [List.length_cons] at hk
  have hr:k ∈ Region.ready md ops listed:=by simpa using hB.1.1
  obtain ⟨v,hy,hK⟩:=yieldsIn_of_qOp h0 (show qOp P ops C k (wpQuiet P ops C Lq l) a by unfold qOp;simp only [h0];exact h)
  refine headAny_firstW h0 (Region.noSelect_spec hsel) hs hc hn (by omega) (fun _ _ hL j hj=>by rw [hL.1.1] at hj;have:j=n:=(by simpa using hj);omega) l.length listed a inv (Region.free_spec h0 hB.1.2) hr hy ?_
  exact ih (k+1) _ _ (fun j hj=>by have:=hl (j+1) (by simp;omega);simpa [Nat.add_assoc,Nat.add_comm 1 j] using this) (by omega) (inv.set hr (by omega)) hB.2 hK
theorem wp_of_then {o:Oper} {a:Act} {w:World} {K:Act→World→Prop} (h:o.wp P a w K (Exit.then K Q)):o.wp P a w K Q:=by
 unfold Oper.wp at *
 generalize (execOp a.eval o).run P w=r at *
 cases r with
 | ok n w'=>
  cases n <;> simp only [Oper.upon] at h ⊢ <;>
   first
    | exact h
    | exact Calls.mono h (fun e w'' he=>by cases e <;> exact he)
 | halt x w'=>cases x <;> simp only [Oper.upon] at h ⊢ <;> exact h
theorem wpOp_of_one {n:Nat} {o:Oper} {a:Act} {w:World} {K:Act→World→Prop} (ho:ops[n]?=some o) (h:wpList P ops (Exit.then K Q) [o] a w):wpOp P ops Q n K a w:=by
 unfold wpOp
 simp only [ho]
 simp only [wpList] at h
 split
 ·rename_i hw
  simp only [hw,if_true] at h
  exact h.imp wp_of_then id
 ·rename_i hw
  simp only [hw] at h
  exact h
def waistB (l:List Oper) (n:Nat):Bool:=
 Region.noSelect l.toArray && decide (n<l.length) && Region.sinkB .any l.toArray n && behindB .any l.toArray n && lexWaist .any l.toArray n 0 (Array.replicate l.toArray.size false) && Region.lexFrom .any l.toArray (l.length-(n+1)) (n+1) ((markW n 0 (Array.replicate l.toArray.size false)).setIfInBounds n true)
theorem wp_region_waist {id:Nat} {a:Act} {w:World} {l:List Oper} (n:Nat) (hm:P.follows .mixedOrders=true) (hB:waistB l n=true)
  (h:wpQuiet P l.toArray (fun w'=>∃ u:Ext w,w'=u.val) (fun a'=>∀ w',(∃ u:Ext w,w'=u.val) →
   wpList P l.toArray (Exit.then (fun a2 w2=>wpQuiet P l.toArray (fun w'=>∃ u:Ext w2,w'=u.val) (fun a3=>∀ w3,(∃ u:Ext w2,w3=u.val)→Q .normal a3 w3) (l.drop (n+1)) a2) Q) ((l.drop n).take 1) a' w') (l.take n) a):(Code.region id l.toArray true).wp P Q a w:=by
 simp only [waistB,Bool.and_eq_true,decide_eq_true_eq] at hB
 obtain ⟨⟨⟨⟨⟨hsel,hn'⟩,hs⟩,hc⟩,hlex⟩,htl2⟩:=hB
 have hn:n<l.toArray.size:=by simpa using hn'
 have htl:(l.take n).length=n:=by simp;omega
 have hdl:(l.drop (n+1)).length=l.length-(n+1):=by simp
 have inv0:HeadInv .any l.toArray n (Array.replicate l.toArray.size false):=
  ⟨by simp,fun j oj _ hl=>(by rw [getD_replicate_false] at hl;cases hl),fun t _ ht=>getD_in (by simpa using ht) (getD_replicate_false _ _)⟩
 have H:=headAny_lexW (md:=.any) hsel hs hc hn (l.take n) 0 _ a (fun j hj=>by
  have hj':j<n:=by omega
  simp [hj']) (by omega) inv0 (by rw [htl];exact hlex) h
 refine wp_region_any hm ?_
 have hone:(l.drop n).take 1=[l[n]]:=by
  rw [List.drop_eq_getElem_cons hn'];rfl
 have ho:l.toArray[n]?=some l[n]:=by simp [hn']
 have:=wpAny_of_headAny (C:=fun w'=>∃ u:Ext w,w'=u.val) (Q:=Q) (g:=(l.length-(n+1))+1) (fun listed a' w' hw' hL=>by
  obtain ⟨⟨hrd,hmk⟩,hq⟩:=hL
  refine ⟨fun h0=>(by rw [hrd] at h0;cases h0),fun i hi=>?_⟩
  rw [hrd] at hi
  obtain rfl:i=n:=by simpa using hi
  have hq':=hq w' hw'
  rw [hone] at hq'
  refine wpOp_mono (fun a2 w2 h2=>?_) (wpOp_of_one ho hq')
  have:=wpAny_of_quiet (md:=.any) (C:=fun w'=>∃ u:Ext w2,w'=u.val) (Q:=fun a3=>∀ w3,(∃ u:Ext w2,w3=u.val)→Q .normal a3 w3) (Q':=Q) (fun _ w' hw' h=>h w' hw') _ (listed.setIfInBounds i true) a2 w2 ⟨default,rfl⟩
   (wpAnyQ_lex (md:=.any) hsel (l.drop (i+1)) (i+1) _ a2 (fun j=>by simp [List.getElem?_drop]) (by rw [hdl,hmk,htl];exact htl2) h2)
  rwa [hdl] at this) _ _ _ ({ w with drawn:=w.drawn+1 }) ⟨⟨w.drew,(Below.refl _ _).drew⟩,rfl⟩ H
 rw [htl,show n+(l.length-(n+1)+1)=l.toArray.size by simp;omega] at this
 exact this
end
section
variable {P:Program} {ops:Array Oper} {Q:Exit→Act→World→Prop} {md:Region.Mode}
def noDefer (ops:Array Oper):Bool:=ops.all fun o=>match o.op with
 | .defer _=>false
 | _=>true
theorem noDefer_spec {ops:Array Oper} (h:noDefer ops=true) {i:Nat} {o:Oper} (ho:ops[i]?=some o):∀ c,o.op≠.defer c:=by
 intro c hc
 unfold noDefer at h
 rw [Array.all_eq_true] at h
 obtain ⟨hi,rfl⟩:=Array.getElem?_eq_some_iff.1 ho
 have:=h i hi
 rw [hc] at this
 cases this
theorem wpIn_of_wp_op {l n:Nat} {o:Oper} {a:Act} {w:World} {K:Act→World→Prop} (hd:∀ c,o.op≠.defer c) (h:o.wp P a w K Q):o.wpIn (Fence.wide.inRound l) n P a w K Q:=by
 refine ⟨fun _ _=>trivial,?_⟩
 rw [Oper.semAt_eq _ _ _ hd]
 unfold Oper.wp at h
 generalize (execOp a.eval o).run P w=r at *
 cases r with
 | ok x w'=>
  cases x <;> simp only [Oper.upon,Oper.uponIn] at h ⊢ <;>
   first
    | exact h
    | exact h.elim
    | exact ⟨fun h0=>by simp [Fence.inRound,Fence.wide] at h0,CallsIn.inRound l (callsIn_wide.2 h)⟩
    | (refine ⟨fun h0=>by simp [Fence.inRound,Fence.wide] at h0,fun c cs _=>?_⟩
       obtain ⟨v,w'',r,s⟩:=h c cs
       exact ⟨v,w'',r,stepsIn_wide.2 s⟩)
 | halt x w'=>cases x <;> simp only [Oper.upon,Oper.uponIn] at h ⊢ <;> exact h
theorem wpAnyIn_of_wpAny {l n:Nat} (hd:noDefer ops=true) (hQ:¬ LetsOut Q):∀ (f:Nat) (listed:Array Bool) (a:Act) (w:World),wpAny P md ops Q f listed a w→wpAnyIn (Fence.wide.inRound l) n P md ops Q f listed a w:=by
 intro f
 induction f with
 | zero=>exact fun _ _ _ h=>h
 | succ f ih=>
  intro listed a w h
  refine ⟨h.1,fun i hi=>?_⟩
  have h2:=h.2 i hi
  unfold wpOp at h2
  unfold wpOpIn
  split
  ·rename_i hn;rw [hn] at h2;exact ih _ _ _ h2
  ·rename_i o ho
   rw [ho] at h2
   dsimp only at h2
   split
   ·rename_i hw
    rw [if_pos hw] at h2
    rcases h2 with h2 | ⟨_,h2⟩
    ·exact wpIn_of_wp_op (noDefer_spec hd ho) (Oper.wp_mono (fun a w h=>ih _ a w h) h2)
    ·exact (hQ h2).elim
   ·rename_i hw
    rw [if_neg hw] at h2
    exact ⟨fun _ _=>trivial,ih _ _ _ h2⟩
theorem wpIn_region_round {l n id:Nat} {a:Act} {w:World} (hm:P.follows .mixedOrders=true) (hd:noDefer ops=true) (hQ:¬ LetsOut Q)
  (h:wpAny P .any ops Q ops.size (Array.replicate ops.size false) a { w with drawn:=w.drawn+1 }):(Code.region id ops true).wpIn (Fence.wide.inRound l) n P Q a w:=
 wpIn_region_any hm (wpAnyIn_of_wpAny hd hQ _ _ _ _ h)
theorem wpIn_region_round' {l n id:Nat} {a:Act} {w:World} (hm:P.follows .mixedOrders=true) (hd:noDefer ops=true)
  (h:wpAny P .any ops (fun e a w=>e≠.outgrown∧Q e a w) ops.size (Array.replicate ops.size false) a { w with drawn:=w.drawn+1 }):(Code.region id ops true).wpIn (Fence.wide.inRound l) n P Q a w:=
 wpIn_mono (wpIn_region_round hm hd (by rintro ⟨_,_,h,_⟩;exact h rfl) h) (fun _ _ _ h=>h.2)
theorem wpIn_round_tail {l id:Nat} {a:Act} {w:World} {L:List Oper} {m:Nat} (n:Nat) (hm:P.follows .mixedOrders=true) (hd:noDefer L.toArray=true) (hB:Region.lexTailB .any L.toArray n=true)
  (h:wpQuiet P L.toArray (fun w'=>∃ u:Ext w,w'=u.val) (fun a'=>∀ w',(∃ u:Ext w,w'=u.val)→wpList P L.toArray (fun e a w=>e≠.outgrown∧Q e a w) (L.drop n) a' w') (L.take n) a):(Code.region id L.toArray true).wpIn (Fence.wide.inRound l) m P Q a w:=by
 refine wpIn_region_round' hm hd ?_
 simp only [Region.lexTailB,Bool.and_eq_true,decide_eq_true_eq] at hB
 obtain ⟨⟨⟨⟨hsel,hn⟩,hs⟩,hc⟩,hlex⟩:=hB
 have hn':n<L.length:=by simpa using hn
 have htl:(L.take n).length=n:=by simp;omega
 have hdl:(L.drop n).length=L.toArray.size-n:=by simp
 have inv0:HeadInv .any L.toArray n (Array.replicate L.toArray.size false):=
  ⟨by simp,fun j oj _ hl=>(by rw [getD_replicate_false] at hl;cases hl),fun t _ ht=>getD_in (by simpa using ht) (getD_replicate_false _ _)⟩
 have H:=headAny_lex (md:=.any) (g:=L.toArray.size-n) hsel hs hc hn (L.take n) 0 _ a (fun j hj=>by
  have hj':j<n:=by omega
  simp [hj']) (by omega) inv0 (by rw [htl];exact hlex) h
 have:=wpAny_of_headAny (C:=fun w'=>∃ u:Ext w,w'=u.val) (Q:=fun e a w=>e≠.outgrown∧Q e a w) (g:=L.toArray.size-n) (fun listed a' w' hw' hL=>by
  have:=wpAny_of_seq (md:=.any) (Q':=fun e a w=>e≠.outgrown∧Q e a w) (L.drop n) n listed a' w' (fun j=>by simp [List.getElem?_drop]) (by rw [hdl];exact hL.1) (hL.2 w' hw')
  rwa [hdl] at this) _ _ _ ({ w with drawn:=w.drawn+1 }) ⟨⟨w.drew,(Below.refl _ _).drew⟩,rfl⟩ H
 rw [htl,show n+(L.toArray.size-n)=L.toArray.size by omega] at this
 exact this
theorem wpIn_round_ext {l id:Nat} {a:Act} {w:World} {L:List Oper} {m:Nat} (hm:P.follows .mixedOrders=true) (hd:noDefer L.toArray=true) (hB:Region.lexB .any L.toArray=true)
  (h:wpQuiet P L.toArray (fun w'=>∃ u:Ext w,w'=u.val) (fun a'=>∀ w',(∃ u:Ext w,w'=u.val)→Q .normal a' w') L a):(Code.region id L.toArray true).wpIn (Fence.wide.inRound l) m P Q a w:=by
 refine wpIn_region_round' hm hd ?_
 simp only [Region.lexB,Bool.and_eq_true] at hB
 refine wpAny_of_quiet (C:=fun w'=>∃ u:Ext w,w'=u.val) (Q:=fun a'=>∀ w',(∃ u:Ext w,w'=u.val)→Q .normal a' w') (fun _ w' hw' h=>⟨by simp,h w' hw'⟩) _ _ _ _ ⟨⟨w.drew,(Below.refl _ _).drew⟩,rfl⟩ ?_
 have:=wpAnyQ_lex (C:=fun w'=>∃ u:Ext w,w'=u.val) (md:=.any) hB.1 L.toArray.toList 0 (Array.replicate L.toArray.size false) a (by simp) (by simpa using hB.2) (by simpa using h)
 simpa using this
end
def KeepT (T:TypeId→Bool) (W W':World):Prop:=∀ b cs t,T t=true→Blk W b t cs→Blk W' b t cs
theorem KeepT.refl (T:TypeId→Bool) (W:World):KeepT T W W:=fun _ _ _ _ h=>h
theorem KeepT.trans {T:TypeId→Bool} {A B C:World} (h:KeepT T A B) (k:KeepT T B C):KeepT T A C:=fun b cs t he hv=>k b cs t he (h b cs t he hv)
theorem KeepT.grown {T:TypeId→Bool} {W W':World} {row:Option Nat} (h:W.grownBy W' row) (hr:∀ r,row=some r→(∃ o,W.heap[r]?=some o∧o.isCells=false)∨∃ cs t,Blk W r t cs∧T t=false):KeepT T W W':=fun b cs t he hv=>by
 refine hv.grown h (fun e=>?_)
 rcases hr b e.symm with ⟨o',h1,h2⟩ | ⟨cs',t',h1,h2⟩
 ·unfold Blk at hv;rw [hv] at h1;cases h1;cases h2
 ·unfold Blk at hv h1
  rw [hv] at h1
  injection h1 with h1
  injection h1 with _ h3
  rw [h3,h2] at he;cases he
theorem KeepT.putObj {T:TypeId→Bool} (W:World) (l:Nat) (o o':Obj) (h:W.heap[l]?=some o) (ho:o.isCells=false):KeepT T W (W.putObj l o'):=
 KeepT.grown (grownBy_putObj' W l o') (fun r e=>by cases e;exact .inl ⟨o,h,ho⟩)
theorem KeepT.alloc {T:TypeId→Bool} (W:World) (o:Obj):KeepT T W (W.alloc o):=KeepT.grown (World.grownBy_alloc W o none) (fun r e=>by cases e)
theorem KeepT.set_ {T:TypeId→Bool} {W:World} {g:Nat} {t:TypeId} {cs:Array Value} (hg:Blk W g t cs) (ht:T t=false) (i:Nat) (u:Value):KeepT T W (W.setCell ⟨g,i,none⟩ u):=
 KeepT.grown (only_setCell (World.grownBy.refl W (some g)) i u) (fun r e=>by cases e;exact .inr ⟨_,_,hg,ht⟩)
theorem KeepT.below {T:TypeId→Bool} {W W':World} (h:Below W.heap.size W W'):KeepT T W W':=fun b cs t _ hv=>hv.below h hv.lt
theorem Blk.own {β:Type} (g:Nat) (t:TypeId) (f:β→Array Value):Own (fun s W=>Blk W g t (f s)):=fun s X Y row hs hg hrow=>
 hs.grown hg (fun e'=>by obtain ⟨o,ho,hc⟩:=hrow g e'.symm;rw [show X.heap[g]?=_ from hs] at ho;cases ho;cases hc)
theorem keeps_below {W W':World} (h:Below W.heap.size W W'):KeepsOthers W W':=⟨h.size,fun k o hk _=>(h.block k (Array.getElem?_eq_some_iff.1 hk).1).trans hk⟩
def plainB (o:Oper):Bool:=match o.op with
 | .move _ | .assign _ | .load _ _ | .build _ _ | .fieldAddr _ _ _ | .field _ _ _ | .indexAddr _ _ _ | .index _ _ _ | .binOp _ _ _ _ _ | .unOp _ _ _ | .convert _ _ _ | .extract _ _ | .pick _ _ _=>true
 | _=>false
def noX:Exit→Act→World→Prop:=fun _ _ _=>False
structure Stg (C:Nat→World→Prop) where
 k:Nat
 val:World
 prf:C k val
structure Stg0 (C:Nat→World→Prop) where
 val:World
 prf:C 0 val
theorem Stg0.call_same {C:Nat→World→Prop} {P:Program} {f:FuncId} {args:Array Value} {u:Stg0 C} {v:Value}
  (h:Calls P f args u.val fun e w'=>e=.returned v∧u.val=w'):Calls P f args u.val fun e w''=>e=.returned v∧∃ u':Stg0 C,w''=u'.val:=
 h.mono fun _ _ ⟨he,hb⟩=>⟨he,u,hb.symm⟩
section
variable {P:Program} {ops:Array Oper} {md:Region.Mode} {C:Nat→World→Prop} {Q:Exit→Act→World→Prop}
theorem plain_value {ρ:Operand→Value} {o:Oper} (h:plainB o=true) {w w':World} {nx:Next} (hr:(execOp ρ o).run P w=.ok nx w'):∃ u,nx=.value u:=by
 unfold plainB at h
 unfold execOp at hr
 split at h <;> rename_i ho <;> simp only [ho] at hr
 all_goals first
  | (simp [Sem.run_pure] at hr;exact ⟨_,hr.1.symm⟩)
  | (rw [Sem.run_bind] at hr
     generalize Sem.run P _ w=r at hr
     cases r with
     | ok x w1=>simp [Result.andThen_ok,Sem.run_pure] at hr;exact ⟨_,hr.1.symm⟩
     | halt x w1=>simp [Result.andThen] at hr)
  | cases h
theorem quiet_plain {o:Oper} {a:Act} {D D':World→Prop} {w:World} {v:Value} (h:plainB o=true) (hq:o.quietAt P a D w v):o.quietAt P a D' w v:=by
 unfold Oper.quietAt at *
 generalize hr:(execOp a.eval o).run P w=r at *
 cases r with
 | ok nx w'=>
  obtain ⟨u,rfl⟩:=plain_value h hr
  exact hq
 | halt x w'=>exact hq
def YieldsG (P:Program) (ops:Array Oper) (C:Nat→World→Prop) (m i:Nat) (o:Oper) (v:Value) (a:Act):Prop:=
 (m≤i∧plainB o=true∧YieldsIn P ops (fun w'=>∃ u:Stg C,w'=u.val) o v a)∨(i<m∧YieldsIn P ops (fun w'=>∃ u:Stg0 C,w'=u.val) o v a)
theorem YieldsG.of_same {m i:Nat} {o:Oper} {v:Value} {a a':Act} (hy:YieldsG P ops C m i o v a) (he:execOp a'.eval o=execOp a.eval o)
  (hw:Region.wanted o (yielded ops a'.tmps)=Region.wanted o (yielded ops a.tmps)):YieldsG P ops C m i o v a':=by
 rcases hy with ⟨h,hp,hy⟩ | ⟨h,hy⟩
 ·exact .inl ⟨h,hp,hy.of_same he hw⟩
 ·exact .inr ⟨h,hy.of_same he hw⟩
theorem YieldsG.wpOp {m i:Nat} {o:Oper} {v:Value} {a:Act} {k:Nat} {w:World} {K:Act→World→Prop} (hi:ops[i]?=some o) (hy:YieldsG P ops C m i o v a) (hk:m≤i∨k=0) (hw:C k w) (h:∀ w',C k w'→K (a.put o.dst v) w'):wpOp P ops Q i K a w:=by
 rcases hy with ⟨hm,hp,hy⟩ | ⟨hm,hy⟩
 ·unfold Go.wpOp
  simp only [hi]
  rcases hy with ⟨hw1,hv⟩ | ⟨hw1,rfl⟩
  ·simp only [hw1,if_true]
   left
   have:=quiet_plain (D':=fun w'=>w'=w) hp (hv w ⟨⟨k,w,hw⟩,rfl⟩)
   exact Oper.wp_of_quiet (C:=fun w'=>w'=w) (K:=fun a'=>a'=a.put o.dst v) rfl (fun a' w' hw' ha=>by subst hw';subst ha;exact h _ hw) ⟨v,fun w1 hw1=>by subst hw1;exact this,rfl⟩
  ·simp only [hw1,Bool.false_eq_true,if_false];exact h _ hw
 ·have hk0:k=0:=by omega
  subst hk0
  exact wpOp_of_qOp (C:=fun w'=>∃ u:Stg0 C,w'=u.val) (K:=fun a'=>a'=a.put o.dst v) ⟨⟨w,hw⟩,rfl⟩ (fun a' w' hw' ha=>by obtain ⟨u,rfl⟩:=hw';subst ha;exact h _ u.prf) (hy.qOp hi rfl)
def sureAt (P:Program) (o:Oper) (a:Act) (D:World→Prop) (w:World) (v:Value):Prop:=match (execOp a.eval o).run P w with
 | .ok (.value u) w'=>(o.dst=none∨u=v)∧D w'
 | .ok .skip w'=>(o.dst=none∨undef=v)∧D w'
 | .ok (.enter f args) w'=>Calls P f args w' fun e w''=>∃ u,e=.returned u∧(o.dst=none∨u=v)∧D w''
 | .ok (.row row args) w'=>Rows P row args w' fun u w''=>(o.dst=none∨u=v)∧D w''
 | _=>False
theorem put_sure {a:Act} {o:Oper} {u v:Value} (h:o.dst=none∨u=v):a.put o.dst u=a.put o.dst v:=by
 rcases h with h | rfl
 ·rw [h];rfl
 ·rfl
theorem wp_of_sure {o:Oper} {a:Act} {D:World→Prop} {w:World} {v:Value} {K:Act→World→Prop} (h:sureAt P o a D w v) (hK:∀ w',D w'→K (a.put o.dst v) w'):o.wp P a w K Q:=by
 unfold sureAt at h
 unfold Oper.wp
 generalize (execOp a.eval o).run P w=r at *
 cases r with
 | ok n w'=>
  cases n <;> simp only [Oper.upon] at h ⊢
  case value u=>rw [put_sure h.1];exact hK _ h.2
  case skip=>rw [put_sure h.1];exact hK _ h.2
  case enter f args=>exact h.mono fun e w'' ⟨u,he,h1,h2⟩=>by subst he;show K (a.put o.dst u) w'';rw [put_sure h1];exact hK _ h2
  case row row args=>exact Rows.mono h fun u w'' ⟨h1,h2⟩=>by rw [put_sure h1];exact hK _ h2
 | halt x w'=>exact h.elim
theorem sure_of_list {o:Oper} {a:Act} {D:World→Prop} {w:World} {v:Value} (hg:o.guard=none) (hd:∀ d,o.dst=some d→d<a.tmps.size)
  (h:wpList P ops (Exit.then (fun a2 w2=>a2=a.put o.dst v∧D w2) noX) [o] a w):sureAt P o a D w v:=by
 have inj:∀ u,a.put o.dst u=a.put o.dst v→o.dst=none∨u=v:=fun u hu=>by
  cases ho:o.dst with
  | none=>exact .inl rfl
  | some d=>
   right
   rw [ho] at hu
   have:=congrArg (fun b:Act=>b.tmps[d]?) hu
   have hlt:=hd d ho
   simpa [Act.put,hlt] using this
 unfold sureAt
 simp only [wpList] at h
 rw [show Region.wanted o (yielded ops a.tmps)=true by unfold Region.wanted;rw [hg]] at h
 simp only [if_true] at h
 rcases h with h | ⟨_,_,_,hF⟩
 ·unfold Oper.wp at h
  generalize (execOp a.eval o).run P w=r at *
  cases r with
  | ok n w'=>
   cases n <;> simp only [Oper.upon] at h ⊢
   case value u=>exact ⟨inj u h.1,h.2⟩
   case skip=>exact ⟨inj _ h.1,h.2⟩
   case enter f args=>
    exact Calls.mono h (fun e w'' he=>by
     cases e with
     | returned u=>exact ⟨u,rfl,inj u he.1,he.2⟩
     | panicked c=>exact he.elim
     | outgrown=>obtain ⟨_,_,hF⟩:=he;exact hF.elim)
   case row row args=>exact Rows.mono h fun u w'' he=>⟨inj u he.1,he.2⟩
   case defer d=>
    have h1:=congrArg Act.defers h.1
    cases hd':o.dst with
    | none=>rw [hd'] at h1;simp [Act.put] at h1
    | some t=>rw [hd'] at h1;simp [Act.put] at h1
  | halt x w'=>cases x <;> simp only [Oper.upon] at h <;> exact h.elim
 ·exact hF.elim
theorem sureAt_put {o:Oper} {a:Act} {D:World→Prop} {w:World} {v u:Value} {dst:Option Tmp} (hs:∀ cs b,o.op≠.select cs b) (h:∀ d,dst=some d→d ∉ o.looksAt ops) (hh:sureAt P o (a.put dst u) D w v):sureAt P o a D w v:=by
 unfold sureAt at *
 rwa [execOp_put o hs a dst u h] at hh
def wpAnyG (P:Program) (md:Region.Mode) (ops:Array Oper) (C:Nat→World→Prop) (Q:Exit→Act→World→Prop) (m n:Nat):Nat→Nat→Array Bool→Act→Prop
 | 0,k,listed,a=>Region.ready md ops listed=[]∧∀ w,C k w→Q .normal a w
 | f+1,k,listed,a=>Region.ready md ops listed≠[]∧∀ j ∈ Region.ready md ops listed,∃ oj,ops[j]?=some oj ∧
   ((j<n∧(m≤j∨k=0)∧∃ v,YieldsG P ops C m j oj v a∧wpAnyG P md ops C Q m n f k (listed.setIfInBounds j true) (a.put oj.dst v))
   ∨ (n≤j∧oj.guard=none∧∃ v,(∀ w,C k w→sureAt P oj a (C (k+1)) w v)∧wpAnyG P md ops C Q m n f (k+1) (listed.setIfInBounds j true) (a.put oj.dst v)))
theorem wpAny_ofG {m n:Nat}:∀ (f k:Nat) (listed:Array Bool) (a:Act) (w:World),C k w→wpAnyG P md ops C Q m n f k listed a→wpAny P md ops Q f listed a w
 | 0,_,_,_,_,hw,h=>⟨h.1,h.2 _ hw⟩
 | f+1,k,listed,a,w,hw,h=>⟨fun h0=>absurd h0 h.1,fun j hj=>by
  obtain ⟨oj,hoj,⟨hjn,hp,v,hy,hk⟩ | ⟨hjn,hg,v,hs,hk⟩⟩:=h.2 j hj
  ·exact hy.wpOp hoj hp hw (fun w' hw'=>wpAny_ofG f k _ _ w' hw' hk)
  ·unfold wpOp
   simp only [hoj]
   rw [show Region.wanted oj (yielded ops a.tmps)=true by unfold Region.wanted;rw [hg]]
   exact .inl (wp_of_sure (hs w hw) (fun w' hw'=>wpAny_ofG f (k+1) _ _ w' hw' hk))⟩
theorem wpAnyG_first {m n i:Nat} {oi:Oper} {v:Value} (hi:ops[i]?=some oi) (hsel:∀ (j:Nat) (o:Oper) cs b,ops[j]?=some o→o.op≠.select cs b) (hin:i<n)
  (hcall:i<m→∀ t,n≤t→t<ops.size→Region.waitsFor md ops t i=true) :
  ∀ (f k:Nat) (listed:Array Bool) (a:Act),(m≤i∨k=0) →
   (∀ j oj,ops[j]?=some oj→j≠i→listed.getD j true=false→(∀ e ∈ oj.after,Region.binds md e=true→e.on≠i)→oi.apart ops oj=true) →
   i ∈ Region.ready md ops listed→YieldsG P ops C m i oi v a →
   wpAnyG P md ops C Q m n f k (listed.setIfInBounds i true) (a.put oi.dst v)→wpAnyG P md ops C Q m n (f+1) k listed a:=by
 intro f
 induction f with
 | zero=>
  intro k listed a hk _ hr hy H
  refine ⟨List.ne_nil_of_mem hr,fun j hj=>?_⟩
  by_cases hji:j=i
  ·subst hji;exact ⟨oi,hi,.inl ⟨hin,hk,v,hy,H⟩⟩
  ·have:=ready_mono hj hji
   rw [H.1] at this
   cases this
 | succ f ih=>
  intro k listed a hk hfree hr hy H
  refine ⟨List.ne_nil_of_mem hr,fun j hj=>?_⟩
  by_cases hji:j=i
  ·subst hji;exact ⟨oi,hi,.inl ⟨hin,hk,v,hy,H⟩⟩
  ·obtain ⟨hjun,oj,hoj,hall⟩:=mem_ready.1 hj
   have hun:=(mem_ready.1 hr).1
   have hnot:∀ e ∈ oj.after,Region.binds md e=true→e.on≠i:=fun e he hb heq=>by
    have h1:=hall e he hb
    rw [heq,getD_both hun] at h1
    cases h1
   have hap:=hfree j oj hoj hji hjun hnot
   obtain ⟨h1,h2,h3⟩:=Oper.apart_spec hap
   have hsi:=fun cs b=>hsel i oi cs b hi
   have hsj:=fun cs b=>hsel j oj cs b hoj
   have hfree':∀ k ok,ops[k]?=some ok→k≠i→(listed.setIfInBounds j true).getD k true=false →
     (∀ e ∈ ok.after,Region.binds md e=true→e.on≠i)→oi.apart ops ok=true:=fun k ok hk hki hun hno=>by
    refine hfree k ok hk hki ?_ hno
    by_cases hjk:j=k
    ·subst hjk;exact hjun
    ·rw [getD_set_ne true hjk] at hun;exact hun
   have keep:∀ u,YieldsG P ops C m i oi v (a.put oj.dst u):=fun u=>hy.of_same (execOp_put oi hsi a oj.dst u h3) (wanted_put oi a oj.dst u h3)
   obtain ⟨oj',hoj',hc⟩:=H.2 j (ready_mono hj hji)
   obtain rfl:oj'=oj:=Option.some.inj (hoj'.symm.trans hoj)
   refine ⟨oj',hoj,?_⟩
   rcases hc with ⟨hjn,hp,u,hyj,hkk⟩ | ⟨hjn,hg,u,hs,hkk⟩
   ·left
    refine ⟨hjn,hp,u,hyj.of_same (execOp_put oj' hsj a oi.dst v h1).symm (wanted_put oj' a oi.dst v h1).symm,?_⟩
    refine ih k _ _ hk hfree' (ready_mono hr (Ne.symm hji)) (keep u) ?_
    rw [Array.setIfInBounds_comm _ _ hji,← Act.put_comm a v u h2]
    exact hkk
   ·right
    have hpl:m≤i:=by
     rcases Nat.lt_or_ge i m with hpl | hpl
     ·obtain ⟨o2,ho2,e,he,hb,hon⟩:=Region.waitsFor_spec (hcall hpl j hjn (Array.getElem?_eq_some_iff.1 hoj).1)
      obtain rfl:o2=oj':=Option.some.inj (ho2.symm.trans hoj)
      exact absurd hon (hnot e he hb)
     ·exact hpl
    refine ⟨hjn,hg,u,fun w hw=>sureAt_put hsj h1 (hs w hw),?_⟩
    refine ih (k+1) _ _ (.inl hpl) hfree' (ready_mono hr (Ne.symm hji)) (keep u) ?_
    rw [Array.setIfInBounds_comm _ _ hji,← Act.put_comm a v u h2]
    exact hkk
def wpG (P:Program) (ops:Array Oper) (C:Nat→World→Prop) (E:Act→Prop) (m:Nat):Nat→List Oper→Act→Prop
 | _,[],a=>E a
 | i,o::rest,a=>(m≤i∧plainB o=true∧wpQuiet P ops (fun w'=>∃ u:Stg C,w'=u.val) (wpG P ops C E m (i+1) rest) [o] a)∨(i<m∧wpQuiet P ops (fun w'=>∃ u:Stg0 C,w'=u.val) (wpG P ops C E m (i+1) rest) [o] a)
theorem quiet_mono {D:World→Prop} {E E':Act→Prop} (h:∀ a,E a→E' a):∀ (l:List Oper) (a:Act),wpQuiet P ops D E l a→wpQuiet P ops D E' l a
 | [],a,hq=>h a hq
 | o::l,a,hq=>by
  simp only [wpQuiet] at hq ⊢
  split
  ·rename_i hw
   simp only [hw,if_true] at hq
   exact Oper.quiet_mono (quiet_mono h l) hq
  ·rename_i hw
   simp only [hw] at hq
   exact quiet_mono h l _ hq
theorem quiet_one {D:World→Prop} {E:Act→Prop} {o:Oper} {l:List Oper} {a:Act} (h:wpQuiet P ops D E (o::l) a):wpQuiet P ops D (fun a'=>wpQuiet P ops D E l a') [o] a:=h
theorem wpG_plains {E:Act→Prop} {m:Nat}:∀ (l:List Oper) (i:Nat) (a:Act),m≤i→(∀ o ∈ l,plainB o=true)→wpQuiet P ops (fun w'=>∃ u:Stg C,w'=u.val) E l a→wpG P ops C E m i l a
 | [],_,_,_,_,h=>h
 | o::l,i,a,hi,hp,h=>.inl ⟨hi,hp o (by simp),quiet_mono (fun a' h'=>wpG_plains l (i+1) a' (by omega) (fun o ho=>hp o (by simp [ho])) h') [o] a (quiet_one h)⟩
theorem wpG_early {E:Act→Prop} {m:Nat} {l2:List Oper}:∀ (l:List Oper) (i:Nat) (a:Act),i+l.length=m→wpQuiet P ops (fun w'=>∃ u:Stg0 C,w'=u.val) (fun a'=>wpG P ops C E m m l2 a') l a→wpG P ops C E m i (l++l2) a
 | [], i, a, hi, h => by obtain rfl:i=m:=by simpa using hi
                         exact h
 | o::l,i,a,hi,h=>.inr ⟨by simp at hi;omega,quiet_mono (fun a' h'=>wpG_early l (i+1) a' (by simp at hi;omega) h') [o] a (quiet_one h)⟩
def wpT (P:Program) (C:Nat→World→Prop) (Q:Exit→Act→World→Prop):Nat→List Oper→Act→Prop
 | k,[],a=>∀ w,C k w→Q .normal a w
 | k,o::rest,a=>∃ v,(∀ w,C k w→sureAt P o a (C (k+1)) w v)∧wpT P C Q (k+1) rest (a.put o.dst v)
theorem wpAnyG_seq {m n:Nat}:∀ (l:List Oper) (q k:Nat) (listed:Array Bool) (a:Act),n≤q→(∀ j,l[j]?=ops[q+j]?)→(∀ o ∈ l,o.guard=none) →
  Region.seqB md ops l.length q listed=true→wpT P C Q k l a→wpAnyG P md ops C Q m n l.length k listed a
 | [],_,_,_,_,_,_,_,hB,h=>⟨by simpa [Region.seqB] using hB,h⟩
 | o::l,q,k,listed,a,hm,hl,hg,hB,h=>by
  have h0:ops[q]?=some o:=by simpa using (hl 0).symm
  simp only [List.length_cons,Region.seqB,Bool.and_eq_true,decide_eq_true_eq] at hB
  refine ⟨by rw [hB.1];simp,fun i hi=>?_⟩
  rw [hB.1] at hi
  obtain rfl:i=q:=by simpa using hi
  obtain ⟨v,hs,hk⟩:=h
  exact ⟨o,h0,.inr ⟨hm,hg o (by simp),v,hs,wpAnyG_seq l (i+1) (k+1) _ _ (by omega) (fun j=>by have:=hl (j+1);simpa [Nat.add_assoc,Nat.add_comm 1 j] using this) (fun o ho=>hg o (by simp [ho])) hB.2 hk⟩⟩
theorem yieldsG_of {m i:Nat} {o:Oper} {a:Act} {E:Act→Prop} {rest:List Oper} (h:wpG P ops C E m i (o::rest) a) (hi:ops[i]?=some o):∃ v,YieldsG P ops C m i o v a∧wpG P ops C E m (i+1) rest (a.put o.dst v):=by
 have key:∀ {D:World→Prop},wpQuiet P ops D (wpG P ops C E m (i+1) rest) [o] a→∃ v,YieldsIn P ops D o v a∧wpG P ops C E m (i+1) rest (a.put o.dst v):=fun {D} hq=>by
  obtain ⟨v,hy,hk⟩:=yieldsIn_of_qOp hi (show qOp P ops D i (wpQuiet P ops D (wpG P ops C E m (i+1) rest) []) a by unfold qOp;simp only [hi];exact hq)
  exact ⟨v,hy,hk⟩
 rcases h with ⟨hm,hp,h⟩ | ⟨hp,h⟩
 ·obtain ⟨v,hy,hk⟩:=key h
  exact ⟨v,.inl ⟨hm,hp,hy⟩,hk⟩
 ·obtain ⟨v,hy,hk⟩:=key h
  exact ⟨v,.inr ⟨hp,hy⟩,hk⟩
theorem wpAnyG_lex {m n:Nat} (hsel:Region.noSelect ops=true) (hcall:∀ (i:Nat),i<m→∀ t,n≤t→t<ops.size→Region.waitsFor md ops t i=true)
  (tl:List Oper) (htl:∀ j,tl[j]?=ops[n+j]?) (hg:∀ o ∈ tl,o.guard=none) :
  ∀ (l:List Oper) (q:Nat) (listed:Array Bool) (a:Act),(∀ j,j<l.length→l[j]?=ops[q+j]?)→q+l.length=n →
  Region.lexHead md ops tl.length l.length q listed=true→wpG P ops C (wpT P C Q 0 tl) m q l a→wpAnyG P md ops C Q m n (l.length+tl.length) 0 listed a:=by
 intro l
 induction l with
 | nil=>
  intro q listed a _ hm hB h
  obtain rfl:q=n:=by simpa using hm
  rw [List.length_nil,Nat.zero_add]
  exact wpAnyG_seq tl q 0 listed a (Nat.le_refl _) htl hg (by simpa [Region.lexHead] using hB) h
 | cons o l ih=>
  intro q listed a hl hm hB h
  have h0:ops[q]?=some o:=by simpa using (hl 0 (by simp)).symm
  simp only [List.length_cons,Region.lexHead,Bool.and_eq_true] at hB
  simp only [List.length_cons] at hm
  have hr:q ∈ Region.ready md ops listed:=by simpa using hB.1.1
  obtain ⟨v,hy,hK⟩:=yieldsG_of h h0
  rw [List.length_cons,Nat.add_right_comm]
  refine wpAnyG_first h0 (Region.noSelect_spec hsel) (by omega) (hcall q) _ 0 listed a (.inr rfl) (Region.free_spec h0 hB.1.2) hr hy ?_
  exact ih (q+1) _ _ (fun j hj=>by have:=hl (j+1) (by simp;omega);simpa [Nat.add_assoc,Nat.add_comm 1 j] using this) (by omega) hB.2 hK
def lateB (l:List Oper) (m n:Nat):Bool:=
 Region.noSelect l.toArray && decide (m≤n) && decide (n≤l.length) && (List.range m).all (fun i=>(List.range l.toArray.size).all fun t=>decide (t<n) || Region.waitsFor .any l.toArray t i) && ((l.drop m).take (n-m)).all plainB && (l.drop n).all (fun o=>o.guard.isNone) && Region.lexHead .any l.toArray (l.length-n) n 0 (Array.replicate l.toArray.size false)
theorem wp_region_late {id:Nat} {a:Act} {w:World} {l:List Oper} (m n:Nat) (C:Nat→World→Prop) (hm:P.follows .mixedOrders=true) (hB:lateB l m n=true) (hC:C 0 w.drew)
  (h:wpQuiet P l.toArray (fun w'=>∃ u:Stg0 C,w'=u.val) (fun a'=>wpQuiet P l.toArray (fun w'=>∃ u:Stg C,w'=u.val) (wpT P C Q 0 (l.drop n)) ((l.drop m).take (n-m)) a') (l.take m) a):(Code.region id l.toArray true).wp P Q a w:=by
 simp only [lateB,Bool.and_eq_true,decide_eq_true_eq] at hB
 obtain ⟨⟨⟨⟨⟨⟨hsel,hmn⟩,hn⟩,hc⟩,hp⟩,hg⟩,hlex⟩:=hB
 have htl:(l.take n).length=n:=by simp;omega
 have hdl:(l.drop n).length=l.length-n:=by simp
 have hsplit:l.take n=l.take m++(l.drop m).take (n-m):=by
  rw [← List.take_append_drop m (l.take n),List.take_take,Nat.min_eq_left hmn,List.drop_take]
 have hG:wpG P l.toArray C (wpT P C Q 0 (l.drop n)) m 0 (l.take n) a:=by
  rw [hsplit]
  exact wpG_early _ 0 a (by simp;omega) (quiet_mono (fun a' h'=>wpG_plains _ m a' (Nat.le_refl _) (fun o ho=>List.all_eq_true.1 hp o ho) h') _ a h)
 refine wp_region_any hm ?_
 have:=wpAny_ofG (md:=.any) (C:=C) (Q:=Q) _ 0 _ a ({ w with drawn:=w.drawn+1 }) hC (wpAnyG_lex (md:=.any) (m:=m) (n:=n) hsel (fun i hin t ht1 ht2=>by
  have h1:=List.all_eq_true.1 hc i (List.mem_range.2 hin)
  have h2:=List.all_eq_true.1 h1 t (List.mem_range.2 ht2)
  simp only [Bool.or_eq_true,decide_eq_true_eq] at h2
  rcases h2 with h2 | h2
  ·omega
  ·exact h2) (l.drop n) (fun j=>by simp [List.getElem?_drop]) (fun o ho=>by have:=List.all_eq_true.1 hg o ho;simpa using this) (l.take n) 0 (Array.replicate l.toArray.size false) a (fun j hj=>by
  have hj':j<n:=by omega
  simp [hj']) (by omega) (by rw [htl,hdl];exact hlex) hG)
 rw [htl,hdl,show n+(l.length-n)=l.toArray.size by simp;omega] at this
 exact this
theorem wpT_nil {k:Nat} {a:Act} (h:∀ w,C k w→Q .normal a w):wpT P C Q k [] a:=h
theorem wpT_cons {k:Nat} {o:Oper} {rest:List Oper} {a:Act} (ops:Array Oper) (v:Value) (hg:o.guard=none) (hd:∀ d,o.dst=some d→d<a.tmps.size) (h:∀ w,C k w→wpList P ops (Exit.then (fun a2 w2=>a2=a.put o.dst v∧C (k+1) w2) noX) [o] a w) (hk:wpT P C Q (k+1) rest (a.put o.dst v)):wpT P C Q k (o::rest) a:=
 ⟨v,fun w hw=>sure_of_list hg hd (h w hw),hk⟩
theorem wpT_store {k:Nat} {o:Oper} {rest:List Oper} {a:Act} (ty:TypeId) (x y:Operand) (g:Nat) (t:TypeId) (new:Array Value) (hg:o.guard=none) (hd:o.dst=none) (ho:o.op=.store ty x y) (hx:a.eval x=.pointer (some ⟨g,0,none⟩)) (hy:a.eval y=.agg new)
  (hi:(P.info? ty).map (·.size)=some new.size) (h1:∀ v ∈ new,v.oneCell'=true) (hC:∀ w,C k w→∃ cs,Blk w g t cs∧new.size=cs.size) (hN:∀ w w',C k w→Blk w' g t new→w.grownBy w' (some g)→C (k+1) w') (hk:wpT P C Q (k+1) rest a):wpT P C Q k (o::rest) a:=by
 refine wpT_cons #[] undef hg (fun d h=>by rw [hd] at h;cases h) (fun w hw=>?_) (by rw [hd];exact hk)
 obtain ⟨cs,hb,hs⟩:=hC w hw
 exact store_blk ty x y g t cs new hg ho hx hy hb hs hi h1 (fun w' hb' hgr=>⟨rfl,hN w w' hw hb' hgr⟩)
theorem wpT_assign {k:Nat} {o:Oper} {rest:List Oper} {a:Act} (x:Operand) (ho:o.op=.assign x) (hC:∀ w,C k w→C (k+1) w) (hk:wpT P C Q (k+1) rest (a.put o.dst (a.eval x))):wpT P C Q k (o::rest) a:=
 ⟨a.eval x,fun w hw=>by
  unfold sureAt
  unfold execOp
  simp only [ho,Sem.run_pure]
  exact ⟨.inr trivial,hC w hw⟩,hk⟩
end
section
variable {P:Program} {ops:Array Oper} {Q:Exit→Act→World→Prop}
def unlisted (n:Nat) (listed:Array Bool):Nat:=((List.range n).filter fun i=>!listed.getD i true).length
structure Formed (ops:Array Oper) (size:Nat):Prop where
 guard:∀ (i:Nat) (o:Oper),ops[i]?=some o→o.guard=none
 dst:∀ (i j:Nat) (oi oj:Oper) (d:Nat),ops[i]?=some oi→ops[j]?=some oj→oi.dst=some d→oj.dst=some d→i=j
 dep:∀ (i:Nat) (oi:Oper),ops[i]?=some oi→∀ t,Operand.tmp t ∈ oi.op.operands→∀ (j:Nat) (oj:Oper),ops[j]?=some oj→oj.dst=some t→∃ e ∈ oi.after,Region.binds .any e=true∧e.on=j
 back:∀ (i:Nat) (o:Oper),ops[i]?=some o→∀ e ∈ o.after,Region.binds .any e=true→e.on<i
 fits:∀ (i:Nat) (o:Oper) (d:Nat),ops[i]?=some o→o.dst=some d→d<size
def formedB (ops:Array Oper) (size:Nat):Bool:=
 (List.range ops.size).all fun i=>match ops[i]? with
  | none=>true
  | some o=>o.guard.isNone && o.after.all (fun e=>!Region.binds .any e || decide (e.on<i)) && (match o.dst with | some d=>decide (d<size) | none=>true) &&
   (List.range ops.size).all fun j=>match ops[j]? with
    | none=>true
    | some oj=>(i == j || o.dst.isNone || o.dst != oj.dst) && (match oj.dst with
     | none=>true
     | some t=>!(o.op.operands.any fun x=>match x with | .tmp t'=>t' == t | _=>false) || o.after.any fun e=>Region.binds .any e && e.on == j)
theorem formed_of {ops:Array Oper} {size:Nat} (h:formedB ops size=true):Formed ops size:=by
 unfold formedB at h
 rw [List.all_eq_true] at h
 have key:∀ (i:Nat) (o:Oper),ops[i]?=some o→o.guard.isNone=true∧o.after.all (fun e=>!Region.binds .any e || decide (e.on<i))=true∧(match o.dst with | some d=>decide (d<size) | none=>true)=true ∧
   ∀ (j:Nat) (oj:Oper),ops[j]?=some oj→(i == j || o.dst.isNone || o.dst != oj.dst)=true∧(match oj.dst with
     | none=>true
     | some t=>!(o.op.operands.any fun x=>match x with | .tmp t'=>t' == t | _=>false) || o.after.any fun e=>Region.binds .any e && e.on == j)=true:=by
  intro i o ho
  have hi:i<ops.size:=(Array.getElem?_eq_some_iff.1 ho).1
  have:=h i (List.mem_range.2 hi)
  rw [ho] at this
  simp only [Bool.and_eq_true,List.all_eq_true] at this
  obtain ⟨⟨⟨h1,h2⟩,h3⟩,h4⟩:=this
  refine ⟨h1,h2,h3,fun j oj hoj=>?_⟩
  have hj:j<ops.size:=(Array.getElem?_eq_some_iff.1 hoj).1
  have:=h4 j (List.mem_range.2 hj)
  rw [hoj] at this
  simpa only [Bool.and_eq_true] using this
 refine ⟨fun i o ho=>by simpa using (key i o ho).1,fun i j oi oj d hi hj h1 h2=>?_,fun i oi hi t ht j oj hj hd=>?_,fun i o ho e he hbd=>?_,fun i o d ho hd=>?_⟩
 ·have:=((key i oi hi).2.2.2 j oj hj).1
  rw [h1,h2] at this
  simpa using this
 ·have:=((key i oi hi).2.2.2 j oj hj).2
  rw [hd] at this
  simp only [Bool.or_eq_true,Bool.not_eq_true'] at this
  rcases this with h1 | h1
  ·exfalso
   rw [Array.any_eq_false] at h1
   obtain ⟨q,hq,e⟩:=Array.getElem_of_mem ht
   have:=h1 q hq
   rw [e] at this
   simp at this
  ·rw [Array.any_eq_true] at h1
   obtain ⟨q,hq,e⟩:=h1
   simp only [Bool.and_eq_true,beq_iff_eq] at e
   exact ⟨oi.after[q],Array.getElem_mem hq,e.1,e.2⟩
 ·have:=(key i o ho).2.1
  rw [Array.all_eq_true] at this
  obtain ⟨q,hq,rfl⟩:=Array.getElem_of_mem he
  have h2:=this q hq
  rw [hbd] at h2
  simpa using h2
 ·have:=(key i o ho).2.2.1
  rw [hd] at this
  simpa using this
def Agree (ops:Array Oper) (spec:Nat→Value→World→Prop) (a0 a:Act) (o:Oper) (w:World):Prop:=
 ∀ t,Operand.tmp t ∈ o.op.operands→(∀ (j:Nat) (oj:Oper),ops[j]?=some oj→oj.dst=some t→spec j (a.eval (.tmp t)) w)∧((∀ (j:Nat) (oj:Oper),ops[j]?=some oj→oj.dst≠some t)→a.eval (.tmp t)=a0.eval (.tmp t))
structure Inv (ops:Array Oper) (spec:Nat→Value→World→Prop) (a0:Act) (w0:World) (listed:Array Bool) (a:Act) (w:World):Prop where
 size:listed.size=ops.size
 below:Below w0.heap.size w0 w
 defers:a.defers=a0.defers
 tmps:a.tmps.size=a0.tmps.size
 done:∀ (i:Nat) (o:Oper) (d:Nat),ops[i]?=some o→listed.getD i true=true→o.dst=some d→spec i (a.tmps.getD d undef) w
 rest:∀ t,(∀ (j:Nat) (oj:Oper),ops[j]?=some oj→listed.getD j true=true→oj.dst≠some t)→a.tmps[t]?=a0.tmps[t]?
theorem filter_len_one {n m i:Nat} {listed:Array Bool} (hi:i<n) (hs:listed.size=m) (hn:n≤m) (h:listed.getD i true=false):((List.range n).filter fun j=>!(listed.setIfInBounds i true).getD j true).length+1=((List.range n).filter fun j=>!listed.getD j true).length:=by
 have e:∀ j,(!(listed.setIfInBounds i true).getD j true)=(j != i && !listed.getD j true):=fun j=>by
  by_cases hj:j=i
  ·subst hj
   rw [Array.getD_eq_getD_getElem?,Array.getElem?_setIfInBounds_self_of_lt (by omega)];simp
  ·rw [Array.getD_eq_getD_getElem?,Array.getElem?_setIfInBounds_ne (Ne.symm hj),← Array.getD_eq_getD_getElem?];simp [hj]
 simp only [e]
 rw [← List.filter_filter]
 have hmem:i ∈ (List.range n).filter fun j=>!listed.getD j true:=List.mem_filter.2 ⟨List.mem_range.2 hi,by rw [h];rfl⟩
 have hnd:((List.range n).filter fun j=>!listed.getD j true).Nodup:=List.Pairwise.filter _ List.nodup_range
 have:=List.Nodup.erase_eq_filter hnd i
 have hl:=List.length_erase_of_mem hmem
 rw [this] at hl
 have hp:=List.length_pos_of_mem hmem
 omega
theorem wpAny_inv {a0:Act} {w0:World} {n g:Nat} (F:Formed ops a0.tmps.size) (hn:n≤ops.size) (hT:∀ listed,HeadInv .any ops n listed→(∃ i,i<n∧listed.getD i true=false)→∀ t ∈ Region.ready .any ops listed,t<n)
  (spec:Nat→Value→World→Prop) (hmono:∀ i v w w',spec i v w→Below w.heap.size w w'→spec i v w')
  (hstep:∀ (i:Nat) (o:Oper) (a:Act) (w:World),i<n→ops[i]?=some o→Below w0.heap.size w0 w→Agree ops spec a0 a o w→o.wp P a w (fun a' w'=>∃ v,a'=a.put o.dst v∧spec i v w'∧Below w.heap.size w w') Q)
  (hend:∀ (listed:Array Bool) (a:Act) (w:World),HeadInv .any ops n listed→(∀ i,i<n→listed.getD i true=true)→Below w0.heap.size w0 w→a.defers=a0.defers→a.tmps.size=a0.tmps.size→(∀ (i:Nat) (o:Oper) (d:Nat),i<n→ops[i]?=some o→o.dst=some d→spec i (a.tmps.getD d undef) w)→(∀ t,(∀ (j:Nat) (oj:Oper),j<n→ops[j]?=some oj→oj.dst≠some t)→a.tmps[t]?=a0.tmps[t]?)→wpAny P .any ops Q g listed a w) :
  ∀ (f:Nat) (listed:Array Bool) (a:Act) (w:World),unlisted n listed=f→HeadInv .any ops n listed→Inv ops spec a0 w0 listed a w→wpAny P .any ops Q (f+g) listed a w:=by
 have low:∀ {listed:Array Bool} {i:Nat},listed.size=ops.size→i<n→listed.getD i true=false→unlisted n (listed.setIfInBounds i true)+1=unlisted n listed:=fun {listed i} hs hi hl=>by
  unfold unlisted
  exact filter_len_one hi hs hn hl
 intro f
 induction f with
 | zero=>
  intro listed a w hu hv inv
  rw [Nat.zero_add]
  have all:∀ i,i<n→listed.getD i true=true:=fun i hi=>by
   cases hl:listed.getD i true with
   | true=>rfl
   | false=>have:=low inv.size hi hl;omega
  refine hend listed a w hv all inv.below inv.defers inv.tmps (fun i o d hi ho hd=>inv.done i o d ho (all i hi) hd) (fun t ht=>inv.rest t (fun j oj hj hjl=>?_))
  rcases Nat.lt_or_ge j n with h1 | h1
  ·exact ht j oj h1 hj
  ·have:=hv.tail j h1 (Array.getElem?_eq_some_iff.1 hj).1
   rw [hjl] at this;cases this
 | succ f ih=>
  intro listed a w hu hv inv
  have ex:∃ i,i<n∧listed.getD i true=false:=by
   have:0<unlisted n listed:=by omega
   unfold unlisted at this
   obtain ⟨i,hi⟩:=List.exists_mem_of_length_pos this
   rw [List.mem_filter,List.mem_range] at hi
   exact ⟨i,hi.1,by simpa using hi.2⟩
  rw [Nat.add_right_comm]
  refine ⟨fun hr=>?_,fun i hi=>?_⟩
  ·exfalso
   obtain ⟨i,hi,hl⟩:=ex
   have:∀ i,i<n→listed.getD i true=true:=by
    intro i
    induction i using Nat.strongRecOn with
    | ind i ih=>
     intro hi
     cases hl:listed.getD i true with
     | true=>rfl
     | false=>
      exfalso
      have ho:ops[i]?=some (ops[i]'(by omega)):=Array.getElem?_eq_getElem (by omega)
      have:i ∈ Region.ready .any ops listed:=mem_ready.2 ⟨hl,_,ho,fun e he hb=>by
       have hlt:=F.back i _ ho e he hb
       have:=ih e.on hlt (by omega)
       rw [Array.getD_eq_getD_getElem?,Array.getElem?_eq_getElem (by rw [inv.size];omega)] at this ⊢
       exact this⟩
      rw [hr] at this
      cases this
   rw [this i hi] at hl;cases hl
  have hin:=hT listed hv ex i hi
  obtain ⟨hl,o,ho,hall⟩:=mem_ready.1 hi
  have hlt:=low inv.size hin hl
  unfold wpOp
  rw [ho]
  dsimp only
  have hw:Region.wanted o (yielded ops a.tmps)=true:=by unfold Region.wanted;rw [F.guard i o ho]
  rw [if_pos hw]
  left
  have hag:Agree ops spec a0 a o w:=fun t ht=>⟨fun j oj hj hd=>by
   obtain ⟨e,he,hb,hon⟩:=F.dep i o ho t ht j oj hj hd
   have h1:=hall e he hb
   rw [hon] at h1
   have hj':j<listed.size:=by rw [inv.size];exact (Array.getElem?_eq_some_iff.1 hj).1
   refine inv.done j oj t hj ?_ hd
   rw [Array.getD_eq_getD_getElem?,Array.getElem?_eq_getElem hj'] at h1 ⊢
   exact h1,fun hn=>by
   have:=inv.rest t (fun j oj hj _=>hn j oj hj)
   show a.tmps.getD t undef=a0.tmps.getD t undef
   rw [Array.getD_eq_getD_getElem?,Array.getD_eq_getD_getElem?,this]⟩
  refine Oper.wp_mono ?_ (hstep i o a w hin ho inv.below hag)
  rintro a' w' ⟨v,rfl,hs,hb⟩
  refine ih _ _ _ (by omega) (hv.set hi hin) ⟨by simpa using inv.size,inv.below.trans (hb.mono inv.below.size),?_,?_,?_,?_⟩
  ·cases o.dst <;> exact inv.defers
  ·rw [← inv.tmps];cases o.dst <;> simp [Act.put]
  ·intro j oj d hj hjl hd
   by_cases e:i=j
   ·subst e
    rw [ho] at hj
    cases hj
    have hfit:=F.fits i o d ho hd
    rw [hd]
    show spec i ((a.tmps.setIfInBounds d v).getD d undef) w'
    rw [Array.getD_eq_getD_getElem?,Array.getElem?_setIfInBounds_self_of_lt (by rw [inv.tmps];exact hfit)]
    exact hs
   ·have hjl':listed.getD j true=true:=by
     rwa [Array.getD_eq_getD_getElem?,Array.getElem?_setIfInBounds_ne e,← Array.getD_eq_getD_getElem?] at hjl
    have h1:=hmono j _ _ _ (inv.done j oj d hj hjl' hd) hb
    cases hdi:o.dst with
    | none=>exact h1
    | some di=>
     have hne:di≠d:=by rintro rfl;exact e (F.dst i j o oj di ho hj hdi hd)
     show spec j ((a.tmps.setIfInBounds di v).getD d undef) w'
     rw [Array.getD_eq_getD_getElem?,Array.getElem?_setIfInBounds_ne hne,← Array.getD_eq_getD_getElem?]
     exact h1
  ·intro t ht
   have h1:=inv.rest t (fun j oj hj hjl=>ht j oj hj (by
    by_cases e:i=j
    ·subst e;rw [hl] at hjl;cases hjl
    ·rwa [Array.getD_eq_getD_getElem?,Array.getElem?_setIfInBounds_ne e,← Array.getD_eq_getD_getElem?]))
   cases hdi:o.dst with
   | none=>exact h1
   | some di=>
    have hne:di≠t:=by
     rintro rfl
     refine ht i o ho ?_ hdi
     rw [Array.getD_eq_getD_getElem?,Array.getElem?_setIfInBounds_self_of_lt (by rw [inv.size];exact (Array.getElem?_eq_some_iff.1 ho).1)];rfl
    show (a.tmps.setIfInBounds di v)[t]?=a0.tmps[t]?
    rw [Array.getElem?_setIfInBounds_ne hne]
    exact h1
end
def ExtC (wb:World):World→Prop:=fun w'=>∃ u:Ext wb,w'=u.val
section
variable {P:Program} {ops:Array Oper} {Q:Exit→Act→World→Prop}
theorem put_get_ne {a:Act} {d t:Nat} {v:Value} (h:d≠t):(a.put (some d) v).tmps[t]?=a.tmps[t]?:=by
 show (a.tmps.setIfInBounds d v)[t]?=_
 rw [Array.getElem?_setIfInBounds_ne h]
theorem put_get_eq {a:Act} {d:Nat} {v:Value} (h:d<a.tmps.size):(a.put (some d) v).tmps.getD d undef=v:=by
 show (a.tmps.setIfInBounds d v).getD d undef=v
 rw [Array.getD_eq_getD_getElem?,Array.getElem?_setIfInBounds_self_of_lt h];rfl
theorem put_size (a:Act) (d:Option Nat) (v:Value):(a.put d v).tmps.size=a.tmps.size:=by cases d <;> simp [Act.put]
theorem put_defers (a:Act) (d:Option Nat) (v:Value):(a.put d v).defers=a.defers:=by cases d <;> rfl
theorem quiet_chain {C:World→Prop} {af:Act}:∀ (l:List Oper) (a:Act),(∀ o ∈ l,o.guard=none)→l.Pairwise (fun x y=>∀ d,x.dst=some d→y.dst≠some d)→(∀ o ∈ l,∀ d,o.dst=some d→d<a.tmps.size)→wpQuiet P ops C (·=af) l a →
  (af.defers=a.defers∧af.tmps.size=a.tmps.size∧∀ t,(∀ o ∈ l,o.dst≠some t)→af.tmps[t]?=a.tmps[t]?) ∧
  ∀ (k:Nat) (o:Oper),l[k]?=some o→∃ ak v,(∀ w,C w→o.quietAt P ak C w v)∧(∀ t,(∀ oj ∈ l.drop k,oj.dst≠some t)→ak.tmps[t]?=af.tmps[t]?)∧∀ d,o.dst=some d→af.tmps.getD d undef=v
 | [],a,_,_,_,h=>by
  have e:a=af:=h
  subst e
  exact ⟨⟨rfl,rfl,fun _ _=>rfl⟩,fun k o hk=>by simp at hk⟩
 | o::l,a,hg,hp,hf,h=>by
  have hw:Region.wanted o (yielded ops a.tmps)=true:=by unfold Region.wanted;rw [hg o (by simp)]
  simp only [wpQuiet,hw,if_true] at h
  obtain ⟨v,hq,hn⟩:=h
  rw [List.pairwise_cons] at hp
  obtain ⟨⟨h1,h2,h3⟩,h4⟩:=quiet_chain l (a.put o.dst v) (fun x hx=>hg x (List.mem_cons_of_mem _ hx)) hp.2 (fun x hx d hd=>by rw [put_size];exact hf x (List.mem_cons_of_mem _ hx) d hd) hn
  have h3':∀ t,(∀ x ∈ o::l,x.dst≠some t)→af.tmps[t]?=a.tmps[t]?:=fun t ht=>by
   rw [h3 t (fun x hx=>ht x (List.mem_cons_of_mem _ hx))]
   cases hd:o.dst with
   | none=>rfl
   | some d=>exact put_get_ne (by rintro rfl;exact ht o (by simp) hd)
  refine ⟨⟨h1.trans (put_defers _ _ _),h2.trans (put_size _ _ _),h3'⟩,fun k x hx=>?_⟩
  cases k with
  | succ k=>exact h4 k x (by simpa using hx)
  | zero=>
   have:o=x:=by simpa using hx
   subst this
   refine ⟨a,v,hq,fun t ht=>(h3' t (by simpa using ht)).symm,fun d hd=>?_⟩
   have hfit:=hf o (by simp) d hd
   have e:af.tmps[d]?=(a.put o.dst v).tmps[d]?:=h3 d (fun y hy=>hp.1 y hy d hd)
   rw [Array.getD_eq_getD_getElem?,e,← Array.getD_eq_getD_getElem?,hd]
   exact put_get_eq hfit
theorem step_quiet {o:Oper} {a ak:Act} {w:World} {v:Value} (hs:∀ cs b,o.op≠.select cs b) (hq:o.quietAt P ak (ExtC w) w v) (hc:∀ x ∈ o.op.operands,a.eval x=ak.eval x) :
  o.wp P a w (fun a' w'=>∃ v',a'=a.put o.dst v'∧v'=v∧Below w.heap.size w w') Q:=by
 unfold Oper.wp
 unfold Oper.quietAt at hq
 rw [execOp_congr o hs hc]
 generalize (execOp ak.eval o).run P w=r at hq ⊢
 cases r with
 | ok x w'=>
  cases x <;> simp only [Oper.quietUpon] at hq <;> simp only [Oper.upon]
  ·obtain ⟨rfl,rfl⟩:=hq;exact ⟨_,rfl,rfl,Below.refl _ _⟩
  ·obtain ⟨rfl,rfl⟩:=hq;exact ⟨_,rfl,rfl,Below.refl _ _⟩
  ·obtain ⟨rfl,hq⟩:=hq
   refine hq.mono ?_
   rintro e w'' ⟨rfl,u,rfl⟩
   exact ⟨_,rfl,rfl,u.below⟩
 | halt x w'=>exact hq.elim
end
section
variable {P:Program} {Q:Exit→Act→World→Prop}
def readsT (d:Nat) (o:Oper):Bool:=o.op.operands.any fun x=>match x with | .tmp t=>t == d | _=>false
theorem readsT_iff {d:Nat} {o:Oper}:readsT d o=true↔Operand.tmp d ∈ o.op.operands:=by
 unfold readsT
 rw [Array.any_eq_true]
 constructor
 ·rintro ⟨q,hq,e⟩
  split at e
  ·rename_i t ht
   have:t=d:=by simpa using e
   subst this
   rw [← ht];exact Array.getElem_mem hq
  ·cases e
 ·intro h
  obtain ⟨q,hq,e⟩:=Array.getElem_of_mem h
  exact ⟨q,hq,by rw [e];simp⟩
def freeB (l:List Oper) (n1 k2 k3 d size:Nat):Bool:=
 formedB l.toArray size && Region.noSelect l.toArray && decide (n1+1+k2+k3≤l.length) && ((l[n1]?).bind (·.dst) == some d) && (l.take n1).all (fun o=>!readsT d o) && ((l.drop (n1+1)).take k2).all (readsT d) && ((l.drop (n1+1+k2)).take k3).all (fun o=>!readsT d o) &&
 (decide (n1+1+k2+k3=l.length) || (Region.sinkB .any l.toArray (n1+1+k2+k3) && Region.chainB .any l.toArray (n1+1+k2+k3))) &&
 Region.seqB .any l.toArray (l.length-(n1+1+k2+k3)) (n1+1+k2+k3) (List.replicate (n1+1+k2+k3) true++List.replicate (l.length-(n1+1+k2+k3)) false).toArray
theorem getD_of_get {a b:Act} {t:Nat} (h:a.tmps[t]?=b.tmps[t]?):a.tmps.getD t undef=b.tmps.getD t undef:=by rw [Array.getD_eq_getD_getElem?,Array.getD_eq_getD_getElem?,h]
theorem wp_region_free {id:Nat} {l:List Oper} {a a1 am a2:Act} {w:World} (n1 k2 k3 d:Nat) (o1:Oper) (Φ:Value→World→Prop) (hm:P.follows .mixedOrders=true) (hB:freeB l n1 k2 k3 d a.tmps.size=true) (ho1:l[n1]?=some o1)
  (hΦ:∀ X w w',Φ X w→Below w.heap.size w w'→Φ X w')
  (W1:∀ wb,Below w.heap.size w wb→wpQuiet P l.toArray (ExtC wb) (·=a1) (l.take n1) a)
  (MK:∀ wb,Below w.heap.size w wb→∃ X w',(execOp a1.eval o1).run P wb=.ok (.value X) w'∧Φ X w'∧Below wb.heap.size wb w')
  (UM:∀ X wb,Below w.heap.size w wb→Φ X wb→wpQuiet P l.toArray (ExtC wb) (·=am.put (some d) X) ((l.drop (n1+1)).take k2) (a1.put (some d) X))
  (W2:∀ X wb,Below w.heap.size w wb→wpQuiet P l.toArray (ExtC wb) (·=a2.put (some d) X) ((l.drop (n1+1+k2)).take k3) (am.put (some d) X))
  (hend:∀ X w',Below w.heap.size w w'→Φ X w'→wpList P l.toArray Q (l.drop (n1+1+k2+k3)) (a2.put (some d) X) w'):(Code.region id l.toArray true).wp P Q a w:=by
 simp only [freeB,Bool.and_eq_true,decide_eq_true_eq,beq_iff_eq,List.all_eq_true,Bool.not_eq_true'] at hB
 obtain ⟨⟨⟨⟨⟨⟨⟨⟨hF,hsel⟩,hlen⟩,hd⟩,hr1⟩,hr2⟩,hr3⟩,hsk⟩,hseq⟩:=hB
 have F:=formed_of hF
 obtain ⟨N,hN⟩:∃ N,n1+1+k2+k3=N:=⟨_,rfl⟩
 rw [hN] at hlen hsk hseq hend
 rw [ho1] at hd
 have hd1:o1.dst=some d:=hd
 have get:∀ (i:Nat) (o:Oper),l[i]?=some o→l.toArray[i]?=some o:=fun i o h=>by simpa using h
 have getL:∀ (i:Nat) (o:Oper),l.toArray[i]?=some o→l[i]?=some o:=fun i o h=>by simpa using h
 have idx:∀ {i j:Nat} {x y:Oper} {t:Nat},l[i]?=some x→l[j]?=some y→x.dst=some t→y.dst=some t→i=j:=fun {i j x y t} h1 h2 h3 h4=>F.dst i j x y t (get i x h1) (get j y h2) h3 h4
 have seg:∀ (p q:Nat),(∀ o ∈ (l.drop p).take q,o.guard=none)∧((l.drop p).take q).Pairwise (fun x y=>∀ d,x.dst=some d→y.dst≠some d)∧∀ o ∈ (l.drop p).take q,∀ d,o.dst=some d→d<a.tmps.size:=fun p q=>by
  refine ⟨fun o ho=>?_,?_,fun o ho d' hd'=>?_⟩
  ·obtain ⟨i,hi⟩:=List.getElem?_of_mem (List.mem_of_mem_drop (List.mem_of_mem_take ho))
   exact F.guard i o (get i o hi)
  ·rw [List.pairwise_iff_getElem]
   intro i j hi hj hij d' h1 h2
   have e1:l[p+i]?=some (((l.drop p).take q)[i]):=by
    rw [← List.getElem?_drop]
    have:=List.getElem?_eq_getElem hi
    rw [List.getElem?_take] at this
    split at this
    ·exact this
    ·cases this
   have e2:l[p+j]?=some (((l.drop p).take q)[j]):=by
    rw [← List.getElem?_drop]
    have:=List.getElem?_eq_getElem hj
    rw [List.getElem?_take] at this
    split at this
    ·exact this
    ·cases this
   have:=idx e1 e2 h1 h2
   omega
  ·obtain ⟨i,hi⟩:=List.getElem?_of_mem (List.mem_of_mem_drop (List.mem_of_mem_take ho))
   exact F.fits i o d' (get i o hi) hd'
 have s1:=seg 0 n1
 rw [List.drop_zero] at s1
 have s2:=seg (n1+1) k2
 have s3:=seg (n1+1+k2) k3
 have hdn:d<a.tmps.size:=F.fits n1 o1 d (get _ _ ho1) hd1
 -- the frames,once for all
 obtain ⟨⟨q1,q2,q3⟩,_⟩:=quiet_chain _ _ s1.1 s1.2.1 s1.2.2 (W1 w (Below.refl _ _))
 obtain ⟨X0,wX,_,hX0,hbX⟩:=MK w (Below.refl _ _)
 obtain ⟨⟨r1,r2,r3⟩,_⟩:=quiet_chain _ _ s2.1 s2.2.1 (fun o ho d' hd'=>by rw [put_size,q2];exact s2.2.2 o ho d' hd') (UM X0 wX hbX hX0)
 rw [put_size,put_size] at r2
 rw [put_defers,put_defers] at r1
 obtain ⟨⟨t1,t2,t3⟩,_⟩:=quiet_chain _ _ s3.1 s3.2.1 (fun o ho d' hd'=>by rw [put_size,r2,q2];exact s3.2.2 o ho d' hd') (W2 X0 w (Below.refl _ _))
 rw [put_size,put_size] at t2
 rw [put_defers,put_defers] at t1
 have inSeg:∀ {p q:Nat} {o:Oper},o ∈ (l.drop p).take q→∃ i,l[i]?=some o∧p≤i∧i<p+q:=fun {p q o} ho=>by
  obtain ⟨i,hi⟩:=List.getElem?_of_mem ho
  rw [List.getElem?_take] at hi
  split at hi
  ·rename_i h;rw [List.getElem?_drop] at hi;exact ⟨p+i,hi,by omega,by omega⟩
  ·cases hi
 -- a slot that an early operation wrote
 have k1:∀ {j:Nat} {oj:Oper} {t:Nat},l[j]?=some oj→oj.dst=some t→j<n1→a2.tmps.getD t undef=a1.tmps.getD t undef∧am.tmps.getD t undef=a1.tmps.getD t undef∧t≠d:=fun {j oj t} hj ht hlt=>by
  have hne:t≠d:=by rintro rfl;have:=idx hj ho1 ht hd1;omega
  have e2:=r3 t (fun o ho e=>by obtain ⟨i,hi,h1,h2⟩:=inSeg ho;have:=idx hj hi ht e;omega)
  have e3:=t3 t (fun o ho e=>by obtain ⟨i,hi,h1,h2⟩:=inSeg ho;have:=idx hj hi ht e;omega)
  rw [put_get_ne (Ne.symm hne),put_get_ne (Ne.symm hne)] at e2 e3
  exact ⟨(getD_of_get e3).trans (getD_of_get e2),getD_of_get e2,hne⟩
 have kbase:∀ {t:Nat},(∀ (j:Nat) (oj:Oper),l[j]?=some oj→j<N→oj.dst≠some t)→a1.tmps[t]?=a.tmps[t]?∧am.tmps[t]?=a.tmps[t]?∧a2.tmps[t]?=a.tmps[t]?∧t≠d:=fun {t} ht=>by
  have hne:t≠d:=by rintro rfl;exact ht n1 o1 ho1 (by omega) hd1
  have e1:=q3 t (fun o ho e=>by
   have ho':o ∈ (l.drop 0).take n1:=by rw [List.drop_zero];exact ho
   obtain ⟨i,hi,_,h2⟩:=inSeg ho';exact ht i o hi (by omega) e)
  have e2:=r3 t (fun o ho e=>by obtain ⟨i,hi,h1,h2⟩:=inSeg ho;exact ht i o hi (by omega) e)
  have e3:=t3 t (fun o ho e=>by obtain ⟨i,hi,h1,h2⟩:=inSeg ho;exact ht i o hi (by omega) e)
  rw [put_get_ne (Ne.symm hne),put_get_ne (Ne.symm hne)] at e2 e3
  exact ⟨e1,e2.trans e1,e3.trans (e2.trans e1),hne⟩
 have k2':∀ {j:Nat} {oj:Oper} {t:Nat},l[j]?=some oj→oj.dst=some t→j<n1+1+k2→j≠n1→a2.tmps.getD t undef=am.tmps.getD t undef∧t≠d:=fun {j oj t} hj ht hlt hjn=>by
  have hne:t≠d:=by rintro rfl;exact hjn (idx hj ho1 ht hd1)
  have e3:=t3 t (fun o ho e=>by obtain ⟨i,hi,h1,h2⟩:=inSeg ho;have:=idx hj hi ht e;omega)
  rw [put_get_ne (Ne.symm hne),put_get_ne (Ne.symm hne)] at e3
  exact ⟨getD_of_get e3,hne⟩
 let spec:Nat→Value→World→Prop:=fun i v w'=>if i=n1 then Φ v w' else ∀ o d',l[i]?=some o→o.dst=some d'→v=a2.tmps.getD d' undef
 have sp1:∀ v w',spec n1 v w'=Φ v w':=fun v w'=>if_pos rfl
 have sp2:∀ {i:Nat} {v:Value} {w':World},i≠n1→(spec i v w'↔∀ o d',l[i]?=some o→o.dst=some d'→v=a2.tmps.getD d' undef):=fun {i v w'} h=>by show (if i=n1 then _ else _)↔_;rw [if_neg h]
 have hmono:∀ i v w' w'',spec i v w'→Below w'.heap.size w' w''→spec i v w'':=fun i v w' w'' h hb=>by
  by_cases e:i=n1
  ·subst e;rw [sp1] at h ⊢; exact hΦ v w' w'' h hb
  ·rw [sp2 e] at h ⊢; exact h
 have hselN:∀ (i:Nat) (o:Oper),l[i]?=some o→∀ cs b,o.op≠.select cs b:=fun i o ho cs b=>Region.noSelect_spec hsel i o cs b (get i o ho)
 have opnd:∀ {i:Nat} {o:Oper} {t:Nat},l[i]?=some o→Operand.tmp t ∈ o.op.operands→(∃ (j:Nat) (oj:Oper),l[j]?=some oj∧oj.dst=some t∧j<i)∨∀ (j:Nat) (oj:Oper),l[j]?=some oj→oj.dst≠some t:=fun {i o t} ho ht=>by
  by_cases h:∃ (j:Nat) (oj:Oper),l[j]?=some oj∧oj.dst=some t
  ·obtain ⟨j,oj,hj,hdj⟩:=h
   obtain ⟨e,he,hbd,hon⟩:=F.dep i o (get i o ho) t ht j oj (get j oj hj) hdj
   have:=F.back i o (get i o ho) e he hbd
   exact .inl ⟨j,oj,hj,hdj,by omega⟩
  ·exact .inr fun j oj hj hdj=>h ⟨j,oj,hj,hdj⟩
 have hstep:∀ (i:Nat) (o:Oper) (a':Act) (w':World),i<N→l.toArray[i]?=some o→Below w.heap.size w w'→Agree l.toArray spec a a' o w'→o.wp P a' w' (fun a'' w''=>∃ v,a''=a'.put o.dst v∧spec i v w''∧Below w'.heap.size w' w'') Q:=by
  intro i o a' w' hi ho hb hag
  replace ho:=getL i o ho
  have ev:∀ (b:Act) (t:Nat),b.eval (.tmp t)=b.tmps.getD t undef:=fun _ _=>rfl
  have agd:∀ {j:Nat} {oj:Oper} {t:Nat},Operand.tmp t ∈ o.op.operands→l[j]?=some oj→oj.dst=some t→j≠n1→a'.tmps.getD t undef=a2.tmps.getD t undef:=fun {j oj t} ht hj hdj hjn=>by
   have:=(hag t ht).1 j oj (get j oj hj) hdj
   rw [sp2 hjn] at this
   exact this oj t hj hdj
  have agb:∀ {t:Nat},Operand.tmp t ∈ o.op.operands→(∀ (j:Nat) (oj:Oper),l[j]?=some oj→oj.dst≠some t)→a'.tmps.getD t undef=a.tmps.getD t undef:=fun {t} ht hn=>(hag t ht).2 (fun j oj hj=>hn j oj (getL j oj hj))
  have here:ExtC w' w':=⟨⟨w',Below.refl _ _⟩,rfl⟩
  by_cases c1:i<n1
  ·obtain ⟨_,hch⟩:=quiet_chain _ _ s1.1 s1.2.1 s1.2.2 (W1 w' hb)
   obtain ⟨ak,v,hq,hak,hv⟩:=hch i o (by rw [List.getElem?_take,if_pos c1];exact ho)
   refine Oper.wp_mono ?_ (step_quiet (hselN i o ho) (hq w' here) (fun x hx=>?_))
   ·rintro a'' w'' ⟨v',rfl,rfl,hb'⟩
    refine ⟨_,rfl,(sp2 (by omega)).2 (fun o' d' ho' hd'=>?_),hb'⟩
    rw [ho] at ho';cases ho'
    rw [(k1 ho hd' c1).1,hv d' hd']
   ·cases x with
    | tmp t=>
     rw [ev,ev]
     have nodst:∀ {j:Nat} {oj:Oper},l[j]?=some oj→oj.dst=some t→j<i→∀ oj ∈ (l.take n1).drop i,oj.dst≠some t:=fun {j oj} hj hdj hji y hy e=>by
      obtain ⟨q,hq⟩:=List.getElem?_of_mem hy
      rw [List.getElem?_drop,List.getElem?_take] at hq
      split at hq
      ·have:=idx hj hq hdj e;omega
      ·cases hq
     rcases opnd ho hx with ⟨j,oj,hj,hdj,hji⟩ | hn
     ·rw [agd hx hj hdj (by omega),(k1 hj hdj (by omega)).1,getD_of_get (hak t (nodst hj hdj hji))]
     ·rw [agb hx hn,← getD_of_get (kbase (fun j oj hj _=>hn j oj hj)).1]
      refine (getD_of_get (hak t (fun y hy e=>?_))).symm
      obtain ⟨q,hq⟩:=List.getElem?_of_mem (List.mem_of_mem_take (List.mem_of_mem_drop hy))
      exact hn q y hq e
    | const v=>rfl
    | global g=>rfl
    | func f=>rfl
  ·by_cases c2:i=n1
   ·subst c2
    rw [ho1] at ho
    cases ho
    obtain ⟨X,w'',hrun,hX,hbX⟩:=MK w' hb
    have hc:∀ x ∈ o1.op.operands,a'.eval x=a1.eval x:=fun x hx=>by
     cases x with
     | tmp t=>
      rw [ev,ev]
      rcases opnd ho1 hx with ⟨j,oj,hj,hdj,hji⟩ | hn
      ·rw [agd hx hj hdj (by omega),(k1 hj hdj hji).1]
      ·rw [agb hx hn,← getD_of_get (kbase (fun j oj hj _=>hn j oj hj)).1]
     | const v=>rfl
     | global g=>rfl
     | func f=>rfl
    unfold Oper.wp
    rw [execOp_congr o1 (hselN i o1 ho1) hc,hrun]
    exact ⟨X,rfl,by rw [sp1];exact hX,hbX⟩
   ·by_cases c3:i<n1+1+k2
    ·have hkk:((l.drop (n1+1)).take k2)[i-(n1+1)]?=some o:=by
      rw [List.getElem?_take,if_pos (by omega),List.getElem?_drop,show n1+1+(i-(n1+1))=i by omega];exact ho
     have hrd:Operand.tmp d ∈ o.op.operands:=readsT_iff.1 (hr2 o (List.mem_of_getElem? hkk))
     have hX:Φ (a'.tmps.getD d undef) w':=by
      have:=(hag d hrd).1 n1 o1 (get _ _ ho1) hd1
      rw [sp1] at this;exact this
     obtain ⟨_,hch⟩:=quiet_chain _ _ s2.1 s2.2.1 (fun o ho d' hd'=>by rw [put_size,q2];exact s2.2.2 o ho d' hd') (UM (a'.tmps.getD d undef) w' hb hX)
     obtain ⟨ak,v,hq,hak,hv⟩:=hch (i-(n1+1)) o hkk
     refine Oper.wp_mono ?_ (step_quiet (hselN i o ho) (hq w' here) (fun x hx=>?_))
     ·rintro a'' w'' ⟨v',rfl,rfl,hb'⟩
      refine ⟨_,rfl,(sp2 c2).2 (fun o' d' ho' hd'=>?_),hb'⟩
      rw [ho] at ho';cases ho'
      obtain ⟨e1,e2⟩:=k2' ho hd' c3 c2
      rw [e1,← hv d' hd',getD_of_get (put_get_ne (Ne.symm e2))]
     ·cases x with
      | tmp t=>
       rw [ev,ev]
       have nodst:∀ {j:Nat} {oj:Oper},l[j]?=some oj→oj.dst=some t→j<i→∀ oj ∈ ((l.drop (n1+1)).take k2).drop (i-(n1+1)),oj.dst≠some t:=fun {j oj} hj hdj hji y hy e=>by
        obtain ⟨q,hq⟩:=List.getElem?_of_mem hy
        rw [List.getElem?_drop,List.getElem?_take] at hq
        split at hq
        ·rw [List.getElem?_drop] at hq;have:=idx hj hq hdj e;omega
        ·cases hq
       rcases opnd ho hx with ⟨j,oj,hj,hdj,hji⟩ | hn
       ·rw [getD_of_get (hak t (nodst hj hdj hji))]
        by_cases hjn:j=n1
        ·subst hjn
         rw [ho1] at hj;cases hj
         have:t=d:=by rw [hd1] at hdj;exact (Option.some.inj hdj).symm
         subst this
         rw [put_get_eq (by rw [r2,q2];exact hdn)]
        ·obtain ⟨e1,e2⟩:=k2' hj hdj (by omega) hjn
         rw [agd hx hj hdj hjn,e1,getD_of_get (put_get_ne (Ne.symm e2))]
       ·have kb:=kbase (t:=t) (fun j oj hj _=>hn j oj hj)
        rw [agb hx hn,← getD_of_get kb.2.1,← getD_of_get (put_get_ne (a:=am) (v:=a'.tmps.getD d undef) (Ne.symm kb.2.2.2))]
        refine (getD_of_get (hak t (fun y hy e=>?_))).symm
        obtain ⟨q,hq⟩:=List.getElem?_of_mem (List.mem_of_mem_drop (List.mem_of_mem_take (List.mem_of_mem_drop hy)))
        exact hn q y hq e
      | const v=>rfl
      | global g=>rfl
      | func f=>rfl
    ·have hkk:((l.drop (n1+1+k2)).take k3)[i-(n1+1+k2)]?=some o:=by
      rw [List.getElem?_take,if_pos (by omega),List.getElem?_drop,show n1+1+k2+(i-(n1+1+k2))=i by omega];exact ho
     have hrd:readsT d o=false:=hr3 o (List.mem_of_getElem? hkk)
     obtain ⟨_,hch⟩:=quiet_chain _ _ s3.1 s3.2.1 (fun o ho d' hd'=>by rw [put_size,r2,q2];exact s3.2.2 o ho d' hd') (W2 undef w' hb)
     obtain ⟨ak,v,hq,hak,hv⟩:=hch (i-(n1+1+k2)) o hkk
     refine Oper.wp_mono ?_ (step_quiet (hselN i o ho) (hq w' here) (fun x hx=>?_))
     ·rintro a'' w'' ⟨v',rfl,rfl,hb'⟩
      refine ⟨_,rfl,(sp2 c2).2 (fun o' d' ho' hd'=>?_),hb'⟩
      rw [ho] at ho';cases ho'
      have hne:d'≠d:=by rintro rfl;exact c2 (idx ho ho1 hd' hd1)
      rw [← hv d' hd',getD_of_get (put_get_ne (Ne.symm hne))]
     ·cases x with
      | tmp t=>
       rw [ev,ev]
       have htd:t≠d:=by rintro rfl;rw [readsT_iff.2 hx] at hrd;cases hrd
       rcases opnd ho hx with ⟨j,oj,hj,hdj,hji⟩ | hn
       ·have hjn:j≠n1:=by rintro rfl;rw [ho1] at hj;cases hj;rw [hd1] at hdj;exact htd (Option.some.inj hdj).symm
        rw [agd hx hj hdj hjn,← getD_of_get (put_get_ne (a:=a2) (v:=undef) (Ne.symm htd))]
        refine (getD_of_get (hak t (fun y hy e=>?_))).symm
        obtain ⟨q,hq⟩:=List.getElem?_of_mem hy
        rw [List.getElem?_drop,List.getElem?_take] at hq
        split at hq
        ·rw [List.getElem?_drop] at hq;have:=idx hj hq hdj e;omega
        ·cases hq
       ·have kb:=kbase (t:=t) (fun j oj hj _=>hn j oj hj)
        rw [agb hx hn,← getD_of_get kb.2.2.1,← getD_of_get (put_get_ne (a:=a2) (v:=undef) (Ne.symm htd))]
        refine (getD_of_get (hak t (fun y hy e=>?_))).symm
        obtain ⟨q,hq⟩:=List.getElem?_of_mem (List.mem_of_mem_drop (List.mem_of_mem_take (List.mem_of_mem_drop hy)))
        exact hn q y hq e
      | const v=>rfl
      | global g=>rfl
      | func f=>rfl
 have hsz:l.toArray.size=l.length:=by simp
 have hT:∀ listed,HeadInv .any l.toArray N listed→(∃ i,i<N∧listed.getD i true=false)→∀ t ∈ Region.ready .any l.toArray listed,t<N:=by
  rintro listed inv ⟨i,hi,hl⟩ t ht
  by_cases e:N=l.length
  ·obtain ⟨_,o,ho,_⟩:=mem_ready.1 ht
   have:=(Array.getElem?_eq_some_iff.1 ho).1
   omega
  ·rw [decide_eq_false e] at hsk
   simp only [Bool.false_or,Bool.and_eq_true] at hsk
   rcases Nat.lt_or_ge t N with h | h
   ·exact h
   ·exact absurd ht (tail_waits hsk.1 hsk.2 (by omega) inv _ i rfl hi hl t h)
 have hend':∀ (listed:Array Bool) (a':Act) (w':World),HeadInv .any l.toArray N listed→(∀ i,i<N→listed.getD i true=true)→Below w.heap.size w w'→a'.defers=a.defers→a'.tmps.size=a.tmps.size→(∀ (i:Nat) (o:Oper) (d:Nat),i<N→l.toArray[i]?=some o→o.dst=some d→spec i (a'.tmps.getD d undef) w')→(∀ t,(∀ (j:Nat) (oj:Oper),j<N→l.toArray[j]?=some oj→oj.dst≠some t)→a'.tmps[t]?=a.tmps[t]?)→wpAny P .any l.toArray Q (l.drop N).length listed a' w':=by
  intro listed a' w' hv all hb hdf hts hdone hrest
  have hX:Φ (a'.tmps.getD d undef) w':=by
   have:=hdone n1 o1 d (by omega) (get _ _ ho1) hd1
   rw [sp1] at this;exact this
  have ea:a'=a2.put (some d) (a'.tmps.getD d undef):=by
   have e1:a'.tmps=(a2.put (some d) (a'.tmps.getD d undef)).tmps:=by
    apply Array.ext_getElem?
    intro t
    by_cases htd:t=d
    ·subst htd
     have h1:t<a'.tmps.size:=by rw [hts];exact hdn
     have h2:t<a2.tmps.size:=by rw [t2,r2,q2];exact hdn
     show a'.tmps[t]?=(a2.tmps.setIfInBounds t _)[t]?
     rw [Array.getElem?_setIfInBounds_self_of_lt h2,Array.getElem?_eq_getElem h1]
     simp [Array.getD_eq_getD_getElem?,h1]
    ·rw [put_get_ne (Ne.symm htd)]
     by_cases hex:∃ (j:Nat) (oj:Oper),j<N∧l[j]?=some oj∧oj.dst=some t
     ·obtain ⟨j,oj,hjN,hj,hdj⟩:=hex
      have hjn:j≠n1:=by rintro rfl;rw [ho1] at hj;cases hj;rw [hd1] at hdj;exact htd (Option.some.inj hdj).symm
      have:=hdone j oj t hjN (get _ _ hj) hdj
      rw [sp2 hjn] at this
      have e:=this oj t hj hdj
      have h1:t<a'.tmps.size:=by rw [hts];exact F.fits j oj t (get _ _ hj) hdj
      have h2:t<a2.tmps.size:=by rw [t2,r2,q2];exact F.fits j oj t (get _ _ hj) hdj
      rw [Array.getElem?_eq_getElem h1,Array.getElem?_eq_getElem h2]
      rw [Array.getD_eq_getD_getElem?,Array.getD_eq_getD_getElem?,Array.getElem?_eq_getElem h1,Array.getElem?_eq_getElem h2] at e
      exact congrArg some e
     ·have hn:∀ (j:Nat) (oj:Oper),l[j]?=some oj→j<N→oj.dst≠some t:=fun j oj hj hjN hdj=>hex ⟨j,oj,hjN,hj,hdj⟩
      rw [hrest t (fun j oj hjN hj=>hn j oj (getL _ _ hj) hjN),(kbase hn).2.2.1]
   have e2:a'.defers=(a2.put (some d) (a'.tmps.getD d undef)).defers:=by rw [put_defers,hdf,t1,r1,q1]
   cases a'
   cases hq:a2.put (some d) _
   rw [hq] at e1 e2
   simp only at e1 e2
   rw [e1,e2]
  have el:listed=(List.replicate N true++List.replicate (l.length-N) false).toArray:=by
   apply Array.ext_getElem?
   intro i
   rw [show (List.replicate N true++List.replicate (l.length-N) false).toArray[i]?=(List.replicate N true++List.replicate (l.length-N) false)[i]? from by simp only [List.getElem?_toArray],List.getElem?_append,List.length_replicate]
   by_cases h1:i<N
   ·rw [if_pos h1,List.getElem?_replicate,if_pos h1]
    have:=all i h1
    have hlt:i<listed.size:=by rw [hv.size,hsz];omega
    rw [Array.getD_eq_getD_getElem?,Array.getElem?_eq_getElem hlt] at this
    rw [Array.getElem?_eq_getElem hlt]
    exact congrArg some this
   ·rw [if_neg h1,List.getElem?_replicate]
    by_cases h2:i<l.length
    ·rw [if_pos (by omega)]
     have:=hv.tail i (by omega) (by omega)
     have hlt:i<listed.size:=by rw [hv.size,hsz];omega
     rw [Array.getD_eq_getD_getElem?,Array.getElem?_eq_getElem hlt] at this
     rw [Array.getElem?_eq_getElem hlt]
     exact congrArg some this
    ·rw [if_neg (by omega),Array.getElem?_eq_none (by rw [hv.size,hsz];omega)]
  rw [ea]
  refine wpAny_of_seq (l.drop N) N listed _ w' (fun j=>by simp [List.getElem?_drop]) ?_ (hend _ w' hb hX)
  rw [el,List.length_drop];exact hseq
 refine wp_region_any hm ?_
 have H:=wpAny_inv (P:=P) (Q:=Q) (a0:=a) (w0:=w) (n:=N) (g:=(l.drop N).length) F (by omega) hT spec hmono hstep hend' N (Array.replicate l.toArray.size false) a { w with drawn:=w.drawn+1 } ?_ ?_ ?_
 ·rw [List.length_drop,show N+(l.length-N)=l.toArray.size by omega] at H
  exact H
 ·unfold unlisted
  rw [List.filter_eq_self.2 (fun i hi=>?_),List.length_range]
  rw [List.mem_range] at hi
  rw [Array.getD_eq_getD_getElem?,Array.getElem?_eq_getElem (by simp;omega)]
  simp
 ·refine ⟨by simp,fun j oj hj hl=>?_,fun t _ ht=>?_⟩
  ·rw [Array.getD_eq_getD_getElem?,Array.getElem?_replicate] at hl
   split at hl <;> cases hl
  ·rw [Array.getD_eq_getD_getElem?,Array.getElem?_eq_getElem (by simpa using ht)];simp
 ·refine ⟨by simp,(Below.refl w.heap.size w).drew,rfl,rfl,fun i o d' ho hl=>?_,fun t _=>rfl⟩
  have hi:=(Array.getElem?_eq_some_iff.1 ho).1
  rw [Array.getD_eq_getD_getElem?,Array.getElem?_eq_getElem (by simpa using hi)] at hl
  simp at hl
end
section
variable {P:Program} {Q:Exit→Act→World→Prop}
def invB (l:List Oper) (n size:Nat):Bool:=
 formedB l.toArray size && decide (n≤l.length) && (decide (n=l.length) || (Region.sinkB .any l.toArray n && Region.chainB .any l.toArray n)) &&
 Region.seqB .any l.toArray (l.length-n) n (List.replicate n true++List.replicate (l.length-n) false).toArray
theorem wp_region_inv {id:Nat} {l:List Oper} {a:Act} {w:World} (n:Nat) (spec:Nat→Value→World→Prop) (hm:P.follows .mixedOrders=true) (hB:invB l n a.tmps.size=true) (hmono:∀ i v w w',spec i v w→Below w.heap.size w w'→spec i v w')
  (hstep:∀ (i:Nat) (o:Oper) (a':Act) (w':World),i<n→l[i]?=some o→Below w.heap.size w w'→Agree l.toArray spec a a' o w'→o.wp P a' w' (fun a'' w''=>∃ v,a''=a'.put o.dst v∧spec i v w''∧Below w'.heap.size w' w'') Q)
  (hend:∀ (a':Act) (w':World),Below w.heap.size w w'→a'.defers=a.defers→a'.tmps.size=a.tmps.size→(∀ (i:Nat) (o:Oper) (d:Nat),i<n→l[i]?=some o→o.dst=some d→spec i (a'.tmps.getD d undef) w')→(∀ t,(∀ (j:Nat) (oj:Oper),j<n→l[j]?=some oj→oj.dst≠some t)→a'.tmps[t]?=a.tmps[t]?)→wpList P l.toArray Q (l.drop n) a' w'):(Code.region id l.toArray true).wp P Q a w:=by
 simp only [invB,Bool.and_eq_true,decide_eq_true_eq] at hB
 obtain ⟨⟨⟨hF,hlen⟩,hsk⟩,hseq⟩:=hB
 have F:=formed_of hF
 have get:∀ (i:Nat) (o:Oper),l[i]?=some o→l.toArray[i]?=some o:=fun i o h=>by simpa using h
 have getL:∀ (i:Nat) (o:Oper),l.toArray[i]?=some o→l[i]?=some o:=fun i o h=>by simpa using h
 have hsz:l.toArray.size=l.length:=by simp
 have hT:∀ listed,HeadInv .any l.toArray n listed→(∃ i,i<n∧listed.getD i true=false)→∀ t ∈ Region.ready .any l.toArray listed,t<n:=by
  rintro listed inv ⟨i,hi,hl⟩ t ht
  by_cases e:n=l.length
  ·obtain ⟨_,o,ho,_⟩:=mem_ready.1 ht
   have:=(Array.getElem?_eq_some_iff.1 ho).1
   omega
  ·rw [decide_eq_false e] at hsk
   simp only [Bool.false_or,Bool.and_eq_true] at hsk
   rcases Nat.lt_or_ge t n with h | h
   ·exact h
   ·exact absurd ht (tail_waits hsk.1 hsk.2 (by omega) inv _ i rfl hi hl t h)
 have hend':∀ (listed:Array Bool) (a':Act) (w':World),HeadInv .any l.toArray n listed→(∀ i,i<n→listed.getD i true=true)→Below w.heap.size w w'→a'.defers=a.defers→a'.tmps.size=a.tmps.size→(∀ (i:Nat) (o:Oper) (d:Nat),i<n→l.toArray[i]?=some o→o.dst=some d→spec i (a'.tmps.getD d undef) w')→(∀ t,(∀ (j:Nat) (oj:Oper),j<n→l.toArray[j]?=some oj→oj.dst≠some t)→a'.tmps[t]?=a.tmps[t]?)→wpAny P .any l.toArray Q (l.drop n).length listed a' w':=by
  intro listed a' w' hv all hb hdf hts hdone hrest
  have el:listed=(List.replicate n true++List.replicate (l.length-n) false).toArray:=by
   apply Array.ext_getElem?
   intro i
   rw [show (List.replicate n true++List.replicate (l.length-n) false).toArray[i]?=(List.replicate n true++List.replicate (l.length-n) false)[i]? from by simp only [List.getElem?_toArray],List.getElem?_append,List.length_replicate]
   by_cases h1:i<n
   ·rw [if_pos h1,List.getElem?_replicate,if_pos h1]
    have:=all i h1
    have hlt:i<listed.size:=by rw [hv.size,hsz];omega
    rw [Array.getD_eq_getD_getElem?,Array.getElem?_eq_getElem hlt] at this
    rw [Array.getElem?_eq_getElem hlt]
    exact congrArg some this
   ·rw [if_neg h1,List.getElem?_replicate]
    by_cases h2:i<l.length
    ·rw [if_pos (by omega)]
     have:=hv.tail i (by omega) (by omega)
     have hlt:i<listed.size:=by rw [hv.size,hsz];omega
     rw [Array.getD_eq_getD_getElem?,Array.getElem?_eq_getElem hlt] at this
     rw [Array.getElem?_eq_getElem hlt]
     exact congrArg some this
    ·rw [if_neg (by omega),Array.getElem?_eq_none (by rw [hv.size,hsz];omega)]
  refine wpAny_of_seq (l.drop n) n listed _ w' (fun j=>by simp [List.getElem?_drop]) ?_ (hend a' w' hb hdf hts (fun i o d hi ho hd=>hdone i o d hi (get i o ho) hd) (fun t ht=>hrest t (fun j oj hj ho=>ht j oj hj (getL j oj ho))))
  rw [el,List.length_drop];exact hseq
 refine wp_region_any hm ?_
 have H:=wpAny_inv (P:=P) (Q:=Q) (a0:=a) (w0:=w) (n:=n) (g:=(l.drop n).length) F (by omega) hT spec hmono (fun i o a' w' hi ho hb hag=>hstep i o a' w' hi (getL i o ho) hb hag) hend' n (Array.replicate l.toArray.size false) a { w with drawn:=w.drawn+1 } ?_ ?_ ?_
 ·rw [List.length_drop,show n+(l.length-n)=l.toArray.size by omega] at H
  exact H
 ·unfold unlisted
  rw [List.filter_eq_self.2 (fun i hi=>?_),List.length_range]
  rw [List.mem_range] at hi
  rw [Array.getD_eq_getD_getElem?,Array.getElem?_eq_getElem (by simp;omega)]
  simp
 ·refine ⟨by simp,fun j oj hj hl=>?_,fun t _ ht=>?_⟩
  ·rw [Array.getD_eq_getD_getElem?,Array.getElem?_replicate] at hl
   split at hl <;> cases hl
  ·rw [Array.getD_eq_getD_getElem?,Array.getElem?_eq_getElem (by simpa using ht)];simp
 ·refine ⟨by simp,(Below.refl w.heap.size w).drew,rfl,rfl,fun i o d' ho hl=>?_,fun t _=>rfl⟩
  have hi:=(Array.getElem?_eq_some_iff.1 ho).1
  rw [Array.getD_eq_getD_getElem?,Array.getElem?_eq_getElem (by simpa using hi)] at hl
  simp at hl
theorem step_val {o:Oper} {a:Act} {w w':World} {v:Value} {S:Value→World→Prop} (hr:(execOp a.eval o).run P w=.ok (.value v) w') (h:S v w') (hb:Below w.heap.size w w'):o.wp P a w (fun a' w'=>∃ v,a'=a.put o.dst v∧S v w'∧Below w.heap.size w w') Q:=by
 unfold Oper.wp;rw [hr];exact ⟨v,rfl,h,hb⟩
theorem step_call {o:Oper} {a:Act} {w:World} {f:FuncId} {args:Array Value} {S:Value→World→Prop} (hr:(execOp a.eval o).run P w=.ok (.enter f args) w) (h:Calls P f args w fun e w'=>∃ v,e=.returned v∧S v w'∧Below w.heap.size w w'):o.wp P a w (fun a' w'=>∃ v,a'=a.put o.dst v∧S v w'∧Below w.heap.size w w') Q:=by
 unfold Oper.wp;rw [hr]
 exact h.mono fun e w' ⟨v,he,h1,h2⟩=>by subst he;exact ⟨v,rfl,h1,h2⟩
end
end Go.Proofs.YtdldlendppkknaaGreatDoor
