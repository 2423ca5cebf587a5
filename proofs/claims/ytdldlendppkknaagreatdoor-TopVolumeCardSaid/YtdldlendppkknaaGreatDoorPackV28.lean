/-
  Contracts and plain laws: FskA, TreeE, TreeF, LimT, FskB, Named.
-/
import Derived.Test.YtdldlendppkknaaGreatDoorPackV27
namespace Go.Proofs.YtdldlendppkknaaGreatDoor
open Go.RowKit Go.Maps
set_option linter.unusedVariables false
set_option linter.unusedSimpArgs false
set_option maxRecDepth 100000
theorem zInt (w:World):(zeroValue 3).run Tryz.prog w=.ok (.int .i64 0) w:=by kernel_rfl
theorem zBool (w:World):(zeroValue 4).run Tryz.prog w=.ok (.bool false) w:=by kernel_rfl
theorem zIno (w:World):(zeroValue 39).run Tryz.prog w=.ok (.agg (inoC (List.replicate 12 0))) w:=by kernel_rfl
theorem zEnts (w:World):(zeroValue 123).run Tryz.prog w=.ok (.slice none 0 0) w:=by kernel_rfl
theorem wf_nat {k:Nat} (h:k≤9223372036854775807):(Lit.int .i64 (k:Int)).wf=true:=by simp [Lit.wf,IntKind.min,IntKind.max,IntKind.signed,IntKind.bits];omega
structure FkE where
 w0:World
 A:Option Addr
 c:Nat
 V:List ByteArray
 m:Nat
 p:Nat
 q:Nat
def fkC (E:FkE):Array Value:=#[.slice E.A E.V.length E.c,.int .i64 (E.V.length:Int),.int .i64 (E.m:Int),.int .i64 1,.int .i64 2,.int .i64 3,.int .i64 (dataN E.m:Nat),.map (some (E.p+0)),.map (some (E.p+1)),.map (some (E.p+2)),.map (some (E.p+3)),.map (some (E.p+4))]
structure FkS (E:FkE) (n:Nat) (f:Nat→Int→Option Value) (w:World):Prop where
 blk:Blk w E.q 216 (fkC E)
 low:Below E.w0.heap.size E.w0 w
 base:E.w0.heap.size≤E.p∧E.p+4<E.q
 map:∀ k,k<4→MapIs w (E.p+k) n (f k)
 void:w.heap[E.p+4]?=some (.map #[] 0)
 rows:∀ (d:Nat) v,f 2 (d:Int)=some v→∃ A c,v=.slice A (entD E.V d).length c∧RowAt w w.heap.size A (entC (entD E.V d))
section
variable {E:FkE} {n k b:Nat} {f:Nat→Int→Option Value} {w w':World} {g:Int→Option Value}
theorem FkS.later (S:FkS E n f w) (hb:Below w.heap.size w w'):FkS E n f w':=
 ⟨S.blk.below hb S.blk.lt,S.low.trans (hb.mono S.low.size),S.base,fun k hk=>(S.map k hk).below hb (S.map k hk).lt,(hb.block _ (Array.getElem?_eq_some_iff.1 S.void).1).trans S.void,fun d v h=>by
  obtain ⟨A,c,e,h⟩:=S.rows d v h
  exact ⟨A,c,e,(h.below hb).mono hb.size⟩⟩
theorem row_turn {A:Option Addr} {xs:List Value} {r:Nat} (h:RowAt w w.heap.size A xs) (hg:w.grownBy w' (some r)) (hm:MapIs w r n g):RowAt w' w'.heap.size A xs:=by
 rcases h with rfl | ⟨b,o,hA,hb,hc⟩
 ·exact .inl rfl
 ·refine .inr ⟨b,o,hA,Nat.lt_of_lt_of_le hb hg.size,fun j u hu=>?_⟩
  have h1:=hc j u hu
  have hne:b≠r:=fun e=>by
   obtain ⟨_,⟨es,clock,h2,_⟩,_⟩:=hm
   subst e
   simp [World.cell?,h2] at h1
  exact (World.cell?_of_block (a:=⟨b,o+j,none⟩) (hg.block b hb (by simpa using hne))).trans h1
theorem FkS.put (S:FkS E n f w) (hk:k<4) {z:Int} {v:Value} (hg:w.grownBy w' (some (E.p+k))) (hm:MapIs w' (E.p+k) (n+1) (updF (f k) z v))
  (hr:k=2→∃ d:Nat,z=(d:Int)∧∃ A c,v=.slice A (entD E.V d).length c∧RowAt w w.heap.size A (entC (entD E.V d))):FkS E (n+1) (fun j=>if j=k then updF (f k) z v else f j) w':=by
 have hb:=S.base
 have turn:∀ {A:Option Addr} {xs:List Value},RowAt w w.heap.size A xs→RowAt w' w'.heap.size A xs:=fun h=>row_turn h hg (S.map k hk)
 refine ⟨S.blk.grown hg (by simp;omega),S.low.grown hg S.low.size (fun j e=>by cases e;omega),hb,fun j hj=>?_,(hg.block _ (Array.getElem?_eq_some_iff.1 S.void).1 (by simp;omega)).trans S.void,fun d u hu=>?_⟩
 ·by_cases e:j=k
  ·subst e;rw [if_pos rfl];exact hm
  ·rw [if_neg e];exact ((S.map j hj).kept hg (by omega)).mono (by omega)
 ·by_cases e:2=k
  ·subst e
   rw [if_pos rfl] at hu
   unfold updF at hu
   by_cases e2:(d:Int)=z
   ·rw [if_pos e2] at hu
    cases hu
    obtain ⟨d2,h2,A,c,h3,h4⟩:=hr rfl
    have:d=d2:=by omega
    subst this
    exact ⟨A,c,h3,turn h4⟩
   ·rw [if_neg e2] at hu
    obtain ⟨A,c,h3,h4⟩:=S.rows d u hu
    exact ⟨A,c,h3,turn h4⟩
  ·rw [if_neg e] at hu
   obtain ⟨A,c,h3,h4⟩:=S.rows d u hu
   exact ⟨A,c,h3,turn h4⟩
theorem FkS.row (S:FkS E n f w) {xs:List Value} (h:RowAt E.w0 E.w0.heap.size E.A xs):RowAt w w.heap.size E.A xs:=(h.below S.low).mono S.low.size
theorem FkS.int (S:FkS E n f w) (hk:k<4) {z:Int} (hz:(Lit.int .i64 z).wf=true) {x:Int} (h:(f k z).getD (.int .i64 0)=.int .i64 x):(Instr.lookup 212 (.map (some (E.p+k))) (.int .i64 z) false).run Tryz.prog w=.ok (.int .i64 x) w:=by
 have:=(S.map k hk).look Tryz.underlying212 (zInt w) z hz false
 rwa [h] at this
theorem FkS.ino (S:FkS E n f w) {z:Int} (hz:(Lit.int .i64 z).wf=true) {v:Value} (h:f 0 z=some v) (c:Bool):(Instr.lookup 211 (.map (some (E.p+0))) (.int .i64 z) c).run Tryz.prog w=.ok (if c then .tuple #[v,.bool true] else v) w:=by
 have:=(S.map 0 (by omega)).look Tryz.underlying211 (zIno w) z hz c
 rwa [h] at this
theorem FkS.ents (S:FkS E n f w) {z:Int} (hz:(Lit.int .i64 z).wf=true):(Instr.lookup 213 (.map (some (E.p+2))) (.int .i64 z) false).run Tryz.prog w=.ok ((f 2 z).getD (.slice none 0 0)) w:=
 (S.map 2 (by omega)).look Tryz.underlying213 (zEnts w) z hz false
set_option maxHeartbeats 1000000 in
theorem is_fk (S:FkS E n f w) (k:Nat):Calls Tryz.prog 187 #[.pointer (some ⟨E.q,0,none⟩),.int .i64 (k:Int)] w fun e w'=>e=.returned (.bool (datB E.V E.m k))∧w'=w:=by
 have c1:=S.blk.cell 1 (v:=.int .i64 (E.V.length:Int)) rfl
 have c6:=S.blk.cell 6 (v:=.int .i64 (dataN E.m:Nat)) rfl
 have HD:Hid (datB E.V E.m k=decide (dataN E.m≤k∧k<E.V.length)):=rfl
 clear S
 generalize dataN E.m=d at *
 generalize E.V.length=l at *
 generalize E.q=q at *
 by_cases h1:d≤k
 ·by_cases h2:k<l
  ·go_enter Tryz.func187,Tryz.ntmps187
   go_wp2
   go_ret
   exact ⟨ret_bool (by rw [HD.out];simp [h1,h2]),rfl⟩
  ·go_enter Tryz.func187,Tryz.ntmps187
   go_wp2
   go_ret
   exact ⟨ret_bool (by rw [HD.out];simp [h1,h2]),rfl⟩
 ·go_enter Tryz.func187,Tryz.ntmps187
  go_wp2
  go_ret
  exact ⟨ret_bool (by rw [HD.out];simp [h1]),rfl⟩
set_option maxHeartbeats 1000000 in
theorem asked_fk (S:FkS E n f w) (k x:Nat) (hk:k≤1000) (hx:x≤1000000) (h:(f 3 (k:Int)).getD (.int .i64 0)=.int .i64 (x:Int)):Calls Tryz.prog 191 #[.pointer (some ⟨E.q,0,none⟩),.int .i64 (k:Int)] w fun e w'=>e=.returned (.int .i64 ((x+if k=1 then 1 else 0:Nat):Int))∧w'=w:=by
 have c10:=S.blk.cell 10 (v:=.map (some (E.p+3))) rfl
 have L:=S.int (by omega) (wf_nat (by omega)) h
 generalize E.p+3=r at *
 generalize E.q=q at *
 clear h S
 by_cases h1:k=1
 ·have h2:((k:Int) == 1)=true:=by simp;omega
  have ws:IntKind.i64.wrap ((x:Int)+1)=(x:Int)+1:=IntWalk.i64_in _ (by omega)
  have H1:=Lib.hid h1
  clear h1
  go_enter Tryz.func191,Tryz.ntmps191
  go_wp2
  go_ret
  exact ⟨ret_int (by simp [H1.out]),rfl⟩
 ·have h2:((k:Int) == 1)=false:=by simp;omega
  go_enter Tryz.func191,Tryz.ntmps191
  go_wp2
  go_ret
  exact ⟨ret_int (by simp),rfl⟩
set_option maxHeartbeats 1000000 in
theorem shared_fk (S:FkS E n f w) (k x:Nat) (l:List Nat) (hl:l.length=12) (hk:k≤1000) (h0:f 0 (k:Int)=some (.agg (inoC l))) (h:(f 3 (k:Int)).getD (.int .i64 0)=.int .i64 (x:Int)) (hs:k≠1→l.getD 0 0=2→x≤1) :
  Calls Tryz.prog 192 #[.pointer (some ⟨E.q,0,none⟩),.int .i64 (k:Int)] w fun e w'=>e=.returned (.bool false)∧w'=w:=by
 obtain ⟨a0,a1,a2,a3,a4,a5,a6,a7,a8,a9,a10,a11,rfl⟩:=len12 hl
 have c7:=S.blk.cell 7 (v:=.map (some (E.p+0))) rfl
 have c10:=S.blk.cell 10 (v:=.map (some (E.p+3))) rfl
 have L:=S.int (by omega) (wf_nat (by omega)) h
 have L9:=S.ino (wf_nat (by omega)) h0 false
 have L0:(Instr.lookup 211 (.map (some (E.p+0))) (.int .i64 (k:Int)) false).run Tryz.prog w=.ok (.agg #[.int .i64 a0,.int .i64 a1,.int .i64 a2,.int .i64 a3,.int .i64 a4,.int .i64 a5,.int .i64 a6,.int .i64 a7,.int .i64 a8,.int .i64 a9,.int .i64 a10,.int .i64 a11]) w:=L9
 clear L9
 have hfd:=ino_field0
 have hs:k≠1→a0=2→x≤1:=hs
 generalize E.p+3=r at *
 generalize E.p+0=r0 at *
 generalize E.q=q at *
 clear h S h0
 by_cases h1:k=1
 ·have h2:((k:Int) != 1)=false:=by simp;omega
  clear hs
  go_enter Tryz.func192,Tryz.ntmps192
  go_wp2
  go_ret
  exact ⟨rfl,rfl⟩
 ·have h2:((k:Int) != 1)=true:=by simp;omega
  have hs:=hs h1
  by_cases h3:a0=2
  ·have h4:((a0:Int) == 2)=true:=by simp;omega
   have h5:¬ (1:Int)<(x:Int):=by have:=hs h3;omega
   clear hs h3 h1
   go_enter Tryz.func192,Tryz.ntmps192
   go_wp2
   go_ret
   exact ⟨rfl,rfl⟩
  ·have h4:((a0:Int) == 2)=false:=by simp;omega
   clear hs h3 h1
   go_enter Tryz.func192,Tryz.ntmps192
   go_wp2
   go_ret
   exact ⟨rfl,rfl⟩
end
inductive ReachT (V:List ByteArray) (m:Nat):Nat→Prop
 | top:ReachT V m 1
 | step {d k:Nat} {x:EntV} (h:ReachT V m d) (hd:LiveT V m d) (hk:kindR V d=2) (hx:x ∈ entD V d) (he:x.ino=(k:Int)):ReachT V m k
inductive SubT (V:List ByteArray) (m n:Nat):Nat→Prop
 | top:SubT V m n n
 | step {d k:Nat} {x:EntV} (h:SubT V m n d) (hd:LiveT V m d) (hk:kindR V d=2) (hx:x ∈ entD V d) (he:x.ino=(k:Int)):SubT V m n k
section
variable {V W X ys:List ByteArray} {m n k c d b:Nat} {nm:ByteArray} {x:EntV} {E E':List EntV} {δ ε:Nat→Int}
def AllR (V:List ByteArray) (m:Nat):Prop:=∀ n,LiveT V m n→ReachT V m n
structure RootT (V:List ByteArray) (m:Nat):Prop where
 tree:FsT V m
 reach:AllR V m
theorem RootT.vol (h:RootT V m):IsVol V m:=h.tree.vol
theorem ReachT.mono (he:∀ d,LiveT V m d→kindR V d=2→∀ x ∈ entD V d,LiveT W m d∧kindR W d=2∧x ∈ entD W d) (h:ReachT V m k):ReachT W m k:=by
 induction h with
 | top=>exact .top
 | step _ hd hk hx e ih=>exact .step ih (he _ hd hk _ hx).1 (he _ hd hk _ hx).2.1 (he _ hd hk _ hx).2.2 e
theorem sum_two {a b:Nat} (f:Nat→Nat):∀ L:List Nat,L.Nodup→a ∈ L→b ∈ L→a≠b→f a+f b≤(L.map f).sum
 | [],_,h,_,_=>by cases h
 | c::L,hn,ha,hb,hne=>by
  rw [List.map_cons,List.sum_cons]
  have hn2:=List.nodup_cons.1 hn
  have one:∀ (L:List Nat) (z:Nat),z ∈ L→f z≤(L.map f).sum:=fun L=>by
   induction L with
   | nil=>intro z hz;cases hz
   | cons y L ih=>
    intro z hz
    rw [List.map_cons,List.sum_cons]
    rcases List.mem_cons.1 hz with rfl | hz
    ·omega
    ·have:=ih z hz;omega
  rcases List.mem_cons.1 ha with rfl | ha'
  ·rcases List.mem_cons.1 hb with rfl | hb
   ·exact absurd rfl hne
   ·have:=one L b hb;omega
  ·rcases List.mem_cons.1 hb with rfl | hb'
   ·have:=one L a ha';omega
   ·have:=sum_two f L hn2.2 ha' hb' hne;omega
theorem count_two (hv:ValidE E) {x y:EntV} (hx:x ∈ E) (hy:y ∈ E) (hne:x.name≠y.name) (p:EntV→Bool) (px:p x=true) (py:p y=true):2≤E.countP p:=by
 rw [cnt_out p hv (mem_has hx),get_mem hv hx]
 have h1:y ∈ outE E x.name:=mem_outE.2 ⟨hy,fun e=>hne e.symm⟩
 have h2:0<(outE E x.name).countP p:=List.countP_pos_iff.2 ⟨y,h1,py⟩
 have h3:p ⟨x.name,x.ino⟩=true:=px
 rw [if_pos h3]
 omega
theorem TreeX.named_once (h:FsT V m) (hk:LiveT V m k) (h2:kindR V k=2) (n1:k≠1) {d e:Nat} {x y:EntV} (hd:LiveT V m d) (hdk:kindR V d=2) (hx:x ∈ entD V d) (ex:x.ino=(k:Int)) (he:LiveT V m e) (hek:kindR V e=2) (hy:y ∈ entD V e) (ey:y.ino=(k:Int)) :
  d=e∧x.name=y.name:=by
 have hl:=h.links k hk
 rw [h.dlink k hk h2,if_neg n1] at hl
 have hc:cntE V m k=1:=by omega
 have pd:∀ {d:Nat} {x:EntV},LiveT V m d→kindR V d=2→x ∈ entD V d→x.ino=(k:Int)→1≤cntD V d k:=fun {d x} _ h2 h3 h4=>by
  unfold cntD
  rw [if_pos h2]
  exact List.countP_pos_iff.2 ⟨x,h3,by rw [h4];simp⟩
 by_cases hde:d=e
 ·subst hde
  refine ⟨rfl,Classical.not_not.1 fun hne=>?_⟩
  have h3:=count_two (h.dir.dir d hd hdk).valid hx hy hne (fun x=>decide (x.ino=(k:Int))) (by rw [ex];simp) (by rw [ey];simp)
  have h4:=cntE_le (V:=V) (n:=k) hd.1 hd.2.1
  unfold cntD at h4
  rw [if_pos hdk] at h4
  omega
 ·have h3:=pd hd hdk hx ex
  have h4:=pd he hek hy ey
  have h5:cntD V d k+cntD V e k≤cntE V m k:=sum_two (fun d=>cntD V d k) (List.range' 1 m) (List.nodup_range' (step:=1)) (List.mem_range'.2 ⟨d-1,by have:=hd.1;have:=hd.2.1;omega,by have:=hd.1;omega⟩) (List.mem_range'.2 ⟨e-1,by have:=he.1;have:=he.2.1;omega,by have:=he.1;omega⟩) hde
  omega
theorem TreeX.last_step (h:FsT V m) {p:List (List UInt8)} {x:List UInt8} (he:goO V 1 (p++[x])=((k:Int),0)) :
  ∃ d:Nat,goO V 1 p=((d:Int),0)∧LiveT V m d∧kindR V d=2∧LiveT V m k∧k≠1∧(⟨⟨x.toArray⟩,(k:Int)⟩:EntV) ∈ entD V d:=by
 have h0:(goO V 1 p).2=0:=by
  refine Classical.not_not.1 fun hh=>?_
  rw [goO_stop V 1 p [x] hh] at he
  exact hh (congrArg Prod.snd he)
 rw [goO_snoc V 1 p x h0] at he
 by_cases hf:(findO V (goO V 1 p).1 ⟨x.toArray⟩).2≠0
 ·rw [if_pos hf] at he;exact absurd (congrArg Prod.snd he) hf
 ·rw [if_neg hf] at he
  have he:=congrArg Prod.fst he
  obtain ⟨d,k2,e1,hd,hk,e2,hl,n1,hm⟩:=h.find (Classical.not_not.1 hf)
  obtain rfl:k2=k:=by
   have:(findO V (goO V 1 p).1 ⟨x.toArray⟩).1=(k:Int):=he
   omega
  exact ⟨d,Prod.ext e1 h0,hd,hk,hl,n1,hm⟩
theorem list_snoc {α:Type} (l:List α):l=[]∨∃ p x,l=p++[x]:=by
 rcases List.eq_nil_or_concat l with h | ⟨p,x,h⟩
 ·exact .inl h
 ·exact .inr ⟨p,x,by simpa using h⟩
theorem TreeX.path_once (h:FsT V m):∀ (j:Nat) (p q:List (List UInt8)) (k:Nat),p.length=j→goO V 1 p=((k:Int),0)→goO V 1 q=((k:Int),0)→kindR V k=2→p=q
 | j,p,q,k,hj,hp,hq,h2=>by
  have top:∀ {p:List (List UInt8)},goO V 1 p=(((1:Nat):Int),0)→p=[]:=fun {p} hp=>by
   rcases list_snoc p with e | ⟨p',x,e⟩
   ·exact e
   ·rw [e] at hp
    obtain ⟨_,_,_,_,_,n1,_⟩:=h.last_step hp
    exact absurd rfl n1
  rcases list_snoc p with e | ⟨p',x,e⟩
  ·rw [e] at hp
   have:((1:Int),(0:Int))=((k:Int),0):=hp
   have:k=1:=by have:=congrArg Prod.fst this;dsimp only at this;omega
   subst this
   rw [e,top hq]
  ·rcases list_snoc q with e2 | ⟨q',y,e2⟩
   ·rw [e2] at hq
    have:((1:Int),(0:Int))=((k:Int),0):=hq
    have:k=1:=by have:=congrArg Prod.fst this;dsimp only at this;omega
    subst this
    rw [e2,top hp]
   ·rw [e] at hp hj
    rw [e2] at hq
    obtain ⟨d1,a1,a2,a3,a4,a5,a6⟩:=h.last_step hp
    obtain ⟨d2,b1,b2,b3,b4,b5,b6⟩:=h.last_step hq
    obtain ⟨rfl,hn⟩:=h.named_once a4 h2 a5 a2 a3 a6 rfl b2 b3 b6 rfl
    rw [List.length_append] at hj
    have hpq:=TreeX.path_once h (j-1) p' q' d1 (by simp at hj;omega) a1 b1 a3
    have hn:(⟨x.toArray⟩:ByteArray)=⟨y.toArray⟩:=hn
    have hxy:x=y:=by
     have:=congrArg (fun b:ByteArray=>b.data.toList) hn
     simpa using this
    rw [e,e2,hpq,hxy]
 termination_by j=>j
 decreasing_by
  rw [e] at hj
  simp at hj
  omega
theorem SubT.walk (h:FsT V m) (hs:SubT V m n k) (hn:LiveT V m n):∃ q:List (List UInt8),goO V (n:Int) q=((k:Int),0)∧LiveT V m k:=by
 induction hs with
 | top=>exact ⟨[],rfl,hn⟩
 | @step d k x _ hd hk hx he ih=>
  obtain ⟨q,hq,_⟩:=ih
  have hD:=h.dir.dir d hd hk
  have hok:=hD.valid.ok x hx
  unfold okE at hok
  rw [Bool.and_eq_true] at hok
  obtain ⟨k2,e2,hl,_⟩:=h.name d hd hk x hx
  obtain rfl:k2=k:=by omega
  refine ⟨q++[x.name.data.toList],?_,hl⟩
  rw [goO_snoc V _ q _ (by rw [hq])]
  have hxn:(⟨(x.name.data.toList).toArray⟩:ByteArray)=x.name:=by simp
  rw [hxn,hq]
  dsimp only
  rw [find_dir hD hok.1,if_pos (mem_has hx),get_mem hD.valid hx,if_neg (by simp),he]
theorem ReachT.drop (e:EntT V W m d (outE (entD V d) nm)) (hv:IsVol V m) (hmem:(⟨nm,(n:Int)⟩:EntV) ∈ entD V d) (hval:ValidE (entD V d)) (h:ReachT V m k):ReachT W m k∨SubT V m n k:=by
 induction h with
 | top=>exact .inl .top
 | @step d' k x _ hd hk hx he ih=>
  rcases ih with ih | ih
  ·by_cases hx2:d'=d∧x.name=nm
   ·obtain ⟨rfl,rfl⟩:=hx2
    have h1:=get_mem hval hx
    have h2:=get_mem hval hmem
    have:x.ino=(n:Int):=by rw [← h1];exact h2
    have:k=n:=by omega
    subst this
    exact .inr .top
   ·left
    refine .step ih ((e.liveA hv).2 hd) (by rw [e.kindA hv hd.1 hd.2.1];exact hk) (x:=x) ?_ he
    by_cases hdd:d'=d
    ·subst hdd
     rw [e.ent]
     exact mem_outE.2 ⟨hx,fun e2=>hx2 ⟨rfl,e2⟩⟩
    ·rw [e.rest d' hd hk hdd];exact hx
  ·exact .inr (.step ih hd hk hx he)
theorem SubT.reach (hn:ReachT W m n) (he:∀ d,LiveT V m d→kindR V d=2→∀ x ∈ entD V d,x.ino=(n:Int)∨(LiveT W m d∧kindR W d=2∧x ∈ entD W d)) (h:SubT V m n k):ReachT W m k:=by
 induction h with
 | top=>exact hn
 | @step d' k x _ hd hk hx e ih=>
  rcases he d' hd hk x hx with a | ⟨a,b,c⟩
  ·have:k=n:=by omega
   subst this
   exact hn
  ·exact .step ih a b c e
theorem SubT.leaf (h:FsT V m) (hl:kindR V n=2→entD V n=[]) (hs:SubT V m n k):k=n:=by
 induction hs with
 | top=>rfl
 | step _ hd hk hx _ ih=>
  subst ih
  rw [hl hk] at hx
  cases hx
theorem named_reach (h:FsT V m) (hn:LiveT V m n) (n1:n≠1) (hp:1≤linkN V n) (hr:∀ d,LiveT V m d→kindR V d=2→d≠n→ReachT V m d) (hk:kindR V n=1):ReachT V m n:=by
 have hl:=h.links n hn
 rw [if_neg n1] at hl
 have hc:cntE V m n≠0:=by omega
 have:∃ d,1≤d∧d≤m∧cntD V d n≠0:=Classical.not_not.1 fun hh=>hc (cntE_zero fun d h1 h2=>Classical.not_not.1 fun h3=>hh ⟨d,h1,h2,h3⟩)
 obtain ⟨d,d1,d2,d3⟩:=this
 unfold cntD at d3
 by_cases h2:kindR V d=2
 ·rw [if_pos h2] at d3
  obtain ⟨x,hx,he⟩:=List.countP_pos_iff.1 (Nat.pos_of_ne_zero d3)
  have hl:LiveT V m d:=⟨d1,d2,by omega⟩
  exact .step (hr d hl h2 (fun e=>by subst e;omega)) hl h2 hx (of_decide_eq_true he)
 ·rw [if_neg h2] at d3;exact absurd rfl d3
theorem EntT.more (e:EntT V W m d (insE (entD V d) x)) (hv:IsVol V m) {k:Nat} (h:ReachT V m k):ReachT W m k:=
 h.mono (fun d' h1 h2 y hy=>⟨(e.liveA hv).2 h1,by rw [e.kindA hv h1.1 h1.2.1];exact h2,by
  by_cases hd:d'=d
  ·subst hd;rw [e.ent];exact mem_insE.2 (.inr hy)
  ·rw [e.rest d' h1 h2 hd];exact hy⟩)
end
section
variable {V W X ys:List ByteArray} {m n k c d b:Nat} {E E':List EntV}
theorem RootT.still (h:RootT V m) (hW:FsT W m) (hl:∀ k,LiveT W m k↔LiveT V m k) (hk:∀ k,LiveT V m k→kindR W k=kindR V k) (he:∀ d,LiveT V m d→kindR V d=2→entD W d=entD V d):RootT W m:=
 ⟨hW,fun n hn=>(h.reach n ((hl n).1 hn)).mono (fun d h1 h2 x hx=>⟨(hl d).2 h1,by rw [hk d h1];exact h2,by rw [he d h1 h2];exact hx⟩)⟩
theorem RootT.made (h:RootT V m) {p:ByteArray} {kind owner:Int} (he:(madeO V p kind owner).2.2=0):RootT (madeO V p kind owner).1 m:=by
 have t:=(TreeX.made h.tree he).1
 obtain ⟨hv,hn,ha,e,_⟩:=made_ok he
 rw [e] at t ⊢
 obtain ⟨_,_,hp0,_,hvq⟩:=vac_ok hv
 obtain ⟨k0,hk0,hl0,_⟩:=h.tree.path hp0
 obtain ⟨n,n0,n1,n2,n3,n4,nf,ne,nr,hT⟩:=TreeX.new h.tree hn
 rw [n0] at ha t ⊢
 obtain ⟨a,d,hz,_,eT⟩:=hT.add n2 n3 ha
 refine ⟨t,fun k hk=>?_⟩
 rw [hvq] at hz
 have hz:(pathO V (aboveB p).data.toList).1=(d:Int):=hz
 obtain rfl:d=k0:=by omega
 have toW:∀ k,LiveT V m k→ReachT (addO (newO V kind owner).1 (vacO V p).1 (vacO V p).2.1 (n:Int)).1 m k:=fun k hk=>
  eT.more hT.vol ((h.reach k hk).mono (fun d h1 h2 x hx=>by
   have hdn:d≠n:=fun e=>n1 (e▸h1)
   exact ⟨(nf.live d hdn).2 h1,by rw [nf.kind h.vol h1.1 h1.2.1 hdn];exact h2,by rw [nr d h1 h2];exact hx⟩))
 by_cases hkn:k=n
 ·subst hkn
  have hkd:kindR (addO (newO V kind owner).1 (vacO V p).1 (vacO V p).2.1 (k:Int)).1 d=2:=by rw [eT.kindA hT.vol eT.live.1 eT.live.2.1];exact eT.kind
  exact .step (x:=⟨(vacO V p).2.1,(k:Int)⟩) (toW d hl0) eT.here hkd (by rw [eT.ent];exact mem_insE.2 (.inl rfl)) rfl
 ·exact toW k ((nf.live k hkn).1 ((eT.liveA hT.vol).1 hk))
theorem RootT.link (h:RootT V m) {p q:ByteArray} (he:(linkO V p q).2=0):RootT (linkO V p q).1 m:=by
 have t:=(TreeX.link h.tree he).1
 obtain ⟨n,_,_,hn,hk,n1,_,hl,ha,e,_⟩:=link_ok h.tree he
 obtain ⟨a,d,_,_,eT⟩:=TreeX.add h.tree hn n1 ha
 have hnd:n≠d:=fun e=>by
  subst e
  have:=eT.kind
  omega
 have hg:=eT.far.rest n hn.1 hn.2.1 hnd
 rw [← hg] at e
 obtain ⟨p1,_,_,la,ka,_,_,en⟩:=a.dir.links ((eT.liveA h.vol).2 hn) (v:=linkN V n+1) (by omega)
 rw [e,p1] at t ⊢
 refine ⟨t,fun k hk2=>?_⟩
 have h1:=(la k).1 hk2
 have h2:=eT.more h.vol (h.reach k ((eT.liveA h.vol).1 h1))
 exact h2.mono (fun d h1 h2 x hx=>⟨(la d).2 h1,by rw [ka d h1.1 h1.2.1];exact h2,by rw [en d h1 h2];exact hx⟩)
theorem RootT.remove (h:RootT V m) {p:ByteArray} (he:(removeO V p).2=0):RootT (removeO V p).1 m:=by
 have t:=(TreeX.remove h.tree he).1
 obtain ⟨n,_,_,hn,n1,_,hem,hd,hf,_,hcase⟩:=remove_ok h.tree he
 obtain ⟨d,j,_,jl,j1,jf,jm,hT,eT⟩:=TreeX.drop h.tree hd
 obtain rfl:j=n:=by rw [hf] at jf;omega
 have hnd:j≠d:=fun e=>by
  subst e
  rw [hem eT.kind] at jm
  cases jm
 have hval:=(h.tree.dir.dir d eT.live eT.kind).valid
 have hlw:=(eT.liveA h.vol (k:=j)).2 hn
 have hkw:=eT.kindA h.vol hn.1 hn.2.1
 have reach1:∀ k,LiveT V m k→k≠j→ReachT (dropO V (pathO V (aboveB p).data.toList).1 (lastB p)).1 m k:=fun k hk hne=>by
  rcases ReachT.drop eT h.vol jm hval (h.reach k hk) with a | a
  ·exact a
  ·exact absurd (SubT.leaf h.tree hem a) hne
 rcases hcase with ⟨_,hz,e⟩ | ⟨hc,e⟩
 ·rw [e] at t ⊢
  obtain ⟨f,_,hk0,en⟩:=hT.dir.gone hlw hz
  refine ⟨t,fun k hk=>?_⟩
  have hne:k≠j:=fun e=>by subst e;exact hk.2.2 hk0
  have hk1:=(f.live k hne).1 hk
  refine (reach1 k ((eT.liveA h.vol).1 hk1) hne).mono (fun d' h1 h2 x hx=>?_)
  have hdj:d'≠j:=fun e=>by
   subst e
   rw [hkw] at h2
   rw [eT.rest d' hn h2 hnd,hem h2] at hx
   cases hx
  exact ⟨(f.live d' hdj).2 h1,by rw [f.kind hT.vol h1.1 h1.2.1 hdj];exact h2,by rw [en d' h1 h2 hdj];exact hx⟩
 ·have hg:=eT.far.rest j hn.1 hn.2.1 hnd
  have hli:linkN (dropO V (pathO V (aboveB p).data.toList).1 (lastB p)).1 j=linkN V j:=by unfold linkN;rw [hg]
  rw [← hg] at e
  have hv:linkN V j<65536:=(h.tree.dir.inv.good j hn).ok.fit.2 2
  have hc1:¬ linkN V j≤1:=fun h=>hc (.inl h)
  have hk1:kindR V j=1:=by
   rcases h.tree.dir.kind j hn with a | a
   ·exact a
   ·exact absurd (.inr a) hc
  obtain ⟨p1,_,_,la,ka,li,_,en⟩:=hT.dir.links hlw (v:=linkN V j-1) (by omega)
  rw [e,p1] at t ⊢
  have reach2:∀ k,LiveT V m k→k≠j→ReachT (putV (dropO V (pathO V (aboveB p).data.toList).1 (lastB p)).1 j ((getR (dropO V (pathO V (aboveB p).data.toList).1 (lastB p)).1 (j:Int)).set 1 (linkN V j-1))) m k:=fun k hk hne=>
   (reach1 k hk hne).mono (fun d h1 h2 x hx=>⟨(la d).2 h1,by rw [ka d h1.1 h1.2.1];exact h2,by rw [en d h1 h2];exact hx⟩)
  refine ⟨t,fun k hk=>?_⟩
  have hkV:=(eT.liveA h.vol).1 ((la k).1 hk)
  by_cases hne:k=j
  ·subst hne
   refine named_reach t hk n1 (by rw [li];omega) (fun d' h1 h2 hne=>reach2 d' ((eT.liveA h.vol).1 ((la d').1 h1)) hne) ?_
   rw [ka k hn.1 hn.2.1,hkw];exact hk1
  ·exact reach2 k hkV hne
theorem RootT.rename (h:RootT V m) {p q:ByteArray} (he:(renameO V p q).2=0):RootT (renameO V p q).1 m:=by
 have t:=(TreeX.rename h.tree he).1
 obtain ⟨n,hp,hpn,hn,n1,hpt,hvq,hpre,hd,ha,e,hf,_⟩:=rename_ok h.tree he
 obtain ⟨d,j,_,jl,j1,jf,jm,hT,eT⟩:=TreeX.drop h.tree hd
 obtain rfl:j=n:=by rw [hf] at jf;omega
 have hlw:=(eT.liveA h.vol (k:=j)).2 hn
 obtain ⟨a,d2,hz2,_,eT2⟩:=hT.add hlw n1 ha
 rw [e] at t ⊢
 have hval:=(h.tree.dir.dir d eT.live eT.kind).valid
 have hl2:LiveT V m d2:=(eT.liveA h.vol).1 eT2.live
 have hk2:kindR V d2=2:=by rw [← eT.kindA h.vol hl2.1 hl2.2.1];exact eT2.kind
 have hreach:ReachT (dropO V (pathO V (aboveB p).data.toList).1 (lastB p)).1 m d2:=by
  rcases ReachT.drop eT h.vol jm hval (h.reach d2 hl2) with a | a
  ·exact a
  ·exfalso
   obtain ⟨qn,hqn,_⟩:=a.walk h.tree hn
   obtain ⟨hmq,hqt,hpa,_,hvv⟩:=vac_ok hvq
   rw [hvv] at hz2
   have hz2:(pathO V (aboveB q).data.toList).1=(d2:Int):=hz2
   have hmp:=path_may hp
   have hma:=path_may hpa
   have e1:goO V 1 (namesP p.data.toList)=((j:Int),0):=by
    unfold pathO at hp hpn
    rw [hmp,if_neg (by simp)] at hp hpn
    exact Prod.ext hpn hp
   have e2:goO V 1 (namesP (aboveB q).data.toList)=((d2:Int),0):=by
    unfold pathO at hpa hz2
    rw [hma,if_neg (by simp)] at hpa hz2
    exact Prod.ext hz2 hpa
   have e3:goO V 1 (namesP p.data.toList++qn)=((d2:Int),0):=by
    rw [goO_append,e1,if_neg (by simp)]
    exact hqn
   have e4:=h.tree.path_once _ _ _ d2 rfl e3 e2 hk2
   obtain ⟨xs,x,_,hq,_,_,hnx,_⟩:=path_parts hmq hqt
   obtain ⟨ys,y,hpy,hpj,_⟩:=path_split hmp hpt
   have e5:p.data.toList=joinP (namesP p.data.toList):=by rw [hpy,joinP_snoc];exact hpj
   rw [hnx] at e4
   have e6:q.data.toList=p.data.toList++(joinP qn++47::x):=by
    rw [hq,← e4,joinP_app,← e5,List.append_assoc]
   have e7:∃ t,joinP qn++47::x=47::t:=by
    rcases joinP_head qn with ⟨z,_⟩ | ⟨u,hu⟩
    ·exact ⟨x,by rw [z];rfl⟩
    ·exact ⟨u++47::x,by rw [hu];rfl⟩
   obtain ⟨u,hu⟩:=e7
   have:Lib.hasPrefix q.data.toList (p.data.toList++[47])=true:=by
    unfold Lib.hasPrefix
    rw [e6,hu,List.isPrefixOf_iff_prefix]
    exact ⟨u,by simp⟩
   rw [hpre] at this
   cases this
 refine ⟨t,fun k hk=>?_⟩
 have hkV:=(eT.liveA h.vol).1 ((eT2.liveA hT.vol).1 hk)
 have hn2:ReachT (addO (dropO V (pathO V (aboveB p).data.toList).1 (lastB p)).1 (vacO V q).1 (vacO V q).2.1 (j:Int)).1 m j:=
  .step (x:=⟨(vacO V q).2.1,(j:Int)⟩) (eT2.more hT.vol hreach) eT2.here (by rw [eT2.kindA hT.vol eT2.live.1 eT2.live.2.1];exact eT2.kind) (by rw [eT2.ent];exact mem_insE.2 (.inl rfl)) rfl
 rcases ReachT.drop eT h.vol jm hval (h.reach k hkV) with a | a
 ·exact eT2.more hT.vol a
 ·refine a.reach hn2 (fun d' h1 h2 x hx=>?_)
  by_cases hx2:d'=d∧x.name=lastB p
  ·obtain ⟨rfl,hxn⟩:=hx2
   have g1:=get_mem hval hx
   have g2:=get_mem hval jm
   left
   rw [← g1,hxn];exact g2
  ·right
   have hx1:x ∈ entD (dropO V (pathO V (aboveB p).data.toList).1 (lastB p)).1 d':=by
    by_cases hdd:d'=d
    ·subst hdd
     rw [eT.ent]
     exact mem_outE.2 ⟨hx,fun e2=>hx2 ⟨rfl,e2⟩⟩
    ·rw [eT.rest d' h1 h2 hdd];exact hx
   have l1:=(eT.liveA h.vol).2 h1
   have k1:kindR (dropO V (pathO V (aboveB p).data.toList).1 (lastB p)).1 d'=2:=by rw [eT.kindA h.vol h1.1 h1.2.1];exact h2
   refine ⟨(eT2.liveA hT.vol).2 l1,by rw [eT2.kindA hT.vol l1.1 l1.2.1];exact k1,?_⟩
   by_cases hdd:d'=d2
   ·subst hdd;rw [eT2.ent];exact mem_insE.2 (.inr hx1)
   ·rw [eT2.rest d' l1 k1 hdd];exact hx1
theorem RootT.filed (h:RootT V m) (t:FsT W m) (f:FarT V W m n) (hn:LiveT V m n) (hk:kindR V n=1) (hkW:kindR W n=1) (hs:SaysV W n):RootT W m:=by
 have b:=(h.tree.dir.far f (fun _=>⟨.inl hkW,hs⟩)).2
 have hl:∀ k,LiveT W m k↔LiveT V m k:=fun k=>by
  by_cases e:k=n
  ·subst e
   exact ⟨fun _=>hn,fun _=>⟨hn.1,hn.2.1,by omega⟩⟩
  ·exact f.live k e
 refine h.still t hl (fun k hk2=>?_) (fun d h1 h2=>b d h1 h2 (fun e=>by subst e;omega))
 by_cases e:k=n
 ·subst e;rw [hkW,hk]
 ·exact f.kind h.vol hk2.1 hk2.2.1 e
theorem RootT.write (h:RootT V m) {z off:Int} {b:List UInt8} (he:(writeF V z off b).2=0):RootT (writeF V z off b).1 m:=by
 have t:=(TreeX.write h.tree he).1
 unfold writeF at he t ⊢
 by_cases h0:fileO V z=0
 ·rw [if_neg (by rw [h0];simp)] at he t ⊢
  obtain ⟨n,rfl,hn,hk⟩:=file_ok h.vol h0
  obtain ⟨hw,hW,_⟩:=weigh_ok he
  rw [hW] at t ⊢
  obtain ⟨f,_,kp,kb⟩:=h.tree.dir.inv.write_one hn hw
  refine h.filed t f hn hk ?_ ((h.tree.dir.att n hn).move (kp 11 (.inr rfl)) kb)
  rw [← kind_getT f.inv.vol hn.1 hn.2.1,kp 0 (by omega),kind_getT h.vol hn.1 hn.2.1];exact hk
 ·rw [if_pos h0] at he;exact absurd he h0
theorem RootT.cut (h:RootT V m) {z size:Int} (he:(cutF V z size).2=0):RootT (cutF V z size).1 m:=by
 have t:=(TreeX.cut h.tree he).1
 unfold cutF at he t ⊢
 by_cases h0:fileO V z=0
 ·rw [if_neg (by rw [h0];simp)] at he t ⊢
  obtain ⟨n,rfl,hn,hk⟩:=file_ok h.vol h0
  obtain ⟨hw,hW,_⟩:=weigh_ok he
  rw [hW] at t ⊢
  obtain ⟨f,_,kp,kb⟩:=h.tree.dir.inv.cut_one hn hw
  refine h.filed t f hn hk ?_ ((h.tree.dir.att n hn).move (kp 11 (.inr rfl)) kb)
  rw [← kind_getT f.inv.vol hn.1 hn.2.1,kp 0 (by omega),kind_getT h.vol hn.1 hn.2.1];exact hk
 ·rw [if_pos h0] at he;exact absurd he h0
theorem RootT.setattr (h:RootT V m) {z:Int} {nm v:ByteArray} (he:(setF V z (attL V z) nm v).2=0):RootT (setF V z (attL V z) nm v).1 m:=by
 obtain ⟨t,_,hI,e⟩:=TreeX.setattr h.tree he
 rw [e] at t ⊢
 obtain ⟨n,rfl,hn,_,a⟩:=h.tree.dir.attr hI
 have hkn:kindR (setA V (n:Int) (attL V (n:Int)) nm v).1 n=kindR V n:=by
  rw [← kind_getT a.dir.inv.vol hn.1 hn.2.1,← kind_getT h.vol hn.1 hn.2.1];exact a.keep 0 (by omega)
 refine h.still t (fun k=>?_) (fun k hk=>?_) a.ent
 ·by_cases e:k=n
  ·subst e;exact ⟨fun _=>hn,fun _=>a.here⟩
  ·exact a.far.live k e
 ·by_cases e:k=n
  ·subst e;exact hkn
  ·exact a.far.kind h.vol hk.1 hk.2.1 e
theorem RootT.limit (h:RootT V m) {o q:Int} (he:(setO V o q).2=0):RootT (setO V o q).1 m:=by
 obtain ⟨t,s⟩:=TreeX.limit h.tree he
 have hb:∀ k,LiveT V m k→extL (getR V (k:Int))≠0→blkL (setO V o q).1 (extL (getR V (k:Int)))=blkL V (extL (getR V (k:Int))):=fun k hk h0=>by
  have hd:=(datB_iff.1 (h.tree.dir.inv.ext k hk h0).1).1
  unfold dataN at hd
  unfold setO at he ⊢
  by_cases h0:quoE V o=0
  ·rw [if_neg (by rw [h0];simp)] at he ⊢
   by_cases h1:q<0∨65535<q
   ·rw [if_pos h1] at he;exact absurd he (by decide)
   ·rw [if_neg h1] at he ⊢
    by_cases h2:overB V o q=true
    ·rw [if_pos h2] at he;exact absurd he (by decide)
    ·rw [if_neg h2]
     exact one_blkT h.vol (by omega)
  ·rw [if_pos h0] at he;exact absurd he h0
 refine h.still t s.live (fun k hk=>?_) (h.tree.dir.same s hb).2
 rw [← kind_getT s.inv.vol hk.1 hk.2.1,← kind_getT h.vol hk.1 hk.2.1,s.rest k hk.1 hk.2.1]
theorem act_root (h:RootT V m) (a:DeedV):RootT (actO V a).1 m:=by
 unfold actO
 by_cases he:(actI V a).2=0
 ·rw [if_pos he]
  show RootT (actI V a).1 m
  unfold actI at he ⊢
  by_cases h0:a.kind=0
  ·rw [if_pos h0] at he ⊢
   exact h.made he
  rw [if_neg h0] at he ⊢
  by_cases h1:a.kind=1
  ·rw [if_pos h1] at he ⊢
   exact h.made he
  rw [if_neg h1] at he ⊢
  by_cases h2:a.kind=2
  ·rw [if_pos h2] at he ⊢
   exact h.link he
  rw [if_neg h2] at he ⊢
  by_cases h3:a.kind=3
  ·rw [if_pos h3] at he ⊢
   exact h.remove he
  rw [if_neg h3] at he ⊢
  by_cases h4:a.kind=4
  ·rw [if_pos h4] at he ⊢
   exact h.rename he
  rw [if_neg h4] at he ⊢
  by_cases h5:a.kind=5
  ·rw [if_pos h5] at he ⊢
   exact h.write he
  rw [if_neg h5] at he ⊢
  by_cases h6:a.kind=6
  ·rw [if_pos h6] at he ⊢
   exact h.cut he
  rw [if_neg h6] at he ⊢
  by_cases h7:a.kind=7
  ·rw [if_pos h7] at he ⊢
   exact h.setattr he
  rw [if_neg h7] at he ⊢
  by_cases h8:a.kind=8
  ·rw [if_pos h8] at he ⊢
   exact h.limit he
  rw [if_neg h8] at he
  exact absurd he (by decide)
 ·rw [if_neg he]
  exact h
theorem top_root {b m:Nat} (hp:planE (b:Int) (m:Int)=0):RootT (topV b m) m:=by
 obtain ⟨t,_,_,_,_,_,hk⟩:=top_tree hp
 refine ⟨t,fun n hn=>?_⟩
 by_cases e:n=1
 ·subst e;exact .top
 ·exact absurd (hk n hn.1 hn.2.1 e) hn.2.2
theorem start_root {b m:Nat} (hp:planE (b:Int) (m:Int)=0) (hr:9≤b-dataN m):RootT (startV b m) m:=by
 obtain ⟨e1,_⟩:=file_made hp hr
 obtain ⟨e2,_⟩:=start_ok hp hr
 have h1:=(top_root hp).made (p:=initP) (kind:=1) (owner:=0) (by rw [e1])
 rw [e1] at h1
 have h2:=RootT.write h1 (z:=2) (off:=0) (b:=fileB.data.toList) (by rw [e2])
 rw [e2] at h2
 exact h2
end
section
variable {V W:List ByteArray} {m n o:Nat}
def LimT (V:List ByteArray):Prop:=∀ o,o<16→limN V o=0∨usedO V (o:Int)≤limN V o
theorem quoE_lim (hv:IsVol V m) (ho:o<16):quoE V (o:Int)=0:=by
 unfold quoE
 rw [ofR_some.2 hv]
 dsimp only
 rw [if_neg (by omega)]
theorem limitO_lim (hv:IsVol V m) (ho:o<16):limitO V (o:Int)=(((limN V o:Nat):Int),0):=by
 unfold limitO
 rw [if_pos (quoE_lim hv ho),Int.toNat_natCast]
theorem LimT.weigh (h:LimT V) (hv:IsVol W m) (h1:blkL W 1=blkL V 1) (hb:beyondO V W=false):LimT W:=fun o ho=>by
 have hl:limN W o=limN V o:=by unfold limN;rw [h1]
 unfold beyondO at hb
 rw [List.any_eq_false] at hb
 have:=hb o (List.mem_range.2 ho)
 unfold beyB at this
 rw [limitO_lim hv ho,hl] at this
 rw [hl]
 rcases h o ho with a | a
 ·exact .inl a
 ·by_cases h0:limN V o=0
  ·exact .inl h0
  ·refine .inr ?_
   simp only [Bool.and_eq_true,decide_eq_true_eq,not_and,Int.ofNat_lt] at this
   by_cases hc:limN V o<usedO W (o:Int)
   ·have:=this ⟨⟨trivial,by omega⟩,hc⟩
    omega
   ·omega
theorem LimT.none (h:NoLim V):LimT V:=fun o ho=>.inl (h o ho)
theorem LimT.check (h:LimT V) (hv:IsVol V m):checkO V=0:=by
 unfold checkO
 rw [ofR_some.2 hv]
 dsimp only
 rw [if_neg]
 intro hc
 rw [List.any_eq_true] at hc
 obtain ⟨o,ho,hx⟩:=hc
 have ho:=List.mem_range.1 ho
 unfold overB at hx
 have hx:=of_decide_eq_true hx
 rcases h o ho with a | a <;> omega
end
section
variable {E:FkE} {n k b:Nat} {f:Nat→Int→Option Value} {w w':World} {g:Int→Option Value}
def FkP (w:World) (e:Ending) (w':World):Prop:=e=.returned (.tuple #[])∧Below w.heap.size w w'
set_option maxHeartbeats 4000000 in
theorem blocks_fk (S:FkS E n f w) (hx:E.V.length≤1000000) (hr:RowAt E.w0 E.w0.heap.size E.A (E.V.map .string)) (hd:dataN E.m≤E.V.length)
  (hc:∀ b:Nat,dataN E.m≤b→b<E.V.length→(f 1 (b:Int)).getD (.int .i64 0)=.int .i64 (if usedR E.V (b:Int)=true then 1 else 0)) :
  Calls Tryz.prog 131 #[.pointer (some ⟨E.q,0,none⟩)] w (FkP w):=by
 have S0:=Lib.hid S
 have HR:=Lib.hid hr
 have HC:=Lib.hid hc
 have HX:=Lib.hid hx
 have c6:w.cell? ⟨E.q,6,none⟩=some (.int .i64 (dataN E.m:Nat)):=S.blk.cell 6 rfl
 clear S hr hc hx
 go_enter Tryz.func131,Tryz.ntmps131
 go_wp2
 go_loopw [2,3,4] (fun i _ _ wr=>∃ k:Nat,dataN E.m≤k∧k≤E.V.length∧i=.int .i64 (k:Int)∧Hid (Below w.heap.size w wr)) (fun i _ _ _=>E.V.length-(intOf i).toNat)
 case atStart=>exact ⟨dataN E.m,Nat.le_refl _,hd,rfl,Lib.hid (Below.refl _ _)⟩
 case round=>
  obtain ⟨k,h1,h2,rfl,B⟩:=hrel
  have S:=Lib.hid (S0.out.later B.out)
  have c1:wr.cell? ⟨E.q,1,none⟩=some (.int .i64 (E.V.length:Int)):=S.out.blk.cell 1 rfl
  by_cases hlt:k<E.V.length
  ·have i1:(k:Int)<(E.V.length:Int):=by omega
   have hk:=HC.out k h1 hlt
   have CU:Hid (∀ u:Ext wr,Calls Tryz.prog 116 #[.slice E.A E.V.length E.c,.int .i64 (k:Int)] u.val fun e w'=>e=.returned (.bool (usedR E.V (k:Int)))∧Below u.val.heap.size u.val w'):=fun u=>used_any E.A E.c E.V k u.val HX.out ((S.out.row HR.out).ext u)
   have u0:∀ u:Ext wr,u.val.cell? ⟨E.q,0,none⟩=some (.slice E.A E.V.length E.c):=fun u=>u.cell (S.out.blk.cell 0 rfl)
   have u8:∀ u:Ext wr,u.val.cell? ⟨E.q,8,none⟩=some (.map (some (E.p+1))):=fun u=>u.cell (S.out.blk.cell 8 rfl)
   have ws:IntKind.i64.wrap ((k:Int)+1)=(k:Int)+1:=IntWalk.i64_in _ (by have:=HX.out;omega)
   have LU:∀ u:Ext wr,(Instr.lookup 212 (.map (some (E.p+1))) (.int .i64 (k:Int)) false).run Tryz.prog u.val=.ok (.int .i64 (if usedR E.V (k:Int)=true then 1 else 0)) u.val:=fun u=>(S.out.later u.below).int (by omega) (wf_nat (by have:=HX.out;omega)) hk
   clear hk
   generalize usedR E.V (k:Int)=t at *
   cases t <;> (
    simp only [Bool.false_eq_true,if_false,if_true] at LU
    go_wp2_with fail
    refine wp_region_ext (by kernel_rfl) (by kernel_rfl) ?_
    repeat (go_big_quiet_step (first
     | (go_at_call 116;with_reducible exact Ext.call (CU.out _))))
    refine wpQuiet_nil ?_
    rintro _ ⟨u,rfl⟩
    have B2:=Lib.hid (B.out.trans (u.below.mono B.out.size))
    generalize u.val=W2 at *
    clear u0 u8 LU CU c1
    go_wp2
    go_roundw
    case rel=>exact ⟨k+1,by omega,by omega,by go_num,B2⟩
    case measure=>simp [intOf];omega)
  ·have i1:¬ (k:Int)<(E.V.length:Int):=by omega
   go_wp2
   go_end0
   exact ⟨rfl,B.out⟩
set_option maxHeartbeats 4000000 in
theorem owners_fk (S:FkS E n f w) (hx:E.V.length≤1000000) (hr:RowAt E.w0 E.w0.heap.size E.A (E.V.map .string)) (hv:IsVol E.V E.m) (hl:LimT E.V) :
  Calls Tryz.prog 134 #[.pointer (some ⟨E.q,0,none⟩)] w (FkP w):=by
 have S0:=Lib.hid S
 have HR:=Lib.hid hr
 have HX:=Lib.hid hx
 have HV:=Lib.hid hv
 have HL:=Lib.hid hl
 clear S hr hx hv hl
 go_enter Tryz.func134,Tryz.ntmps134
 go_wp2
 go_loopw [2,3,4,5] (fun _ _ _ i wr=>∃ k:Nat,k≤16∧i=.int .i64 (k:Int)∧Hid (Below w.heap.size w wr)) (fun _ _ _ i _=>16-(intOf i).toNat)
 case atStart=>exact ⟨0,Nat.zero_le _,rfl,Lib.hid (Below.refl _ _)⟩
 case round=>
  obtain ⟨k,h1,rfl,B⟩:=hrel
  have S:=Lib.hid (S0.out.later B.out)
  have c0:wr.cell? ⟨E.q,0,none⟩=some (.slice E.A E.V.length E.c):=S.out.blk.cell 0 rfl
  by_cases hlt:k<16
  ·have i1:(k:Int)<16:=by omega
   have CL:=Lib.hid (quo_limit E.A E.c E.V (k:Int) wr HX.out (S.out.row HR.out))
   rw [limitO_lim HV.out hlt] at CL
   have CU:=Lib.hid (fun w' (hb:Below wr.heap.size wr w')=>used_quo E.A E.c E.V (k:Int) w' HX.out (row_keep (S.out.row HR.out) hb hb.size))
   have hle:=HL.out k hlt
   have hl2:=limN_lt E.V k
   have hu2:=usedO_le E.V (k:Int)
   generalize limN E.V k=lm at *
   generalize usedO E.V (k:Int)=us at *
   by_cases h0:lm=0
   ·subst h0
    clear hle
    go_wp2_with fail
    refine CL.out.mono ?_
    rintro e w1 ⟨rfl,hb1⟩
    have B1:=Lib.hid (B.out.trans (hb1.mono B.out.size))
    clear hb1 CL CU
    go_wp2
    go_roundw
    case rel=>exact ⟨k+1,by omega,by go_num,B1⟩
    case measure=>simp [intOf];omega
   ·have h3:(((lm:Nat):Int) != 0)=true:=by simpa using h0
    have h4:¬ (lm:Int)<(us:Int):=by omega
    clear hle h0
    go_wp2_with fail
    refine CL.out.mono ?_
    rintro e w1 ⟨rfl,hb1⟩
    have B1:=Lib.hid (B.out.trans (hb1.mono B.out.size))
    have c0:w1.cell? ⟨E.q,0,none⟩=some (.slice E.A E.V.length E.c):=(S.out.later hb1).blk.cell 0 rfl
    have CU:=Lib.hid (CU.out w1 hb1)
    clear hb1 CL
    go_wp2_with fail
    refine CU.out.mono ?_
    rintro e w2 ⟨rfl,hb2⟩
    have B2:=Lib.hid (B1.out.trans (hb2.mono B1.out.size))
    clear hb2 CU
    go_wp2
    go_roundw
    case rel=>exact ⟨k+1,by omega,by go_num,B2⟩
    case measure=>simp [intOf];omega
  ·have i1:¬ (k:Int)<16:=by omega
   go_wp2
   go_end0
   exact ⟨rfl,B.out⟩
end
section
variable {V:List ByteArray} {m n k b:Nat} {l:List Nat}
theorem nodup_len:∀ {L T:List Nat},L.Nodup→(∀ x ∈ L,x ∈ T)→L.length≤T.length
 | [],_,_,_=>Nat.zero_le _
 | a::L,T,hn,hs=>by
  obtain ⟨h1,h2⟩:=List.nodup_cons.1 hn
  have ha:=hs a List.mem_cons_self
  have h3:=nodup_len (T:=T.erase a) h2 (fun x hx=>(List.mem_erase_of_ne (fun e=>by subst e;exact h1 hx)).2 (hs x (List.mem_cons_of_mem _ hx)))
  rw [List.length_erase_of_mem ha] at h3
  have h4:=List.length_pos_of_mem ha
  rw [List.length_cons]
  omega
theorem nodup_full {L T:List Nat} (hn:L.Nodup) (hs:∀ x ∈ L,x ∈ T) (hl:T.length≤L.length) {x:Nat} (hx:x ∈ T):x ∈ L:=by
 by_cases h:x ∈ L
 ·exact h
 ·have:=nodup_len (L:=x::L) (T:=T) (List.nodup_cons.2 ⟨h,hn⟩) (fun y hy=>by
   rcases List.mem_cons.1 hy with rfl | hy
   ·exact hx
   ·exact hs y hy)
  rw [List.length_cons] at this
  omega
def numsL (V:List ByteArray) (m:Nat) (l:List Nat):List Nat:=(List.range 8).map (fun i=>l.getD (4+i) 0)++if datB V m (l.getD 10 0)=true then (List.range 64).map (fun k=>numAt (blkL V (l.getD 10 0)) (2 * k) 2) else []
def dataL (V:List ByteArray) (m:Nat) (l:List Nat):List Nat:=(numsL V m l).filter (datB V m)
def valS (V:List ByteArray) (m:Nat) (l:List Nat) (s:Nat):Nat:=if s=71 then extL l else slotX V m l s
def ordS:List Nat:=[0,1,2,3,4,5,70,71]++(List.range 64).map (6+·)
theorem ordS_lt:∀ s ∈ ordS,s<72:=by decide
theorem ordS_once:ordS.Pairwise (·≠·):=by decide
theorem ordS_all:∀ s ∈ List.range 72,s ∈ ordS:=by decide
theorem filter_clean (V:List ByteArray) (m:Nat):∀ R:List Nat,R.filter (datB V m)=(R.map fun r=>if datB V m r=true then r else 0).filter (· != 0)
 | []=>rfl
 | r::R=>by
  rw [List.filter_cons,List.map_cons,List.filter_cons,filter_clean V m R]
  by_cases h:datB V m r=true
  ·have:=datB_pos h
   rw [if_pos h,if_pos h,if_pos (by simp;omega)]
  ·rw [if_neg h,if_neg h,if_neg (by simp)]
theorem zeroD_clean {v:Nat} (h:ZeroD V m v):(if datB V m v=true then v else 0)=v:=by
 rcases h with h | h
 ·subst h;split <;> rfl
 ·rw [if_pos h]
theorem dataL_ord (r:RawS V m l) (he:ZeroD V m (extL l)):dataL V m l=(ordS.map (valS V m l)).filter (· != 0):=by
 have h8:(List.range 8).map (fun i=>if datB V m (l.getD (4+i) 0)=true then l.getD (4+i) 0 else 0)=[0,1,2,3,4,5,70,71].map (valS V m l):=by
  have lo:∀ s,s<6→valS V m l s=if datB V m (l.getD (4+s) 0)=true then l.getD (4+s) 0 else 0:=fun s hs=>by
   unfold valS
   rw [if_neg (by omega),slotX_lt (by omega),at_low hs]
  have e6:valS V m l 70=if datB V m (l.getD 10 0)=true then l.getD 10 0 else 0:=by
   unfold valS
   rw [if_neg (by omega),slotX_ind]
  have e7:valS V m l 71=if datB V m (l.getD 11 0)=true then l.getD 11 0 else 0:=by
   unfold valS
   rw [if_pos rfl]
   exact (zeroD_clean he).symm
  rw [show List.range 8=[0,1,2,3,4,5,6,7] from rfl]
  simp only [List.map_cons,List.map_nil]
  rw [lo 0 (by omega),lo 1 (by omega),lo 2 (by omega),lo 3 (by omega),lo 4 (by omega),lo 5 (by omega),e6,e7]
 unfold dataL numsL ordS
 rw [filter_clean,List.map_append,List.map_append,List.map_map,List.filter_append,List.filter_append]
 congr 1
 ·rw [← h8];rfl
 ·by_cases hd:datB V m (l.getD 10 0)=true
  ·rw [if_pos hd,List.map_map,List.map_map]
   congr 1
   refine List.map_congr_left fun k hk=>?_
   have h0:slotX V m l 70≠0:=by
    rw [slotX_ind,if_pos hd]
    have:=datB_pos hd
    omega
   have e70:slotX V m l 70=l.getD 10 0:=by rw [slotX_ind,if_pos hd]
   have:=List.mem_range.1 hk
   have e:valS V m l (6+k)=slotX V m l (6+k):=by unfold valS;rw [if_neg (by omega)]
   show (if datB V m (numAt (blkL V (l.getD 10 0)) (2 * k) 2)=true then numAt (blkL V (l.getD 10 0)) (2 * k) 2 else 0)=valS V m l (6+k)
   rw [e,slotX_lt (by omega),at_hi (by omega) h0,e70,show 6+k-6=k by omega]
  ·rw [if_neg hd]
   symm
   refine List.filter_eq_nil_iff.2 fun x hx=>?_
   rw [List.map_map] at hx
   obtain ⟨k,hk,rfl⟩:=List.mem_map.1 hx
   have:=List.mem_range.1 hk
   show ¬ (valS V m l (6+k) != 0)=true
   unfold valS
   rw [if_neg (by omega),slotX_lt (by omega),at_hi0 (by omega) (by rw [slotX_ind,if_neg hd])]
   simp
theorem dataL_mem (r:RawS V m l) (he:ZeroD V m (extL l)):b ∈ dataL V m l↔b≠0∧((∃ s,s<71∧slotX V m l s=b)∨extL l=b):=by
 rw [dataL_ord r he,List.mem_filter,List.mem_map]
 constructor
 ·rintro ⟨⟨s,hs,e⟩,h0⟩
  have:=ordS_lt s hs
  refine ⟨by simpa using h0,?_⟩
  unfold valS at e
  by_cases h:s=71
  ·rw [if_pos h] at e;exact .inr e
  ·rw [if_neg h] at e;exact .inl ⟨s,by omega,e⟩
 ·rintro ⟨h0,h | h⟩
  ·obtain ⟨s,hs,e⟩:=h
   refine ⟨⟨s,ordS_all s (List.mem_range.2 (by omega)),?_⟩,by simpa using h0⟩
   unfold valS
   rw [if_neg (by omega)];exact e
  ·exact ⟨⟨71,ordS_all 71 (by decide),by unfold valS;rw [if_pos rfl];exact h⟩,by simpa using h0⟩
theorem dataL_once (o:OwnS V m l) (he:ZeroD V m (extL l)) (hx:extL l≠0→∀ s,s<71→slotX V m l s≠extL l):(dataL V m l).Nodup:=by
 rw [dataL_ord o.raw he]
 unfold List.Nodup
 rw [List.pairwise_filter,List.pairwise_map]
 refine ordS_once.imp_of_mem fun {s t} hs ht hne h1 h2=>?_
 have hs:=ordS_lt s hs
 have ht:=ordS_lt t ht
 have h1:valS V m l s≠0:=by simpa using h1
 have h2:valS V m l t≠0:=by simpa using h2
 unfold valS at h1 h2 ⊢
 by_cases a:s=71
 ·rw [if_pos a] at h1 ⊢
  rw [if_neg (by omega)] at h2 ⊢
  exact fun e=>hx h1 t (by omega) e.symm
 ·rw [if_neg a] at h1 ⊢
  by_cases c:t=71
  ·rw [if_pos c] at h2 ⊢
   exact hx h2 s (by omega)
  ·rw [if_neg c] at h2 ⊢
   exact fun e=>hne (o.inj s t (by omega) (by omega) e h1)
theorem dataL_len (r:RawS V m l) (he:ZeroD V m (extL l)):(dataL V m l).length=cntT V m l:=by
 have hp:ordS.Perm (List.range 72):=(List.perm_ext_iff_of_nodup ordS_once List.nodup_range).2 fun s=>⟨fun h=>List.mem_range.2 (ordS_lt s h),fun h=>ordS_all s h⟩
 rw [dataL_ord r he,((hp.map (valS V m l)).filter _).length_eq,List.range_succ,List.map_append,List.filter_append,List.length_append]
 have e1:(((List.range 71).map (valS V m l)).filter (· != 0)).length=cntS V m l:=by
  unfold cntS
  rw [List.filter_map,List.length_map]
  refine congrArg List.length (List.filter_congr fun s hs=>?_)
  have:=List.mem_range.1 hs
  show (valS V m l s != 0)=_
  unfold valS
  rw [if_neg (by omega)]
 have e2:valS V m l 71=extL l:=by unfold valS;rw [if_pos rfl]
 unfold cntT
 rw [e1]
 show _+(List.filter _ [valS V m l 71]).length=_
 rw [e2]
 by_cases h:extL l=0
 ·simp [h]
 ·simp [h]
def namedL (V:List ByteArray) (m:Nat):List Nat:=(allR V m).flatMap fun n:Nat=>dataL V m (getR V (n:Int))
theorem InvT.zeroE (h:InvT V m) (hn:LiveT V m n):ZeroD V m (extL (getR V (n:Int))):=by
 by_cases e:extL (getR V (n:Int))=0
 ·exact .inl e
 ·exact .inr (h.ext n hn e).1
theorem InvT.named_mem (h:InvT V m) (hn:LiveT V m n):b ∈ dataL V m (getR V (n:Int))↔b≠0∧((∃ s,s<71∧slotX V m (getR V (n:Int)) s=b)∨extL (getR V (n:Int))=b):=dataL_mem (h.good n hn).own.raw (h.zeroE hn)
theorem InvT.named_once (h:InvT V m):(namedL V m).Nodup:=by
 unfold namedL List.Nodup
 rw [List.pairwise_flatMap]
 refine ⟨fun n hn=>?_,?_⟩
 ·have hn:=live_iff.2 hn
  exact dataL_once (h.good n hn).own (h.zeroE hn) (fun h0 s hs=>(h.ext n hn h0).2.2 n hn s hs)
 ·refine List.Pairwise.imp_of_mem (fun {i j} hi hj hne x hx y hy e=>?_) (allR_nodup V m)
  have hi:=live_iff.2 hi
  have hj:=live_iff.2 hj
  subst e
  obtain ⟨x0,hx⟩:=(h.named_mem hi).1 hx
  obtain ⟨_,hy⟩:=(h.named_mem hj).1 hy
  rcases hx with ⟨s,hs,es⟩ | ex
  ·rcases hy with ⟨t,ht,et⟩ | ey
   ·have:=h.apart i j hi hj hne s t hs ht (es.trans et.symm)
    omega
   ·exact (h.ext j hj (by omega)).2.2 i hi s hs (es.trans ey.symm)
  ·rcases hy with ⟨t,ht,et⟩ | ey
   ·exact (h.ext i hi (by omega)).2.2 j hj t ht (et.trans ex.symm)
   ·have:=h.exti i j hi hj hne (ex.trans ey.symm)
    omega
theorem InvT.named_bit (h:InvT V m) (hb:b ∈ namedL V m):datB V m b=true∧bitV V b=true:=by
 obtain ⟨n,hn,hb⟩:=List.mem_flatMap.1 hb
 have hn:=live_iff.2 hn
 obtain ⟨h0,hb⟩:=(h.named_mem hn).1 hb
 rcases hb with ⟨s,hs,rfl⟩ | rfl
 ·exact ⟨slotX_dat h0,(h.good n hn).own.used s hs h0⟩
 ·exact ⟨(h.ext n hn h0).1,(h.ext n hn h0).2.1⟩
theorem InvT.named_len (h:InvT V m):(namedL V m).length=sumT V m:=by
 unfold namedL sumT
 rw [List.length_flatMap]
 congr 1
 refine List.map_congr_left fun n hn=>?_
 have hn:=live_iff.2 hn
 exact dataL_len (h.good n hn).own.raw (h.zeroE hn)
theorem InvT.bit_named (h:InvT V m) (hd:datB V m b=true) (hb:bitV V b=true):b ∈ namedL V m:=by
 have hl:=h.vol.len
 have hd:=datB_iff.1 hd
 have hr:=h.room
 rw [room_vol h.vol] at hr
 have hc:=cntL_le (blkL V 2) V.length
 have key:b ∈ List.range (dataN m)++namedL V m:=by
  refine nodup_full (T:=(List.range V.length).filter (bitL (blkL V 2) ·)) ?_ ?_ ?_ (List.mem_filter.2 ⟨List.mem_range.2 hd.2,hb⟩)
  ·rw [List.nodup_append]
   refine ⟨List.nodup_range,h.named_once,fun x hx y hy e=>?_⟩
   subst e
   have:=List.mem_range.1 hx
   have:=(datB_iff.1 (h.named_bit hy).1).1
   omega
  ·intro x hx
   rcases List.mem_append.1 hx with hx | hx
   ·have:=List.mem_range.1 hx
    exact List.mem_filter.2 ⟨List.mem_range.2 (by omega),((bitsOk_iff.1 h.vol.2.2.2) x (by omega)).1 this⟩
   ·obtain ⟨a,c⟩:=h.named_bit hx
    exact List.mem_filter.2 ⟨List.mem_range.2 (datB_iff.1 a).2,c⟩
  ·rw [List.length_append,List.length_range,h.named_len]
   show cntL _ _≤_
   omega
 rcases List.mem_append.1 key with hx | hx
 ·have:=List.mem_range.1 hx
  omega
 ·exact hx
end
end Go.Proofs.YtdldlendppkknaaGreatDoor
