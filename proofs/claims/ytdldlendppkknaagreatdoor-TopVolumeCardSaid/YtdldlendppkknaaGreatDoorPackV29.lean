/-
  Contracts and plain laws: ORow, FskN, Faults, FskR.
-/
import Derived.Deep.CutRange
import Derived.Test.YtdldlendppkknaaGreatDoorPackV28
namespace Go.Proofs.YtdldlendppkknaaGreatDoor
open Go.RowKit
set_option linter.unusedVariables false
set_option linter.unusedSimpArgs false
structure ORow (w:World) (g o cap:Nat) (l:List Nat):Prop where
 lt:g<w.heap.size
 le:l.length≤cap
 max:cap≤maxLen
 there:∀ j,j<cap→(w.cell? ⟨g,o+j,none⟩).isSome=true∧w.frozen? ⟨g,o+j,none⟩=false
 cell:∀ (j u:Nat),l[j]?=some u→w.cell? ⟨g,o+j,none⟩=some (.int .i64 (u:Int))
def numV (l:List Nat):List Value:=l.map fun y:Nat=>Value.int .i64 (y:Int)
section
variable {w w':World} {g o cap B:Nat} {l:List Nat}
theorem ORow.kept (h:ORow w g o cap l) (hz:w.heap.size≤w'.heap.size) (hb:w'.heap[g]?=w.heap[g]?):ORow w' g o cap l:=
 ⟨Nat.lt_of_lt_of_le h.lt hz,h.le,h.max,fun j hj=>by rw [World.cell?_of_block (a:=⟨g,o+j,none⟩) hb,World.frozen?_of_block (a:=⟨g,o+j,none⟩) hb];exact h.there j hj,fun j u hu=>(World.cell?_of_block (a:=⟨g,o+j,none⟩) hb).trans (h.cell j u hu)⟩
theorem ORow.below (h:ORow w g o cap l) (hb:Below w.heap.size w w'):ORow w' g o cap l:=h.kept hb.size (hb.block g h.lt)
theorem ORow.tail {x:Nat} (h:ORow w g o cap (x::l)):ORow w g (o+1) (cap-1) l:=by
 have h1:=h.le
 rw [List.length_cons] at h1
 exact ⟨h.lt,by omega,by have:=h.max;omega,fun j hj=>by have:=h.there (j+1) (by omega);rwa [show o+(j+1)=o+1+j by omega] at this,fun j u hu=>by have:=h.cell (j+1) u (by simpa using hu);rwa [show o+(j+1)=o+1+j by omega] at this⟩
theorem ORow.of_own {base:Nat} {e:TypeId} {v:Value} (h:w.ownsRow base e 1 v l.length (numV l)) (hl:0<l.length):∃ g cap,v=.slice (some ⟨g,0,none⟩) l.length cap∧base≤g∧ORow w g 0 cap l:=by
 rcases h.2 with ⟨_,h0⟩ | ⟨g,cap,cur,hv,hg,hh,hnc,hm,hsz,ht⟩
 ·omega
 ·rw [Nat.mul_one] at hsz ht
  refine ⟨g,cap,hv,hg,(Array.getElem?_eq_some_iff.1 hh).1,hnc,hm,fun j hj=>⟨by simp [World.cell?,hh,hsz,hj],by simp [World.frozen?,hh]⟩,fun j u hu=>?_⟩
  have h3:(cur.toList.take l.length)[j]?=some (.int .i64 (u:Int)):=by rw [ht,numV,List.getElem?_map,hu];rfl
  have hj:j<l.length:=(List.getElem?_eq_some_iff.1 hu).1
  rw [List.getElem?_take,if_pos hj,Array.getElem?_toList] at h3
  simp only [World.cell?,hh,Nat.zero_add]
  exact h3
theorem ORow.set (h:ORow w g o cap l) (hr:l.length+1≤cap) (b:Nat):ORow (w.setCell ⟨g,o+l.length,none⟩ (.int .i64 (b:Int))) g o cap (l++[b]):=by
 have h0:=h.there l.length (by omega)
 refine ⟨by simpa using h.lt,by simpa using hr,h.max,fun j hj=>⟨?_,?_⟩,fun j u hu=>?_⟩
 ·by_cases e:j=l.length
  ·subst e
   rw [World.cell?_setCell_same' _ _ _ h0.1];rfl
  ·rw [World.cell?_setCell_other (h:=fun h=>e (by injection h with _ h _;omega))]
   exact (h.there j hj).1
 ·rw [World.frozen?_setCell];exact (h.there j hj).2
 ·by_cases e:j<l.length
  ·rw [World.cell?_setCell_other (h:=fun h=>by injection h with _ h _;omega)]
   rw [List.getElem?_append_left e] at hu
   exact h.cell j u hu
  ·have hj2:j=l.length:=by
    have:=(List.getElem?_eq_some_iff.1 hu).1
    rw [List.length_append] at this
    have h1:([b]:List Nat).length=1:=rfl
    omega
   subst hj2
   rw [World.cell?_setCell_same' _ _ _ h0.1]
   rw [List.getElem?_append_right (Nat.le_refl _)] at hu
   simp at hu
   rw [hu]
end
theorem wpList_num_push {P:Program} (w:World) {ops:Array Oper} {rest:List Oper} {o:Oper} {a:Act} {Q:Exit→Act→World→Prop}
  (hg:o.guard=none) (s x:Operand) (t:TypeId) (hop:o.op=Op.call { callee:=Callee.builtin Builtin.append,args:=#[s,x],argTypes:=#[t,t] })
  (e:TypeId) (i:TypeInfo) (h1:P.underlying t=some (.slice e)) (h2:P.info? e=some i) (h3:i.zero=some (.int .i64 0)) (h4:i.size=1) (h5:i.bytes=8)
  (g off cap:Nat) (l:List Nat) (hs:a.eval s=.slice (some ⟨g,off,none⟩) l.length cap) (R:ORow w g off cap l)
  (ad:Addr) (c b:Nat) (hx:a.eval x=.slice (some ad) 1 c) (hc:w.cell? ad=some (.int .i64 (b:Int))) (hl:l.length+1≤1000000)
  (hK:∀ g' off' cap' w',ORow w' g' off' cap' (l++[b])→(g'=g∨w.heap.size≤g')→w.grownBy w' (some g)→wpList P ops Q rest (a.put o.dst (.slice (some ⟨g',off',none⟩) (l.length+1) cap')) w') :
  wpList P ops Q (o::rest) a w:=by
 have hle:=R.le
 refine wpList_append_arg w hg s x t hop e i (.int .i64 0) 1 8 h1 h2 h3 h4 h5 rfl (by decide) g off l.length cap (numV l) hs (by simp [numV]) (fun j u hj=>?_) ad 1 c [.int .i64 (b:Int)] hx rfl (fun j u hj=>?_) (fun u hu=>?_) (fun hr j hj=>?_) (by unfold maxLen;omega) (by omega) (fun hr=>?_) (fun hr v' w' r1 r2=>?_)
 ·rw [numV,List.getElem?_map] at hj
  obtain ⟨y,hy,rfl⟩:=Option.map_eq_some_iff.1 hj
  exact R.cell j y hy
 ·cases j with
  | zero=>
   obtain rfl:Value.int .i64 (b:Int)=u:=by simpa using hj
   have:ad.add 0=ad:=by cases ad;rfl
   rw [this];exact hc
  | succ j=>simp at hj
 ·obtain rfl:=List.mem_singleton.1 hu
  rfl
 ·have hj0:j=0:=by
   have:j<1:=hj
   omega
  subst hj0
  rw [Nat.mul_one,Nat.add_zero]
  exact R.there l.length (by omega)
 ·rw [Nat.mul_one]
  exact hK g off cap _ (R.set (by omega) b) (.inl rfl) (only_setCell ⟨rfl,rfl,rfl,Nat.le_refl _,fun _ _ _=>rfl⟩ _ _)
 ·have e0:numV l++[Value.int .i64 (b:Int)]=numV (l++[b]):=by simp [numV]
  have e1:l.length+1=(l++[b]).length:=by simp
  rw [e0,e1] at r1
  obtain ⟨g',cap',rfl,hg',R'⟩:=ORow.of_own r1 (by simp)
  rw [← e1]
  exact hK g' 0 cap' w' R' (.inr hg') ⟨r2.os,r2.tape,r2.output,r2.size,fun k hk hne=>r2.block k hk (fun h=>by cases h)⟩
open Go.RowKit Go.Maps
set_option maxRecDepth 100000
structure FkK (E:FkE) (w w':World):Prop where
 size:w.heap.size≤w'.heap.size
 block:∀ b,b<w.heap.size→(b<E.p∨E.p+4<b)→w'.heap[b]?=w.heap[b]?
section
variable {E:FkE} {n k b:Nat} {f:Nat→Int→Option Value} {w w' w2:World} {g:Int→Option Value} {L:List Nat}
theorem FkK.refl (E:FkE) (w:World):FkK E w w:=⟨Nat.le_refl _,fun _ _ _=>rfl⟩
theorem FkK.trans (h:FkK E w w') (g:FkK E w' w2):FkK E w w2:=⟨Nat.le_trans h.size g.size,fun b h1 h2=>(g.block b (Nat.lt_of_lt_of_le h1 h.size) h2).trans (h.block b h1 h2)⟩
theorem FkK.later (h:FkK E w w') (hb:Below w'.heap.size w' w2):FkK E w w2:=h.trans ⟨hb.size,fun b h1 _=>hb.block b h1⟩
theorem FkK.put (h:FkK E w w') (hk:k<4) (hg:w'.grownBy w2 (some (E.p+k))):FkK E w w2:=h.trans ⟨hg.size,fun b h1 h2=>hg.block b h1 (by simp;omega)⟩
def CntF (g:Int→Option Value) (L:List Nat):Prop:=∀ b:Nat,(g (b:Int)).getD (.int .i64 0)=.int .i64 ((L.count b:Nat):Int)
theorem CntF.step (h:CntF g L) (r:Nat):CntF (updF g (r:Int) (.int .i64 (((L.count r:Nat):Int)+1))) (L++[r]):=fun b=>by
 unfold updF
 rw [List.count_append,List.count_singleton]
 by_cases e:b=r
 ·subst e;rw [if_pos rfl];simp
 ·rw [if_neg (by omega),h b,if_neg (by simp;omega)];rfl
end
theorem mem_num {V:List ByteArray} {m:Nat} {l:List Nat} {i:Nat} (hi:i<8):l.getD (4+i) 0 ∈ numsL V m l:=List.mem_append_left _ (List.mem_map.2 ⟨i,List.mem_range.2 hi,rfl⟩)
theorem zeroD_le {V:List ByteArray} {m r:Nat} (h:ZeroD V m r) (hx:V.length≤1000000):r≤1000000:=by
 rcases h with h | h
 ·omega
 ·have:=(datB_iff.1 h).2;omega
def NumP (E:FkE) (n:Nat) (f:Nat→Int→Option Value) (w:World) (L:List Nat) (e:Ending) (w':World):Prop:=e=.returned (.tuple #[])∧∃ n' f',n'≤n+72∧FkS E n' f' w'∧(∀ j,j≠1→f' j=f j)∧CntF (f' 1) L∧FkK E w w'
set_option maxHeartbeats 8000000 in
theorem numbers_fk {E:FkE} {n:Nat} {f:Nat→Int→Option Value} {w:World} (S:FkS E n f w) (k:Nat) (l L:List Nat) (hn:n≤900000) (hL:L.length≤100000) (hk:k≤1000) (hl:l.length=12) (hz:∀ r ∈ numsL E.V E.m l,ZeroD E.V E.m r)
  (hx:E.V.length≤1000000) (hs:∀ s ∈ E.V,s.size=128) (hr:RowAt E.w0 E.w0.heap.size E.A (E.V.map .string)) (hc:CntF (f 1) L) :
  Calls Tryz.prog 129 #[.pointer (some ⟨E.q,0,none⟩),.int .i64 (k:Int),.agg (inoC l)] w (NumP E n f w (L++dataL E.V E.m l)):=by
 obtain ⟨w0,A,c,V,m,p,q⟩:=E
 dsimp only at hz hx hs hr
 have hz8:∀ i,i<8→l.getD (4+i) 0≤1000000:=fun i hi=>zeroD_le (hz _ (mem_num hi)) hx
 have HRL:Hid (numsL V m l=(List.range 8).map (fun i=>l.getD (4+i) 0)++if datB V m (l.getD 10 0)=true then (List.range 64).map (fun k=>numAt (blkL V (l.getD 10 0)) (2 * k) 2) else []):=rfl
 have HDL:Hid (dataL V m l=(numsL V m l).filter (datB V m)):=rfl
 obtain ⟨a0,a1,a2,a3,a4,a5,a6,a7,a8,a9,a10,a11,hg⟩:=len12 hl
 have HRL:Hid (numsL V m l=[a4,a5,a6,a7,a8,a9,a10,a11]++if datB V m a10=true then (List.range 64).map (fun k=>numAt (blkL V a10) (2 * k) 2) else []):=by
  show _=_;rw [HRL.out,hg];rfl
 have hb10:a10≤1000000:=by have:=hz8 6 (by omega);rw [hg] at this;exact this
 have hino:inoC l=#[.int .i64 a0,.int .i64 a1,.int .i64 a2,.int .i64 a3,.int .i64 a4,.int .i64 a5,.int .i64 a6,.int .i64 a7,.int .i64 a8,.int .i64 a9,.int .i64 a10,.int .i64 a11]:=by rw [hg];rfl
 rw [hino]
 have HR9:=HRL
 clear hz8 hino hg hl
 have HZ:=Lib.hid hz
 have HS:=Lib.hid S
 have HC:=Lib.hid hc
 have HR:=Lib.hid hr
 have HSZ:=Lib.hid hs
 have HX:=Lib.hid hx
 obtain ⟨i0,q1,q2,q3,q4⟩:=info_parts i64_info
 have I0:=Lib.hid (And.intro q1 (And.intro q2 (And.intro q3 q4)))
 clear q1 q2 q3 q4 hz S hc hr hs hx
 generalize numsL V m l=R at *
 generalize dataL V m l=D at *
 obtain ⟨W1,hW1⟩:∃ W1,w.alloc (.cells #[.int .i64 a0,.int .i64 a1,.int .i64 a2,.int .i64 a3,.int .i64 a4,.int .i64 a5,.int .i64 a6,.int .i64 a7,.int .i64 a8,.int .i64 a9,.int .i64 a10,.int .i64 a11] 39)=W1:=⟨_,rfl⟩
 have B1:Hid (Below w.heap.size w W1):=hW1▸(Below.refl _ _).alloc (Nat.le_refl _) _
 have X1:Hid (Blk W1 w.heap.size 39 #[.int .i64 a0,.int .i64 a1,.int .i64 a2,.int .i64 a3,.int .i64 a4,.int .i64 a5,.int .i64 a6,.int .i64 a7,.int .i64 a8,.int .i64 a9,.int .i64 a10,.int .i64 a11]):=hW1▸Blk.new w _ _
 have HW1:=Lib.hid hW1
 have x10:W1.cell? ⟨w.heap.size,10,none⟩=some (.int .i64 (a10:Int)):=X1.out.cell 10 rfl
 have x11:W1.cell? ⟨w.heap.size,11,none⟩=some (.int .i64 (a11:Int)):=X1.out.cell 11 rfl
 clear hW1
 go_enter Tryz.func129,Tryz.ntmps129
 go_wp2_with fail
 rw [HW1.out]
 have HD2:Hid (∀ u,u=a10→(datB V m u=true→u<V.length)):=fun u _ h=>(datB_iff.1 h).2
 have XD:Hid (Blk ((W1.alloc (.cells #[.int .i64 a10,.int .i64 a11] 3)).drew) w.heap.size 39 #[.int .i64 a0,.int .i64 a1,.int .i64 a2,.int .i64 a3,.int .i64 a4,.int .i64 a5,.int .i64 a6,.int .i64 a7,.int .i64 a8,.int .i64 a9,.int .i64 a10,.int .i64 a11]):=(X1.out.alloc _).drew
 have ND:Hid (Blk ((W1.alloc (.cells #[.int .i64 a10,.int .i64 a11] 3)).drew) W1.heap.size 3 #[.int .i64 a10,.int .i64 a11]):=(Blk.new W1 _ _).drew
 have BD:Hid (Below w.heap.size w ((W1.alloc (.cells #[.int .i64 a10,.int .i64 a11] 3)).drew)):=(B1.out.alloc B1.out.size _).drew
 have HO:Hid (∀ j u,(numV [a4,a5,a6,a7,a8,a9])[j]?=some u→((W1.alloc (.cells #[.int .i64 a10,.int .i64 a11] 3)).drew).cell? ((⟨w.heap.size,4,none⟩:Addr).add j)=some u):=fun j u hu=>by
  rcases j with _ | _ | _ | _ | _ | _ | j
  ·cases hu;exact XD.out.cell 4 rfl
  ·cases hu;exact XD.out.cell 5 rfl
  ·cases hu;exact XD.out.cell 6 rfl
  ·cases hu;exact XD.out.cell 7 rfl
  ·cases hu;exact XD.out.cell 8 rfl
  ·cases hu;exact XD.out.cell 9 rfl
  ·cases hu
 have HN:Hid (∀ j u,(numV [a10,a11])[j]?=some u→((W1.alloc (.cells #[.int .i64 a10,.int .i64 a11] 3)).drew).cell? ((⟨W1.heap.size,0,none⟩:Addr).add j)=some u):=fun j u hu=>by
  rcases j with _ | _ | j
  ·cases hu;exact ND.out.cell 0 rfl
  ·cases hu;exact ND.out.cell 1 rfl
  ·cases hu
 go_upto_region 1 with fail
 go_cut [6] from 11 to 18 (fun v wx=>∃ g cap,v=.slice (some ⟨g,0,none⟩) 8 cap∧Hid (w.heap.size≤g)∧Hid (ORow wx g 0 cap [a4,a5,a6,a7,a8,a9,a10,a11])∧Hid (Below w.heap.size w wx)∧Hid (wx.cell? ⟨w.heap.size,10,none⟩=some (.int .i64 (a10:Int))))
 case first=>
  go_region_law (refine step_append_grows rfl (.tmp 12) (.tmp 17) 45 rfl 3 i0 (.int .i64 0) 1 8 Tryz.underlying45 I0.out.1 I0.out.2.1 I0.out.2.2.1 I0.out.2.2.2 rfl (by decide) (some ⟨w.heap.size,4,none⟩) 6 6 (numV [a4,a5,a6,a7,a8,a9]) (by simp [Act.eval,Act.put]) (fun h=>by cases h) rfl (fun b hb j u hu=>by cases hb;exact HO.out j u hu) ⟨W1.heap.size,0,none⟩ 2 2 (numV [a10,a11]) (by simp [Act.eval,Act.put]) rfl HN.out (by simp [numV,Value.oneCell']) (by decide) (by decide) (by decide) ?_;intro v' w' hown hgrow;obtain ⟨g,cap,rfl,hg,RW⟩:=ORow.of_own (l:=[a4,a5,a6,a7,a8,a9,a10,a11]) hown (by simp))
  all_goals (go_wp2_with fail;go_meet;exact ⟨g,cap,rfl,Lib.hid (by have:=BD.out.size;omega),RW,BD.out.grown hgrow BD.out.size (fun j e=>by cases e),XD.out.grown hgrow (by simp) |>.cell 10 rfl⟩)
 case rest=>
  clear XD ND BD HO HN X1 B1 HW1 x10 x11
  obtain ⟨g,cap,rfl,hg,RW,BW,x10⟩:=hcut
  have SW:=Lib.hid (HS.out.later BW.out)
  have CI:=Lib.hid (is_fk SW.out a10)
  obtain ⟨t,ht⟩:∃ t,datB V m a10=t:=⟨_,rfl⟩
  dsimp only at CI
  rw [ht] at HRL CI
  have x10:=x10.out
  go_upto_if 22 with (go_at_call 187;refine CI.out.mono ?_;rintro e w' ⟨rfl,hw⟩;obtain rfl:=hw.symm)
  go_cut [6,7,8] from 23 to 44 (fun v _ _ wx=>∃ g o cap,v=.slice (some ⟨g,o,none⟩) R.length cap∧Hid (w.heap.size≤g)∧Hid (ORow wx g o cap R)∧Hid (Below w.heap.size w wx))
  case first=>
   cases t with
   | false=>
    go_wp2_with fail
    go_meet
    have e:R=[a4,a5,a6,a7,a8,a9,a10,a11]:=by rw [HRL.out];rfl
    exact ⟨g,0,cap,by rw [e];rfl,hg,by rw [e];exact RW,BW⟩
   | true=>
    have hlt:a10<V.length:=(datB_iff.1 ht).2
    have hX:=HX.out
    obtain ⟨bb,oo,rfl,hbb,hcc⟩:=row_get (SW.out.row HR.out) a10 hlt
    have hsz:(V.getD a10 ⟨#[]⟩).size=128:=by
     rw [List.getD_eq_getElem?_getD,List.getElem?_eq_getElem hlt];exact HSZ.out _ (List.getElem_mem hlt)
    have HRN:Hid (R=[a4,a5,a6,a7,a8,a9,a10,a11]++(List.range 64).map (fun k=>numAt (V.getD a10 ⟨#[]⟩).data.toList (2 * k) 2)):=by show _=_;rw [HRL.out];rfl
    generalize V.getD a10 ⟨#[]⟩=s at *
    have c0:wc.cell? ⟨q,0,none⟩=some (.slice (some ⟨bb,oo,none⟩) V.length c):=SW.out.blk.cell 0 rfl
    have s5:(a10:Int)<(V.length:Int):=by omega
    have s6:(0:Int)≤(a10:Int):=by omega
    clear HRL CI
    go_wp2
    go_quiet (fail)
    go_wp2
    go_loopw [6,8] (fun v i wr=>∃ (k:Nat) (T:List Nat) (g o cap:Nat),k≤64∧i=.int .i64 ((2 * k:Nat):Int)∧v=.slice (some ⟨g,o,none⟩) T.length cap∧Hid (T=[a4,a5,a6,a7,a8,a9,a10,a11]++(List.range k).map (fun k=>numAt s.data.toList (2 * k) 2))∧Hid (w.heap.size≤g)∧Hid (ORow wr g o cap T)∧Hid (Below w.heap.size w wr)) (fun _ i _=>128-(intOf i).toNat)
    case atStart=>exact ⟨0,[a4,a5,a6,a7,a8,a9,a10,a11],g,0,cap,by omega,rfl,rfl,rfl,hg,Lib.hid (RW.out.below (below_drewN (Below.refl _ _) _)),Lib.hid (BW.out.trans ((below_drewN (Below.refl _ _) _).mono BW.out.size))⟩
    case round=>
     clear RW BW hg x10 c0
     obtain ⟨k,T,g,o,cap,hk,rfl,rfl,HT,hg,RW,BW⟩:=hrel
     by_cases h64:k<64
     ·obtain ⟨r,hr⟩:∃ r,numAt s.data.toList (2 * k) 2=r:=⟨_,rfl⟩
      have hrl:r<65536:=by rw [← hr];exact numAt_lt _ _ 2
      have HT2:Hid (T++[r]=[a4,a5,a6,a7,a8,a9,a10,a11]++(List.range (k+1)).map (fun k=>numAt s.data.toList (2 * k) 2)):=by
       show _=_;rw [HT.out,List.range_succ,List.map_append,← hr,List.append_assoc];rfl
      have HTL:Hid (T.length+1≤1000000):=by show _≤_;rw [HT.out];simp;omega
      obtain ⟨p2,hp2⟩:∃ p2,2 * k=p2:=⟨_,rfl⟩
      rw [hp2] at hr
      have CG:Hid (Calls Tryz.prog 52 #[.string (s.extract p2 (p2+2))] wr fun e w'=>e=.returned (.int .u64 (r:Int))∧wr=w'):=by
       have:=get_any (s.extract p2 (p2+2)) wr (by rw [ByteArray.size_extract];omega)
       rw [two_sub,hr] at this
       exact this
      have HP2:=Lib.hid hp2
      rw [hp2]
      have p128:p2+2≤128:=by omega
      have HP8:=Lib.hid p128
      have i1:(p2:Int)<128:=by omega
      have s1:IntKind.i64.wrap ((p2:Int)+2)=(p2:Int)+2:=IntWalk.i64_in _ (by omega)
      have s2:(0:Int)≤(p2:Int)+2:=by omega
      have s3:((p2:Int)+2).toNat=p2+2:=by omega
      have s4:IntKind.i64.wrap (r:Int)=(r:Int):=IntWalk.i64_in _ (by omega)
      have s7:(0:Int)≤(p2:Int):=by omega
      have s8:(p2:Int)≤(p2:Int)+2:=by omega
      have s9:(p2:Int)+2≤(s.size:Int):=by omega
      have R5:=Lib.hid (RW.out.below ((Below.refl wr.heap.size wr).alloc (Nat.le_refl _) (.cells #[.int .i64 (r:Int)] 3)))
      have B5:=Lib.hid (BW.out.alloc BW.out.size (.cells #[.int .i64 (r:Int)] 3))
      have HC5:Hid ((wr.alloc (.cells #[.int .i64 (r:Int)] 3)).cell? ⟨wr.heap.size,0,none⟩=some (.int .i64 (r:Int))):=(Blk.new wr _ _).cell 0 rfl
      have HG5:Hid (w.heap.size≤wr.heap.size+1):=by show _≤_;have:=BW.out.size;omega
      clear hp2 hr hrl h64
      go_wp2_with (first
       | (go_at_call 52;refine CG.out.mono ?_;rintro e w' ⟨rfl,rfl⟩)
       | (at_builtin;refine wpList_num_push _ rfl (.tmp 35) (.tmp 43) 45 rfl 3 i0 Tryz.underlying45 I0.out.1 I0.out.2.1 I0.out.2.2.1 I0.out.2.2.2 g o cap T rfl R5.out ⟨wr.heap.size,0,none⟩ 1 r rfl HC5.out HTL.out ?_;intro g6 o6 cap6 w6 hr6 hg6 hgr6))
      have R6:=Lib.hid hr6
      have B6:=Lib.hid (B5.out.grown hgr6 B5.out.size (fun k e=>by cases e;exact hg.out))
      have HG6:Hid (w.heap.size≤g6):=by
       show _≤_
       rw [World.size_alloc] at hg6
       rcases hg6 with e | e
       ·rw [e];exact hg.out
       ·have:=HG5.out;omega
      clear hr6 hg6 hgr6
      go_wp2
      go_roundw
      case rel=>exact ⟨k+1,T++[r],g6,o6,cap6,by have:=HP2.out;have:=HP8.out;omega,by have:=HP2.out;go_num,by simp,HT2,HG6,R6,B6⟩
      case measure=>simp [intOf];omega
     ·obtain rfl:k=64:=by omega
      have e:T=R:=by rw [HT.out,HRN.out]
      go_wp2
      go_meet
      exact ⟨g,o,cap,by rw [e],hg,by rw [← e];exact RW,BW⟩
  case rest=>
   clear RW BW hg x10 HRL SW CI
   obtain ⟨g,o,cap,rfl,hg,RW,BW⟩:=hcut
   have SW:=Lib.hid (HS.out.later BW.out)
   have HRR:Hid (R.length≤72):=by show _≤_;rw [HR9.out];simp only [List.length_append];split <;> simp
   have HKW:Hid (FkK ⟨w0,A,c,V,m,p,q⟩ w wc):=(FkK.refl _ _).later BW.out
   go_wp2
   go_loopw [10,47] (fun _ i wr=>∃ (j n':Nat) (f':Nat→Int→Option Value),j≤R.length∧i=.int .i64 (j:Int)∧Hid (n'≤n+j)∧Hid (FkS ⟨w0,A,c,V,m,p,q⟩ n' f' wr)∧Hid (∀ j,j≠1→f' j=f j)∧Hid (CntF (f' 1) (L++(R.take j).filter (datB V m)))∧Hid (FkK ⟨w0,A,c,V,m,p,q⟩ w wr)∧Hid (ORow wr g o cap R)) (fun _ i _=>R.length-(intOf i).toNat)
   case atStart=>exact ⟨0,n,f,Nat.zero_le _,rfl,Nat.le_refl _,SW,fun _ _=>rfl,by simpa using HC,HKW,RW⟩
   case round=>
    clear SW HKW RW BW
    obtain ⟨j,n',f',hj,rfl,HN,S,HF,HCT,HK,RW⟩:=hrel
    by_cases hlt:j<R.length
    ·obtain ⟨r,hr⟩:∃ r,R[j]=r:=⟨_,rfl⟩
     have hz:ZeroD V m r:=by rw [← hr];exact HZ.out _ (List.getElem_mem hlt)
     have cr:wr.cell? ⟨g,o+j,none⟩=some (.int .i64 (r:Int)):=RW.out.cell j r (by rw [List.getElem?_eq_getElem hlt,hr])
     have HTK:Hid (R.take (j+1)=R.take j++[r]):=by show _=_;rw [List.take_add_one,List.getElem?_eq_getElem hlt,hr];rfl
     have hrb:=zeroD_le hz HX.out
     have CI:=Lib.hid (is_fk S.out r)
     dsimp only at CI
     have i1:(j:Int)<(R.length:Int):=by omega
     have i2:(0:Int)≤(j:Int):=by omega
     have ws:IntKind.i64.wrap ((j:Int)+1)=(j:Int)+1:=IntWalk.i64_in _ (by have:=HRR.out;omega)
     clear hr
     obtain ⟨t,ht⟩:∃ t,datB V m r=t:=⟨_,rfl⟩
     rw [ht] at CI
     cases t with
     | true=>
      have hcr:=HCT.out r
      have hcl:(L++(R.take j).filter (datB V m)).count r≤1000000:=by
       refine Nat.le_trans List.count_le_length ?_
       rw [List.length_append]
       have h1:=List.length_filter_le (datB V m) (R.take j)
       have h2:=HRR.out
       rw [List.length_take] at h1
       omega
      have HST:Hid (CntF (updF (f' 1) (r:Int) (.int .i64 ((((L++(R.take j).filter (datB V m)).count r:Nat):Int)+1))) (L++(R.take (j+1)).filter (datB V m))):=by
       have:=HCT.out.step r
       rw [List.append_assoc] at this
       rw [HTK.out,List.filter_append,List.filter_cons,if_pos ht]
       exact this
      have LK:=S.out.int (k:=1) (by omega) (wf_nat (by omega)) hcr
      generalize (L++(R.take j).filter (datB V m)).count r=x at *
      have w2:IntKind.i64.wrap ((x:Int)+1)=(x:Int)+1:=IntWalk.i64_in _ (by omega)
      have c8:wr.cell? ⟨q,8,none⟩=some (.map (some (p+1))):=S.out.blk.cell 8 rfl
      have HNN:Hid (n'<1000000):=by show _<_;have:=HN.out;have:=HRR.out;omega
      have HWF:Hid ((Lit.int .i64 (r:Int)).wf=true):=wf_nat (by omega)
      clear hcr hcl
      go_wp2_with (first
       | (go_at_call 187;refine CI.out.mono ?_;rintro e w' ⟨rfl,rfl⟩)
       | (at_mapUpdate;refine wpList_map_put _ rfl _ _ _ 212 (.inl rfl) 3 Tryz.underlying212 (p+1) n' (f' 1) rfl (S.out.map 1 (by omega)) HNN.out (r:Int) rfl HWF.out (.int .i64 ((x:Int)+1)) rfl ?_;intro w5 hm5 hg5))
      have S5:=Lib.hid (S.out.put (k:=1) (by omega) hg5 hm5 (fun h=>by cases h))
      have K5:=Lib.hid (HK.out.put (k:=1) (by omega) hg5)
      have R5:=Lib.hid (RW.out.kept hg5.size (hg5.block g RW.out.lt (by
       have h1:=(HS.out.map 1 (by omega)).lt
       have h2:=hg.out
       dsimp only at h1
       simp;omega)))
      clear hm5 hg5
      go_wp2
      go_roundw
      case rel=>exact ⟨j+1,n'+1,_,by omega,by go_num,Lib.hid (by have:=HN.out;omega),S5,Lib.hid (fun i hi=>by rw [if_neg hi];exact HF.out i hi),Lib.hid (by rw [if_pos rfl];exact HST.out),K5,R5⟩
      case measure=>simp [intOf];omega
     | false=>
      obtain rfl:r=0:=by
       rcases hz with h | h
       ·exact h
       ·rw [ht] at h;cases h
      have HST:Hid (CntF (f' 1) (L++(R.take (j+1)).filter (datB V m))):=by
       show CntF _ _
       rw [HTK.out,List.filter_append,List.filter_cons,if_neg (by rw [ht];simp),List.filter_nil,List.append_nil]
       exact HCT.out
      clear hz
      go_wp2_with (go_at_call 187;refine CI.out.mono ?_;rintro e w' ⟨rfl,rfl⟩)
      go_roundw
      case rel=>exact ⟨j+1,n',f',by omega,by go_num,Lib.hid (by have:=HN.out;omega),S,HF,HST,HK,RW⟩
      case measure=>simp [intOf];omega
    ·obtain rfl:j=R.length:=by omega
     have i1:¬ (R.length:Int)<(R.length:Int):=by omega
     go_wp2
     go_end0
     have h1:=HCT.out
     rw [List.take_length,← HDL.out] at h1
     exact ⟨rfl,n',f',by have:=HN.out;have:=HRR.out;omega,S.out,HF.out,h1,HK.out⟩
section
variable {V:List ByteArray} {m n k b:Nat}
def inosL (V:List ByteArray) (ns:List Nat):List Nat:=ns.flatMap fun n=>if kindR V n=2 then (entD V n).map (·.ino.toNat) else []
theorem sum_some {f:Nat→Nat} {p:Nat→Bool}:∀ L:List Nat,(∀ d ∈ L,p d=false→f d=0)→((L.filter p).map f).sum=(L.map f).sum
 | [],_=>rfl
 | d::L,h=>by
  have ih:=sum_some L (fun x hx=>h x (List.mem_cons_of_mem _ hx))
  rw [List.filter_cons,List.map_cons,List.sum_cons]
  cases hp:p d with
  | true=>rw [if_pos rfl,List.map_cons,List.sum_cons,ih]
  | false=>rw [if_neg (by simp),h d List.mem_cons_self hp,ih,Nat.zero_add]
theorem count_inos {l:List EntV} (h:∀ x ∈ l,0≤x.ino) (k:Nat):(l.map (·.ino.toNat)).count k=l.countP (fun x=>decide (x.ino=(k:Int))):=by
 unfold List.count
 rw [List.countP_map]
 refine List.countP_congr fun x hx=>?_
 have:=h x hx
 show (x.ino.toNat == k)=true↔decide (x.ino=(k:Int))=true
 rw [beq_iff_eq,decide_eq_true_iff]
 omega
theorem FsT.inos (h:FsT V m) (k:Nat):(inosL V (allR V m)).count k=cntE V m k:=by
 unfold inosL cntE
 rw [List.count_flatMap]
 have e:(List.map (List.count k∘fun n=>if kindR V n=2 then (entD V n).map (·.ino.toNat) else []) (allR V m))=(allR V m).map fun d=>cntD V d k:=by
  refine List.map_congr_left fun d hd=>?_
  show List.count k (if kindR V d=2 then (entD V d).map (·.ino.toNat) else [])=cntD V d k
  unfold cntD
  by_cases h2:kindR V d=2
  ·rw [if_pos h2,if_pos h2,count_inos fun x hx=>by
    obtain ⟨j,e,_⟩:=h.name d (live_iff.2 hd) h2 x hx
    omega]
  ·rw [if_neg h2,if_neg h2];rfl
 rw [e]
 refine sum_some _ fun d _ hp=>?_
 unfold cntD
 rw [if_neg]
 have:kindR V d=0:=by simpa using hp
 omega
theorem FsT.asked (h:FsT V m) (hn:LiveT V m n):linkN V n=cntE V m n+(if n=1 then 1 else 0):=by
 have:=h.links n hn
 by_cases e:n=1
 ·rw [if_pos e] at this ⊢; omega
 ·rw [if_neg e] at this ⊢; omega
theorem FsT.shared (h:FsT V m) (hn:LiveT V m n) (hk:kindR V n=2) (n1:n≠1):cntE V m n=1:=by
 have h1:=FsT.asked h hn
 have h2:=h.dlink n hn hk
 rw [if_neg n1] at h1
 omega
theorem ReachT.sure {S:List Nat} (h1:1 ∈ S) (hc:∀ d ∈ S,kindR V d=2→∀ x ∈ entD V d,∀ j:Nat,x.ino=(j:Int)→j ∈ S) (h:ReachT V m k):k ∈ S:=by
 induction h with
 | top=>exact h1
 | step _ _ hk hx he ih=>exact hc _ ih hk _ hx _ he
end
def markF (R:List Nat):Int→Option Value:=fun z=>if 0≤z∧z.toNat ∈ R then some (.bool true) else none
theorem markF_nat (R:List Nat) (k:Nat):markF R (k:Int)=if k ∈ R then some (.bool true) else none:=by
 unfold markF
 rw [Int.toNat_natCast]
 by_cases h:k ∈ R
 ·rw [if_pos ⟨by omega,h⟩,if_pos h]
 ·rw [if_neg (fun e=>h e.2),if_neg h]
theorem markF_upd (R:List Nat) (k:Nat) (z:Int):markF (R++[k]) z=updF (markF R) (k:Int) (.bool true) z:=by
 unfold updF markF
 by_cases e:z=(k:Int)
 ·subst e
  rw [if_pos rfl,if_pos ⟨by omega,by simp⟩]
 ·rw [if_neg e]
  congr 1
  rw [List.mem_append,List.mem_singleton]
  exact propext ⟨fun h=>⟨h.1,h.2.resolve_right (fun h2=>e (by omega))⟩,fun h=>⟨h.1,.inl h.2⟩⟩
structure BfsT (V:List ByteArray) (m:Nat) (P T:List Nat):Prop where
 top:1 ∈ P++T
 once:(P++T).Nodup
 live:∀ d ∈ P++T,LiveT V m d
 shut:∀ d ∈ P,kindR V d=2→∀ x ∈ entD V d,∀ j:Nat,x.ino=(j:Int)→j ∈ P++T
structure BfsI (V:List ByteArray) (m:Nat) (P:List Nat) (d:Nat) (l:List EntV) (i:Nat) (T:List Nat):Prop where
 top:1 ∈ P++d::T
 once:(P++d::T).Nodup
 live:∀ k ∈ P++d::T,LiveT V m k
 shut:∀ k ∈ P,kindR V k=2→∀ x ∈ entD V k,∀ j:Nat,x.ino=(j:Int)→j ∈ P++d::T
 part:∀ x ∈ l.take i,∀ j:Nat,x.ino=(j:Int)→j ∈ P++d::T
section
variable {V:List ByteArray} {m d j i:Nat} {P T:List Nat} {l:List EntV}
theorem live_len {R:List Nat} (h1:R.Nodup) (h2:∀ k ∈ R,LiveT V m k) (hm:m≤64):R.length≤64:=by
 have:=nodup_len (T:=List.range' 1 64) h1 (fun d hd=>by
  have h:=h2 d hd
  have h3:=h.1
  have h4:=h.2.1
  rw [List.mem_range']
  exact ⟨d-1,by omega,by omega⟩)
 simpa using this
theorem BfsT.start (h:LiveT V m 1):BfsT V m [] [1]:=⟨by simp,by simp,fun d hd=>by rw [List.mem_singleton.1 hd];exact h,fun d hd=>(by cases hd)⟩
theorem BfsT.open_ (h:BfsT V m P (d::T)) (l:List EntV):BfsI V m P d l 0 T:=⟨h.top,h.once,h.live,h.shut,fun x hx=>(by simp at hx)⟩
theorem BfsI.skip (h:BfsI V m P d l i T) (hi:i<l.length) (hx:l[i].ino=(j:Int)) (hj:j ∈ P++d::T):BfsI V m P d l (i+1) T:=⟨h.top,h.once,h.live,h.shut,fun x hm k hk=>by
 rw [List.take_add_one,List.getElem?_eq_getElem hi] at hm
 rcases List.mem_append.1 hm with hm | hm
 ·exact h.part x hm k hk
 ·obtain rfl:x=l[i]:=by simpa using hm
  have:k=j:=by omega
  rw [this];exact hj⟩
theorem BfsI.push (h:BfsI V m P d l i T) (hi:i<l.length) (hx:l[i].ino=(j:Int)) (hj:j ∉ P++d::T) (hl:LiveT V m j):BfsI V m P d l (i+1) (T++[j]):=by
 have e:P++d::(T++[j])=(P++d::T)++[j]:=by simp
 have h2:BfsI V m P d l i (T++[j]):=by
  refine ⟨?_,?_,?_,?_,?_⟩ <;> rw [e]
  ·exact List.mem_append_left _ h.top
  ·rw [List.nodup_append]
   exact ⟨h.once,by simp,fun a ha b hb e2=>hj (by rw [← List.mem_singleton.1 hb,← e2];exact ha)⟩
  ·intro k hk
   rcases List.mem_append.1 hk with hk | hk
   ·exact h.live k hk
   ·rw [List.mem_singleton.1 hk];exact hl
  ·exact fun k hk h2 x hx j hj=>List.mem_append_left _ (h.shut k hk h2 x hx j hj)
  ·exact fun x hx j hj=>List.mem_append_left _ (h.part x hx j hj)
 exact h2.skip hi hx (by rw [e];simp)
theorem BfsI.close (h:BfsI V m P d l l.length T) (hl:kindR V d=2→l=entD V d):BfsT V m (P++[d]) T:=by
 have e:P++[d]++T=P++d::T:=by simp
 refine ⟨?_,?_,?_,fun k hk h2 x hx j hj=>?_⟩ <;> rw [e]
 ·exact h.top
 ·exact h.once
 ·exact h.live
 ·rcases List.mem_append.1 hk with hk | hk
  ·exact h.shut k hk h2 x hx j hj
  ·obtain rfl:=List.mem_singleton.1 hk
   exact h.part x (by rw [List.take_length,hl h2];exact hx) j hj
end
set_option maxHeartbeats 8000000 in
theorem reached_fk {E:FkE} {n:Nat} {f:Nat→Int→Option Value} {w:World} (S:FkS E n f w) (t:FsT E.V E.m) (ha:AllR E.V E.m) (hd:∀ d:Nat,LiveT E.V E.m d→(f 2 (d:Int)).isSome=decide (kindR E.V d=2)) :
  Calls Tryz.prog 188 #[.pointer (some ⟨E.q,0,none⟩)] w fun e w'=>∃ b n' R,e=.returned (.map (some b))∧MapIs w' b n' (markF R)∧(∀ k,LiveT E.V E.m k→k ∈ R)∧Below w.heap.size w w':=by
 have m64:E.m≤64:=by have:=t.vol.len;unfold dataN at this;omega
 have S0:=Lib.hid S
 have HT:=Lib.hid t
 have HA:=Lib.hid ha
 have HD:=Lib.hid hd
 have HM:=Lib.hid m64
 obtain ⟨i0,q1,q2,q3,q4⟩:=info_parts i64_info
 have I0:=Lib.hid (And.intro q1 (And.intro q2 (And.intro q3 q4)))
 have hmm:=@run_makeMap Tryz.prog
 clear S t ha hd m64 q1 q2 q3 q4
 go_enter Tryz.func188,Tryz.ntmps188
 go_wp2_with (refine wpList_map_put _ rfl (.tmp 8) (.const (.int .i64 1)) (.const (.bool true)) 257 (.inr rfl) 4 Tryz.underlying257 w.heap.size 0 _ rfl (MapIs.made w) (by omega) 1 rfl (by decide) (.bool true) rfl ?_;intro w1 hm1 hg1)
 have HX1:Hid (Below w.heap.size w w1):=((Below.refl w.heap.size w).alloc (Nat.le_refl _) _).grown hg1 (by simp) (fun k e=>by cases e;exact Nat.le_refl _)
 have HB1:Hid (Below w.heap.size w (w1.alloc (.cells #[.int .i64 1] 3))):=HX1.out.alloc HX1.out.size _
 have HLT:Hid (w.heap.size<w1.heap.size):=hm1.lt
 have HM1:Hid (MapIs (w1.alloc (.cells #[.int .i64 1] 3)) w.heap.size 1 (markF [1])):=((hm1.below ((Below.refl w1.heap.size w1).alloc (Nat.le_refl _) _) hm1.lt).mono (Nat.le_refl _)).congr (fun z=>by
  have:=markF_upd [] 1 z
  rw [List.nil_append] at this
  rw [this]
  have e0:∀ y,markF [] y=none:=fun y=>by unfold markF;simp
  unfold updF
  rw [e0]
  rfl)
 have HR1:Hid (ORow (w1.alloc (.cells #[.int .i64 1] 3)) w1.heap.size 0 1 [1]):=⟨by simp,Nat.le_refl _,by decide,fun j hj=>by
   obtain rfl:j=0:=by omega
   exact ⟨by rw [(Blk.new w1 3 #[.int .i64 1]).cell 0 rfl];rfl,(Blk.new w1 _ _).frozen 0⟩,fun j u hu=>by
   cases j with
   | zero=>cases hu;exact (Blk.new w1 3 #[.int .i64 1]).cell 0 rfl
   | succ j=>simp at hu⟩
 clear hm1 hg1 HX1
 generalize hw2:w1.alloc _=w2 at *
 go_loopg [4,5,7] 65 (fun gk v _ _ wr=>∃ (P T:List Nat) (g o cap k:Nat),v=.slice (some ⟨g,o,none⟩) T.length cap∧Hid (gk+P.length=65)∧Hid (BfsT E.V E.m P T)∧Hid (w.heap.size<g)∧Hid (ORow wr g o cap T)∧Hid (MapIs wr w.heap.size k (markF (P++T)))∧Hid (k≤(P++T).length)∧Hid (Below w.heap.size w wr))
 case atStart=>exact ⟨[],[1],w1.heap.size,0,1,1,rfl,rfl,BfsT.start HT.out.root,HLT,HR1,HM1,Nat.le_refl _,HB1⟩
 case round=>
  clear HB1 HLT HM1 HR1 hw2
  obtain ⟨P,T,g,o,cap,k,rfl,HG,HBF,HLT,HRW,HMP,HKL,B⟩:=hrel
  cases T with
  | nil=>
   go_wp2
   go_ret
   refine ⟨w.heap.size,k,P++[],rfl,HMP.out,fun j hj=>?_,B.out⟩
   exact (HA.out j hj).sure HBF.out.top (fun d hd=>HBF.out.shut d (by simpa using hd))
  | cons d T=>
   have c0:wr.cell? ⟨g,o,none⟩=some (.int .i64 (d:Int)):=HRW.out.cell 0 d rfl
   have hcap:T.length+1≤cap:=HRW.out.le
   have HLN:Hid ((d::T).length=T.length+1):=rfl
   rw [HLN.out]
   have RT:=Lib.hid HRW.out.tail
   have HT0:Hid (cap=1→T=[]∧T.length=0):=fun e=>by
    have:T.length=0:=by omega
    exact ⟨List.eq_nil_of_length_eq_zero this,this⟩
   have HG0:Hid (g<wr.heap.size):=HRW.out.lt
   have hcap1:cap=1∨1<cap:=by omega
   have i1:(0:Int)<(T.length:Int)+1:=by omega
   have i2:(1:Int)≤(T.length:Int)+1:=by omega
   have i3:(1:Int)≤(cap:Int):=by omega
   go_upto_region 5 with fail
   go_cut [4] from 17 to 18 (fun v wx=>∃ o' cap',v=.slice (some ⟨g,o',none⟩) T.length cap'∧Hid (ORow wr g o' cap' T)∧wr=wx)
   case first=>
    rcases hcap1 with hc | hc
    ·subst hc
     have HT1:=Lib.hid (HT0.out rfl).1
     clear hcap
     go_wp2_with fail
     go_meet
     have e1:=HT1.out
     exact ⟨o,0,rfl,⟨HG0.out,by rw [e1];exact Nat.le_refl _,by decide,fun j hj=>absurd hj (Nat.not_lt_zero _),fun j u hu=>by rw [e1] at hu;simp at hu⟩,rfl⟩
    ·have hc0:¬ cap=1:=by omega
     go_wp2_with fail
     go_meet
     exact ⟨o+1,cap-1,rfl,RT,rfl⟩
   case rest=>
    obtain ⟨o',cap',rfl,RW,rfl⟩:=hcut
    clear HRW c0 hcap RT HT0 HG0 hcap1 i1 i2 i3 HLN
    have S:=Lib.hid (S0.out.later B.out)
    have hd:=HBF.out.live d (by simp)
    have hd64:d≤1000:=by have:=hd.2.1;have:=HM.out;omega
    obtain ⟨l,A2,c2,hLU,hRL,hl2,hnm,hll⟩:∃ (l:List EntV) (A2:Option Addr) (c2:Nat),(f 2 (d:Int)).getD (.slice none 0 0)=.slice A2 l.length c2∧EntsAt w w.heap.size A2 l∧(kindR E.V d=2→l=entD E.V d)∧(∀ x ∈ l,∃ k:Nat,x.ino=(k:Int)∧LiveT E.V E.m k)∧l.length≤280:=by
     by_cases hk:kindR E.V d=2
     ·have h1:=HD.out d hd
      rw [decide_eq_true hk] at h1
      obtain ⟨v2,hv2⟩:=Option.isSome_iff_exists.1 h1
      obtain ⟨A2,c2,e,h2⟩:=S0.out.rows d v2 hv2
      exact ⟨entD E.V d,A2,c2,by rw [hv2,e];rfl,h2,fun _=>rfl,fun x hx=>by
       obtain ⟨k,a,b,_⟩:=HT.out.name d hd hk x hx
       exact ⟨k,a,b⟩,listO_len⟩
     ·have h1:=HD.out d hd
      rw [decide_eq_false hk] at h1
      have h2:f 2 (d:Int)=none:=by
       cases h:f 2 (d:Int) with
       | none=>rfl
       | some v=>rw [h] at h1;cases h1
      exact ⟨[],none,0,by rw [h2];rfl,RowAt.nil,fun e=>absurd e hk,fun x hx=>(by cases hx),Nat.zero_le _⟩
    have LU:=S.out.ents (z:=(d:Int)) (wf_nat (by omega))
    rw [hLU] at LU
    have c9:wr.cell? ⟨E.q,9,none⟩=some (.map (some (E.p+2))):=S.out.blk.cell 9 rfl
    have HL2:=Lib.hid hl2
    have HNM:=Lib.hid hnm
    have HRL:=Lib.hid hRL
    have HIN:=Lib.hid (HBF.out.open_ l)
    have HLL:=Lib.hid hll
    clear hLU hl2 hnm hRL hd hll
    go_wp2
    go_loopw [4,7,26] (fun v _ i wx=>∃ (i0:Nat) (T:List Nat) (g o cap k:Nat),i0≤l.length∧i=.int .i64 (i0:Int)∧v=.slice (some ⟨g,o,none⟩) T.length cap∧Hid (BfsI E.V E.m P d l i0 T)∧Hid (w.heap.size<g)∧Hid (ORow wx g o cap T)∧Hid (MapIs wx w.heap.size k (markF (P++d::T)))∧Hid (k≤(P++d::T).length)∧Hid (Below w.heap.size w wx)) (fun _ _ i _=>l.length-(intOf i).toNat)
    case atStart=>exact ⟨0,T,g,o',cap',k,Nat.zero_le _,rfl,rfl,HIN,HLT,RW,HMP,HKL,B⟩
    case round=>
     clear HIN HLT RW HMP HKL B S LU c9
     obtain ⟨i1,T2,g2,o2,cap2,k2,hi,rfl,rfl,HIN,HLT,RW,HMP,HKL,B⟩:=hrel
     have hlen:=live_len HIN.out.once HIN.out.live HM.out
     by_cases hlt:i1<l.length
     ·obtain ⟨bA,oA,rfl,hbA,hrA⟩:=(HRL.out.below B.out).get hlt
      obtain ⟨j,hj,hjl⟩:=HNM.out _ (List.getElem_mem hlt)
      have HPU:=Lib.hid (fun h=>HIN.out.push hlt hj h hjl)
      have HSK:=Lib.hid (fun h=>HIN.out.skip hlt hj h)
      have j64:j≤64:=by have:=hjl.2.1;have:=HM.out;omega
      generalize l[i1]=x at *
      obtain ⟨nm,ino⟩:=x
      dsimp only at hj hrA
      subst hj
      have HR:Hid (wr.rangeAt bA (oA+i1 * 2) [.string nm,.int .i64 (j:Int)]):=hrA
      obtain ⟨w3,hw3⟩:∃ w3,wr.alloc (.cells #[.string nm,.int .i64 (j:Int)] 168)=w3:=⟨_,rfl⟩
      have hb3:Below wr.heap.size wr w3:=hw3▸(Below.refl _ _).alloc (Nat.le_refl _) _
      have X3:Hid (Blk w3 wr.heap.size 168 #[.string nm,.int .i64 (j:Int)]):=hw3▸Blk.new wr _ _
      have B3:=Lib.hid (B.out.trans (hb3.mono B.out.size))
      have R3:=Lib.hid (RW.out.below hb3)
      have M3:=Lib.hid (HMP.out.below hb3 HMP.out.lt)
      have HWF:Hid ((Lit.int .i64 (j:Int)).wf=true):=wf_nat (by omega)
      have LK:=M3.out.look Tryz.underlying257 (zBool w3) (j:Int) HWF.out false
      rw [markF_nat] at LK
      have x1:w3.cell? ⟨wr.heap.size,1,none⟩=some (.int .i64 (j:Int)):=X3.out.cell 1 rfl
      have i2:(i1:Int)<(l.length:Int):=by omega
      have i3:(0:Int)≤(i1:Int):=by omega
      have ws:IntKind.i64.wrap ((i1:Int)+1)=(i1:Int)+1:=IntWalk.i64_in _ (by have:=HLL.out;omega)
      have hln2:(P++d::T2).length=P.length+(T2.length+1):=by simp
      have HMX:Hid (k2<1000000∧T2.length+1≤1000000∧w.heap.size<wr.heap.size):=⟨by have:=HKL.out;omega,by omega,HMP.out.lt⟩
      clear hln2
      clear hrA hb3 hjl j64 hbA hlen
      by_cases hin:j ∈ P++d::T2
      ·have HI2:=Lib.hid (HSK.out hin)
       rw [if_pos hin] at LK
       have LK:(Instr.lookup 257 (.map (some w.heap.size)) (.int .i64 (j:Int)) false).run Tryz.prog w3=.ok (.bool true) w3:=LK
       clear hin HSK HPU
       go_wp2_with (refine wpList_load_mid rfl 168 (.tmp 28) rfl bA (oA+i1 * 2) rfl _ _ HR.out Tryz.underlying168 rfl (by kernel_rfl) ?_;go_frame)
       go_roundw
       case rel=>exact ⟨i1+1,T2,g2,o2,cap2,k2,by omega,by go_num,rfl,HI2,HLT,R3,M3,HKL,B3⟩
       case measure=>simp [intOf];omega
      ·have HI2:=Lib.hid (HPU.out hin)
       rw [if_neg hin] at LK
       have LK:(Instr.lookup 257 (.map (some w.heap.size)) (.int .i64 (j:Int)) false).run Tryz.prog w3=.ok (.bool false) w3:=LK
       clear hin HSK HPU
       go_wp2_with (first
        | (refine wpList_load_mid rfl 168 (.tmp 28) rfl bA (oA+i1 * 2) rfl _ _ HR.out Tryz.underlying168 rfl (by kernel_rfl) ?_;go_frame)
        | (at_mapUpdate;refine wpList_map_put _ rfl _ _ _ 257 (.inl rfl) 4 Tryz.underlying257 w.heap.size k2 _ rfl M3.out HMX.out.1 (j:Int) rfl HWF.out (.bool true) rfl ?_;intro w5 hm5 hg5;have x5:w5.cell? ⟨wr.heap.size,1,none⟩=some (.int .i64 (j:Int)):=(X3.out.grown hg5 (by have:=HMX.out.2.2;simp;omega)).cell 1 rfl;have M5:=Lib.hid hm5;have G5:=Lib.hid hg5;have R6:=Lib.hid ((R3.out.kept hg5.size (hg5.block g2 R3.out.lt (by have:=HLT.out;simp;omega))).below ((Below.refl w5.heap.size w5).alloc (Nat.le_refl _) (.cells #[.int .i64 (j:Int)] 3)));have HC6:Hid ((w5.alloc (.cells #[.int .i64 (j:Int)] 3)).cell? ⟨w5.heap.size,0,none⟩=some (.int .i64 (j:Int))):=(Blk.new w5 _ _).cell 0 rfl;clear hm5 hg5)
        | (at_builtin;refine wpList_num_push _ rfl (.tmp 38) (.tmp 41) 45 rfl 3 i0 Tryz.underlying45 I0.out.1 I0.out.2.1 I0.out.2.2.1 I0.out.2.2.2 g2 o2 cap2 T2 rfl R6.out ⟨w5.heap.size,0,none⟩ 1 j rfl HC6.out HMX.out.2.1 ?_;intro g7 o7 cap7 w7 hr7 hg7 hgr7))
       have M7:=Lib.hid (((M5.out.below ((Below.refl w5.heap.size w5).alloc (Nat.le_refl _) (.cells #[.int .i64 (j:Int)] 3)) M5.out.lt).kept hgr7 (by have:=HLT.out;omega)).congr (fun z=>markF_upd (P++d::T2) j z))
       have e1:P++d::T2++[j]=P++d::(T2++[j]):=by simp
       rw [e1] at M7
       have B5:=B3.out.grown G5.out B3.out.size (fun k e=>by cases e;exact Nat.le_refl _)
       have B7:=Lib.hid ((B5.alloc B5.size (.cells #[.int .i64 (j:Int)] 3)).grown hgr7 (B5.alloc B5.size _).size (fun k e=>by cases e;exact Nat.le_of_lt HLT.out))
       have HLT7:Hid (w.heap.size<g7):=by
        show _<_
        rw [World.size_alloc] at hg7
        rcases hg7 with e | e
        ·rw [e];exact HLT.out
        ·have:=B5.size;omega
       have R7:=Lib.hid hr7
       clear hr7 hg7 hgr7 B5
       go_wp2
       go_roundw
       case rel=>exact ⟨i1+1,T2++[j],g7,o7,cap7,k2+1,by omega,by go_num,by simp,HI2,HLT7,R7,M7,Lib.hid (by have:=HKL.out;simp at this ⊢; omega),B7⟩
       case measure=>simp [intOf];omega
     ·obtain rfl:i1=l.length:=by omega
      have HCL:=Lib.hid (HIN.out.close HL2.out)
      have i2:¬ (l.length:Int)<(l.length:Int):=by omega
      have e1:P++[d]++T2=P++d::T2:=by simp
      rw [← e1] at HMP HKL
      go_wp2
      go_roundg (gk-1)
      case measure=>have:=HG.out;simp at hlen;omega
      case rel=>exact ⟨P++[d],T2,g2,o2,cap2,k2,rfl,Lib.hid (by have:=HG.out;simp at hlen ⊢; omega),HCL,HLT,RW,HMP,HKL,B⟩
end Go.Proofs.YtdldlendppkknaaGreatDoor
