/-
  Contracts and plain laws: OpenDeeds, SpkM, SpkS, SpkB.
-/
import Derived.Outline
import Derived.Test.YtdldlendppkknaaGreatDoorPackV25
namespace Go.Proofs.YtdldlendppkknaaGreatDoor
open Go.ChangeShapes Go.WideShapes Go.ChangeAt Go.RowKit
set_option linter.unusedVariables false
set_option linter.unusedSimpArgs false
set_option maxRecDepth 100000
def DeedN (a:DeedV):Prop:=-9223372036854775808≤a.n∧a.n≤9223372036854775807
theorem deedsC_idx:∀ {l:List DeedV} {j:Nat} {u:Value},(deedsC l)[j]?=some u→∃ x,l[j / 6]?=some x∧(deedC x).toList[j % 6]?=some u
 | [],j,u,h=>by simp [deedsC] at h
 | x::l,j,u,h=>by
  have h:((deedC x).toList++deedsC l)[j]?=some u:=h
  by_cases hj:j<6
  ·rw [List.getElem?_append_left (by show j<6;exact hj)] at h
   exact ⟨x,by rw [show j / 6=0 by omega];rfl,by rw [show j % 6=j by omega];exact h⟩
  ·rw [List.getElem?_append_right (by show 6≤j;omega)] at h
   have h:(deedsC l)[j-6]?=some u:=h
   obtain ⟨y,h1,h2⟩:=deedsC_idx h
   exact ⟨y,by rw [show j / 6=(j-6) / 6+1 by omega];exact h1,by rw [show j % 6=(j-6) % 6 by omega];exact h2⟩
theorem deedCells:Tryz.prog.cellsOf 30=6:=by kernel_rfl
theorem strCellsD:Tryz.prog.cellsOf 9=1:=by kernel_rfl
theorem i64CellsD:Tryz.prog.cellsOf 3=1:=by kernel_rfl
theorem wfi64 {z:Int} (h:(Lit.int .i64 z).wf=true):-9223372036854775808≤z∧z≤9223372036854775807:=by
 simp [Lit.wf,IntKind.min,IntKind.max,IntKind.signed,IntKind.bits] at h;omega
theorem deed_of {H:Type} {enc:TypeId × Value→H} {W:World} {base:Nat} {spare:Nat→Bool} {held:Bool} {fuel:Nat} {cs:List Value} {x:DataW H × List MemPlace}
  (h:DataW.trod enc Tryz.prog W base spare held fuel 30 cs=some x):∃ a:DeedV,cs=(deedC a).toList∧DeedN a:=by
 obtain ⟨xs,n,rfl,rfl,hl,hn,hf⟩:=DataW.trod_struct Tryz.underlying30 h
 rw [deedCells] at hl
 have h0:=hf 0 _ rfl
 have h1:=hf 1 _ rfl
 have h2:=hf 2 _ rfl
 have h3:=hf 3 _ rfl
 have h4:=hf 4 _ rfl
 have h5:=hf 5 _ rfl
 have hn6:xs.length=6:=hn
 match xs,hn6,cs,hl with
 | [x0,x1,x2,x3,x4,x5],_,[c0,c1,c2,c3,c4,c5],_=>
  obtain ⟨z0,e0,_,_⟩:=DataW.trod_int Tryz.underlying3 h0
  obtain ⟨z1,e1,_,w1⟩:=DataW.trod_int Tryz.underlying3 h1
  obtain ⟨s2,e2,_,_⟩:=DataW.trod_string Tryz.underlying9 h2
  obtain ⟨s3,e3,_,_⟩:=DataW.trod_string Tryz.underlying9 h3
  obtain ⟨s4,e4,_,_⟩:=DataW.trod_string Tryz.underlying9 h4
  obtain ⟨z5,e5,_,_⟩:=DataW.trod_int Tryz.underlying3 h5
  replace e0:([c0,c1,c2,c3,c4,c5].drop 0).take (Tryz.prog.cellsOf 3)=[.int .i64 z0]:=e0
  replace e1:([c0,c1,c2,c3,c4,c5].drop 1).take (Tryz.prog.cellsOf 3)=[.int .i64 z1]:=e1
  replace e2:([c0,c1,c2,c3,c4,c5].drop 2).take (Tryz.prog.cellsOf 9)=[.string s2]:=e2
  replace e3:([c0,c1,c2,c3,c4,c5].drop 3).take (Tryz.prog.cellsOf 9)=[.string s3]:=e3
  replace e4:([c0,c1,c2,c3,c4,c5].drop 4).take (Tryz.prog.cellsOf 9)=[.string s4]:=e4
  replace e5:([c0,c1,c2,c3,c4,c5].drop 5).take (Tryz.prog.cellsOf 3)=[.int .i64 z5]:=e5
  rw [i64CellsD] at e0 e1 e5
  rw [strCellsD] at e2 e3 e4
  simp only [List.drop_succ_cons,List.drop_zero,List.take_succ_cons,List.take_zero,List.cons.injEq,and_true] at e0 e1 e2 e3 e4 e5
  subst e0;subst e1;subst e2;subst e3;subst e4;subst e5
  exact ⟨⟨z0,z1,s2,s3,s4,z5⟩,rfl,wfi64 w1⟩
theorem open_deeds {H:Type} {enc:TypeId × Value→H} {W:World} {r:Reach} {b0:Nat} {v:Value} {d:DataW H} {ps:List MemPlace}
  (hv:Value.okWide Tryz.prog W r b0 22 v) (h:DataW.Trod enc Tryz.prog W 0 (fun _=>true) true 22 v d ps) :
  ∃ A c l,v=.slice A (List.length l) c∧RowAt W W.heap.size A (deedsC l)∧l.length≤maxLen∧∀ a ∈ l,DeedN a:=by
 obtain ⟨a,len,cap,rfl⟩:=okWide_slice Tryz.underlying22 hv
 obtain ⟨fuel,hf⟩:=h
 rcases DataW.trod_slice Tryz.underlying22 hf with ⟨hcs,hx⟩ | ⟨a',len',cap',elems,rest,n,_,hcs,hx,hb,hl,hm,hlen,hel,hsp,hns⟩
 ·simp [Value.cells] at hcs
  obtain ⟨rfl,rfl,rfl⟩:=hcs
  exact ⟨none,0,[],rfl,.inl rfl,Nat.zero_le _,fun s hs=>by cases hs⟩
 ·simp [Value.cells] at hcs
  obtain ⟨rfl,rfl,rfl⟩:=hcs
  have each:∀ i,i<len→∃ (x:DeedV) (y:DataW H × List MemPlace),elems[i]?=some y∧DeedN x∧∀ k u,((deedC x).toList)[k]?=some u→W.cell? ((a'.add (i * 6)).add k)=some u:=fun i hi=>by
   have e:=hel i hi
   rw [List.getElem?_eq_getElem (by omega),deedCells,Option.bind_eq_some_iff] at e
   obtain ⟨cs,h1,h2⟩:=e
   obtain ⟨_,c2,c3⟩:=World.cells?_some h1
   obtain ⟨x,rfl,hw⟩:=deed_of h2
   refine ⟨x,elems[i],by rw [List.getElem?_eq_getElem (by omega)],hw,fun k u hu=>?_⟩
   have hk:k<6:=(List.getElem?_eq_some_iff.1 hu).1
   rw [c3 k hk];exact hu
  obtain ⟨l,hll,hl2⟩:∃ l:List DeedV,l.length=len∧∀ i x,l[i]?=some x→∃ y:DataW H × List MemPlace,elems[i]?=some y∧DeedN x∧∀ k u,((deedC x).toList)[k]?=some u→W.cell? ((a'.add (i * 6)).add k)=some u:=by
   have key:∀ i:Fin len,∃ x:DeedV,∃ y:DataW H × List MemPlace,elems[i.1]?=some y∧DeedN x∧∀ k u,((deedC x).toList)[k]?=some u→W.cell? ((a'.add (i.1 * 6)).add k)=some u:=fun i=>each i.1 i.2
   refine ⟨List.ofFn fun i=>Classical.choose (key i),by simp,fun i x hx=>?_⟩
   have hi:i<len:=by have:=(List.getElem?_eq_some_iff.1 hx).1;simpa using this
   rw [List.getElem?_ofFn,dif_pos hi] at hx
   obtain rfl:=Option.some.inj hx
   exact Classical.choose_spec (key ⟨i,hi⟩)
  refine ⟨some a',cap,l,by rw [hll],?_,by omega,fun x hx0=>?_⟩
  ·by_cases hl0:len=0
   ·left
    have:l=[]:=List.eq_nil_of_length_eq_zero (by omega)
    rw [this];rfl
   ·obtain ⟨b,o,spot⟩:=a'
    have h0:∃ x,l[0]?=some x:=⟨l[0],List.getElem?_eq_getElem (by omega)⟩
    obtain ⟨x,hx1⟩:=h0
    obtain ⟨y,_,_,hcell⟩:=hl2 0 x hx1
    have hc0:=hcell 0 _ rfl
    have hspot:spot=none:=by simpa [Addr.add] using World.cell?_spot hc0
    subst hspot
    have ea1:∀ o j:Nat,(⟨b,o,none⟩:Addr).add j=⟨b,o+j,none⟩:=fun o j=>by unfold Addr.add;split <;> simp_all
    have ea:∀ j k:Nat,((⟨b,o,none⟩:Addr).add (j * 6)).add k=⟨b,o+(j * 6+k),none⟩:=fun j k=>by rw [ea1,ea1,Nat.add_assoc]
    rw [ea] at hc0
    refine .inr ⟨b,o,rfl,block_of_cell hc0,fun j u hu=>?_⟩
    obtain ⟨z,hz,hzu⟩:=deedsC_idx hu
    obtain ⟨y,_,_,hcj⟩:=hl2 (j / 6) z hz
    have:=hcj (j % 6) u hzu
    rw [ea,show j / 6 * 6+j % 6=j by omega] at this
    exact this
  ·obtain ⟨i,hi⟩:=List.getElem?_of_mem hx0
   obtain ⟨y,hy,hw,_⟩:=hl2 i x hi
   exact hw
open Go.RowKit
theorem cstr_info:(Tryz.prog.info? 9).map (fun i=>(i.zero,i.size,i.bytes))=some (some (.string ⟨#[]⟩),1,16):=by kernel_rfl
theorem add_addr (b o j:Nat):(⟨b,o,none⟩:Addr).add j=⟨b,o+j,none⟩:=by unfold Addr.add;split <;> simp_all
theorem cell_alloc_some {w:World} {p:Addr} {u:Value} {o:Obj} (h:w.cell? p=some u):(w.alloc o).cell? p=some u:=by
 have hb:p.block<w.heap.size:=by
  rcases Nat.lt_or_ge p.block w.heap.size with hlt | hge
  ·exact hlt
  ·simp [World.cell?,Array.getElem?_eq_none hge] at h
 rw [World.cell?_alloc_lt w o p hb];exact h
set_option maxHeartbeats 400000 in
theorem clone_any (A:Option Addr) (n c:Nat) (xs:List ByteArray) (w:World) (hn:xs.length=n) (hx:n≤1000000) (h:RowAt w w.heap.size A (xs.map .string)) (h0:A=none→n=0∧c=0) :
  Calls Tryz.prog 75 #[.slice A n c] w fun e w'=>∃ v,e=.returned v∧w'.ownsRow w.heap.size 9 1 v n (xs.map .string)∧Below w.heap.size w w':=by
 obtain ⟨i0,hi,hz0,hz1,hz2⟩:=info_parts cstr_info
 cases A with
 | none=>
  obtain ⟨rfl,rfl⟩:=h0 rfl
  have hxs:xs=[]:=List.eq_nil_of_length_eq_zero hn
  subst hxs
  have hne:=fun W=>Lib.run_eql_slice_nil (P:=Tryz.prog) W
  clear hx h hn h0 hi hz0 hz1 hz2
  go_enter Tryz.func75,Tryz.ntmps75
  go_wp2
  go_ret
  exact ⟨_,rfl,⟨rfl,.inl ⟨rfl,rfl⟩⟩,Below.refl _ _⟩
 | some ad=>
  have hne:=fun W=>Lib.run_eql_slice_nil (P:=Tryz.prog) W
  have HC:Hid (∀ (j:Nat) (u:Value),(xs.map Value.string)[j]?=some u→w.cell? (ad.add j)=some u):=by
   intro j u hu
   rcases h with h | ⟨b,o,hA,hb,hc⟩
   ·rw [h] at hu;simp at hu
   ·cases hA;rw [add_addr];exact hc j u hu
  have HX:=Lib.hid hn
  clear h h0 hn
  go_enter Tryz.func75,Tryz.ntmps75
  go_wp2_with (first | (at_builtin;refine wpList_append_own _ rfl (.tmp 5) (.tmp 6) _ rfl w.heap.size 9 i0 (.string ⟨#[]⟩) 1 16 Tryz.underlying24 hi hz0 hz1 hz2 rfl (by decide) _ 0 [] rfl ?c0 ad n c (xs.map .string) rfl ?c6 ?c1 ?c2 ?c3 ?c4 ?c5 ?_))
  case c0=>exact ⟨by simp,.inr ⟨w.heap.size,0,#[],rfl,Nat.le_refl _,heap_alloc_new w _,Nat.le_refl _,by unfold maxLen;omega,rfl,rfl⟩⟩
  case c6=>simp [HX.out]
  case c1=>exact fun j u hu=>cell_alloc_some (HC.out j u hu)
  case c2=>intro u hu;simp at hu;obtain ⟨x,_,rfl⟩:=hu;rfl
  case c3=>unfold maxLen;omega
  case c4=>omega
  case c5=>simp
  intro v' w3 hown' hgrow _
  go_wp2
  go_ret
  exact ⟨_,rfl,by simpa using hown',((Below.refl _ _).alloc (Nat.le_refl _) _).grown hgrow (by simp) (by intro k hk;simp [Value.ownBlock] at hk;omega)⟩
structure Pte where
 is:Bool
 wr:Bool
 fr:Int
def pteL (l:List Pte):List Value:=l.flatMap fun p=>[.bool p.is,.bool p.wr,.int .i64 p.fr]
theorem pteL_get (l:List Pte) (i:Nat) (hi:i<l.length):(pteL l)[3 * i]?=some (.bool l[i].is)∧(pteL l)[3 * i+1]?=some (.bool l[i].wr)∧(pteL l)[3 * i+2]?=some (.int .i64 l[i].fr):=by
 induction l generalizing i with
 | nil=>simp at hi
 | cons p l ih=>
  cases i with
  | zero=>simp [pteL]
  | succ i=>
   have:=ih i (by simpa using hi)
   simp only [pteL,List.flatMap_cons,List.getElem_cons_succ] at this ⊢
   rw [show 3 * (i+1)=3 * i+3 by omega,show 3 * i+3+1=(3 * i+1)+3 by omega,show 3 * i+3+2=(3 * i+2)+3 by omega]
   simpa [List.getElem?_append_right] using this
def findR (l:List Pte) (a sz:Nat) (wr:Bool):Option (Int × Nat):=
 match l[a / 128]? with
 | some p=>if a<2048∧a % sz=0∧p.is=true∧(wr=true→p.wr=true) then some (p.fr,a % 128) else none
 | none=>none
def findE:Option (Int × Nat)→Ending
 | some (f,p)=>.returned (.tuple #[.int .i64 f,.int .i64 (p:Nat),.bool true])
 | none=>.returned (.tuple #[.int .i64 0,.int .i64 0,.bool false])
def FindPost (r:Option (Int × Nat)) (w:World) (e:Ending) (w':World):Prop:=e=findE r∧Below w.heap.size w w'
set_option maxHeartbeats 1000000 in
theorem mfind_any (l:List Pte) (a sz:Nat) (wr:Bool) (w:World) (hl:l.length=16) (hsz:sz=1∨sz=4) (ha:a<4294967296) :
  Calls Tryz.prog 145 #[.agg (pteL l).toArray,.int .u32 a,.int .i64 sz,.bool wr] w (FindPost (findR l a sz wr) w):=by
 by_cases h1:a<2048
 ·have hi:a / 128<l.length:=by omega
  obtain ⟨p0,p1,p2⟩:=pteL_get l (a / 128) hi
  have hget:l[a / 128]?=some l[a / 128]:=List.getElem?_eq_getElem hi
  generalize l[a / 128]=p at p0 p1 p2 hget
  have c0:(w.alloc (.cells (pteL l).toArray 76)).cell? ⟨w.heap.size,a / 128 * 3,none⟩=some (.bool p.is):=(Blk.new w 76 _).cell _ (by rw [Nat.mul_comm];simpa using p0)
  have c1:(w.alloc (.cells (pteL l).toArray 76)).cell? ⟨w.heap.size,a / 128 * 3+1,none⟩=some (.bool p.wr):=(Blk.new w 76 _).cell _ (by rw [Nat.mul_comm (a / 128)];simpa using p1)
  have c2:(w.alloc (.cells (pteL l).toArray 76)).cell? ⟨w.heap.size,a / 128 * 3+2,none⟩=some (.int .i64 p.fr):=(Blk.new w 76 _).cell _ (by rw [Nat.mul_comm (a / 128)];simpa using p2)
  have i1:(0:Int)≤(a:Int) / 128:=by omega
  have i2:(a:Int) / 128<16:=by omega
  have i3:((a:Int) / 128).toNat=a / 128:=by omega
  have hz:(w.alloc (.cells (pteL l).toArray 76)).heap.size=w.heap.size+1:=by simp
  have hR:findR l a sz wr=if a % sz=0∧p.is=true∧(wr=true→p.wr=true) then some (p.fr,a % 128) else none:=by unfold findR;rw [hget];simp [h1]
  have h2:¬ (2048:Int)≤(a:Int):=by omega
  have h2':(a:Int)<2048:=by omega
  clear ha h1 hget p0 p1 p2 hi hl
  obtain ⟨pi,pw,pf⟩:=p
  by_cases hm:a % sz=0
  ·have hm1:((a:Int) % 1 != 0)=false:=by simp
   have HM:Hid (sz=4→((a:Int) % 4 != 0)=false):=by rintro rfl;simp;omega
   have hF:findR l a sz wr=if (pi && (!wr || pw))=true then some (pf,a % 128) else none:=hR.trans (by cases pi <;> cases wr <;> cases pw <;> simp [hm])
   cases pi <;> cases wr <;> cases pw
   all_goals
    have HF:=Lib.hid hF
    clear hF hR hm
    rcases hsz with rfl | rfl
    all_goals
     try have hm4:=HM.out rfl
     clear HM
     go_enter Tryz.func145,Tryz.ntmps145
     go_wp2
     go_ret3
     rw [HF.out]
     exact ⟨rfl,((Below.refl _ _).alloc (Nat.le_refl _) _).alloc (by simp) _⟩
  ·obtain rfl:sz=4:=by rcases hsz with rfl | rfl;exact absurd (Nat.mod_one a) hm;rfl
   have hm4:((a:Int) % 4 != 0)=true:=by simp;omega
   have HF:Hid (findR l a 4 wr=none):=hR.trans (by simp [hm])
   clear hR hm hsz
   go_enter Tryz.func145,Tryz.ntmps145
   go_wp2
   go_ret3
   rw [HF.out]
   exact ⟨rfl,(Below.refl _ _).alloc (Nat.le_refl _) _⟩
 ·have hR:findR l a sz wr=none:=by unfold findR;split <;> simp [h1]
  have HR:=Lib.hid hR
  have h1':¬ (a:Int)<2048:=by omega
  have h2':(2048:Int)≤(a:Int):=by omega
  have h3':decide ((2048:Int)≤(a:Int))=true:=by simpa using h2'
  clear hR ha h1
  rcases hsz with rfl | rfl
  all_goals
   go_enter Tryz.func145,Tryz.ntmps145
   go_wp2
   go_ret3
   rw [HR.out]
   exact ⟨rfl,(Below.refl _ _).alloc (Nat.le_refl _) _⟩
def frame (xs:List ByteArray) (n:Int):Option ByteArray:=
 if 0≤n then match xs[n.toNat]? with
  | some s=>if s.size=128 then some s else none
  | none=>none
 else none
theorem frame_some {xs:List ByteArray} {n:Int} {s:ByteArray} (h:frame xs n=some s):∃ k:Nat,n=k∧∃ hk:k<xs.length,xs[k]=s∧s.size=128:=by
 unfold frame at h
 split at h
 ·rename_i h0
  split at h
  ·rename_i t ht
   split at h
   ·rename_i h1
    injection h with h
    subst h
    obtain ⟨hk,e⟩:=List.getElem?_eq_some_iff.1 ht
    exact ⟨n.toNat,by omega,hk,e,h1⟩
   ·cases h
  ·cases h
 ·cases h
set_option maxHeartbeats 1000000 in
theorem there_any (A:Option Addr) (c:Nat) (xs:List ByteArray) (n:Int) (w:World) (hx:xs.length≤1000000) (h:RowAt w w.heap.size A (xs.map .string)) :
  Calls Tryz.prog 146 #[.slice A xs.length c,.int .i64 n] w fun e w'=>e=.returned (.bool (frame xs n).isSome)∧w=w':=by
 by_cases h0:0≤n
 ·obtain ⟨k,rfl⟩:=Int.eq_ofNat_of_zero_le h0
  by_cases h1:k<xs.length
  ·obtain ⟨b,o,rfl,hb,hc⟩:=h.at_ (by simp;omega)
   have g1:w.cell? ⟨b,o+k,none⟩=some (.string xs[k]):=hc k _ (by simp [h1])
   have i1:(0:Int)≤(k:Int):=by omega
   have i2:(k:Int)<(xs.length:Int):=by omega
   clear hc h
   by_cases h2:xs[k].size=128
   ·have HF:Hid (frame xs (k:Int)=some xs[k]):=by simp [frame,h1,h2,Hid]
    have h2':((xs[k].size:Int) == 128)=true:=by simp [h2]
    clear h2
    go_enter Tryz.func146,Tryz.ntmps146
    go_wp2
    go_ret
    exact ⟨ret_bool (by rw [HF.out];rfl),rfl⟩
   ·have HF:Hid (frame xs (k:Int)=none):=by simp [frame,h1,h2,Hid]
    have h2':((xs[k].size:Int) == 128)=false:=by simp;omega
    clear h2
    go_enter Tryz.func146,Tryz.ntmps146
    go_wp2
    go_ret
    exact ⟨ret_bool (by rw [HF.out];rfl),rfl⟩
  ·have HF:Hid (frame xs (k:Int)=none):=by simp [frame,h1,Hid]
   have h1':decide (k<xs.length)=false:=by simpa using h1
   clear h hx h0
   go_enter Tryz.func146,Tryz.ntmps146
   go_wp2
   go_ret
   exact ⟨ret_bool (by rw [HF.out];rfl),rfl⟩
 ·have HF:Hid (frame xs n=none):=by simp [frame,h0,Hid]
  have h0':decide (0≤n)=false:=by simpa using h0
  clear h hx
  go_enter Tryz.func146,Tryz.ntmps146
  go_wp2
  go_ret
  exact ⟨ret_bool (by rw [HF.out];rfl),rfl⟩
def loadR (xs:List ByteArray) (l:List Pte) (a sz:Nat):Option Nat:=
 match findR l a sz false with
 | some (f,p)=>match frame xs f with
  | some s=>some (leN ((s.data.toList.drop p).take sz))
  | none=>none
 | none=>none
def loadE:Option Nat→Ending
 | some v=>.returned (.tuple #[.int .u32 (v:Nat),.bool true])
 | none=>.returned (.tuple #[.int .u32 0,.bool false])
def LoadPost (r:Option Nat) (w:World) (e:Ending) (w':World):Prop:=e=loadE r∧Below w.heap.size w w'
theorem findR_place {l:List Pte} {a sz:Nat} {wr:Bool} {f:Int} {p:Nat} (hsz:sz=1∨sz=4) (h:findR l a sz wr=some (f,p)):p+sz≤128:=by
 unfold findR at h
 split at h
 ·split at h
  ·rename_i hh
   injection h with h
   injection h with _ h
   obtain ⟨_,hm,_⟩:=hh
   rcases hsz with rfl | rfl <;> omega
  ·cases h
 ·cases h
theorem leN_four (l:List UInt8) (n:Nat) (hn:n≤4):leN (l.take n)<4294967296:=by
 have h:=leN_lt (l.take n)
 have h2:(l.take n).length≤4:=by simp;omega
 have h3:256 ^ (l.take n).length≤256 ^ 4:=Nat.pow_le_pow_right (by omega) h2
 omega
theorem space_info:(Tryz.prog.info? 76).map (·.size)=some 48:=by kernel_rfl
theorem pteL_len (l:List Pte):(pteL l).length=3 * l.length:=by
 induction l with
 | nil=>rfl
 | cons p l ih=>simp only [pteL,List.flatMap_cons,List.length_append,List.length_cons,List.length_nil] at ih ⊢; omega
theorem space_size {l:List Pte} (hl:l.length=16):(Tryz.prog.info? 76).map (·.size)=some (pteL l).toArray.size:=by
 rw [space_info];simp [pteL_len,hl]
set_option maxHeartbeats 1000000 in
theorem load_any (A:Option Addr) (c:Nat) (xs:List ByteArray) (l:List Pte) (a sz:Nat) (w:World) (hx:xs.length≤1000000) (h:RowAt w w.heap.size A (xs.map .string)) (hl:l.length=16) (hsz:sz=1∨sz=4) (ha:a<4294967296) :
  Calls Tryz.prog 79 #[.slice A xs.length c,.agg (pteL l).toArray,.int .u32 a,.int .i64 sz] w (LoadPost (loadR xs l a sz) w):=by
 have HR:=Lib.hid h
 have HS:=Lib.hid hsz
 have HL:=Lib.hid hl
 have HA:=Lib.hid ha
 clear h hsz hl ha
 go_enter Tryz.func79,Tryz.ntmps79
 go_wp2_with (refine load_blk 76 (.tmp 5) w.heap.size 76 (pteL l).toArray _ rfl rfl rfl (Blk.new w _ _) Tryz.underlying76 rfl (space_size HL.out) ?_)
 refine (mfind_any l a sz false _ HL.out HS.out HA.out).mono ?_
 rintro e w1 ⟨rfl,hb1⟩
 have B1:Hid (Below w.heap.size w w1):=((Below.refl _ _).alloc (Nat.le_refl _) _).trans (hb1.mono (by simp))
 clear hb1
 cases hf:findR l a sz false with
 | none=>
  have HL0:=Lib.hid (show loadR xs l a sz=none by unfold loadR;rw [hf])
  clear hf
  unfold findE
  go_wp2
  go_ret2
  rw [HL0.out]
  exact ⟨rfl,B1.out⟩
 | some fp=>
  obtain ⟨f,p⟩:=fp
  have hp:=findR_place HS.out hf
  have HF:=Lib.hid hf
  clear hf
  unfold findE
  go_wp2_with fail
  refine (there_any A c xs f _ hx ((HR.out.below B1.out).mono B1.out.size)).mono ?_
  rintro e w' ⟨rfl,rfl⟩
  cases hfr:frame xs f with
  | none=>
   have HL0:=Lib.hid (show loadR xs l a sz=none by unfold loadR;rw [HF.out];simp only [hfr])
   clear hfr
   go_wp2
   go_ret2
   rw [HL0.out]
   exact ⟨rfl,B1.out⟩
  | some s=>
   have HL0:=Lib.hid (show loadR xs l a sz=some (leN ((s.data.toList.drop p).take sz)) by unfold loadR;rw [HF.out];simp only [hfr])
   obtain ⟨k,rfl,hk,rfl,hs⟩:=frame_some hfr
   obtain ⟨b,o,rfl,hb,hc⟩:=HR.out.at_ (by simp;omega)
   have g1:w1.cell? ⟨b,o+k,none⟩=some (.string xs[k]):=(B1.out.cell (p:=⟨b,o+k,none⟩) hb).trans (hc k _ (by simp [hk]))
   have i1:(0:Int)≤(k:Int):=by omega
   have i2:(k:Int)<(xs.length:Int):=by omega
   have j1:(p:Int)+(sz:Int)≤(xs[k].size:Int):=by omega
   have j2:((p:Int)+(sz:Int)).toNat=p+sz:=by omega
   have j3:p+sz≤128:=hp
   have hsz4:sz≤4:=by rcases HS.out with h | h <;> omega
   have HSS:=Lib.hid hs
   clear hfr hc hs hp
   go_wp2_with fail
   refine (get_any _ _ (by simp [ByteArray.size_extract];omega)).mono ?_
   rintro e w' ⟨rfl,rfl⟩
   have hlt:leN ((xs[k].extract p (p+sz)).data.toList.take 8)<4294967296∧leN ((xs[k].extract p (p+sz)).data.toList.take 8)=leN ((xs[k].data.toList.drop p).take sz):=by
    have e1:(xs[k].extract p (p+sz)).data.toList.take 8=(xs[k].data.toList.drop p).take sz:=by
     rw [Lib.extract_data,show p+sz-p=sz by omega,List.take_take,show min 8 sz=sz by omega]
    rw [e1]
    exact ⟨leN_four _ _ hsz4,rfl⟩
   generalize leN ((xs[k].extract p (p+sz)).data.toList.take 8)=v at hlt ⊢
   obtain ⟨hv,hve⟩:=hlt
   have HV:=Lib.hid hve
   have hv':(v:Int)<4294967296:=by omega
   clear hve hv
   go_wp2
   go_ret2
   rw [HL0.out,← HV.out]
   exact ⟨rfl,B1.out⟩
def putB (s:ByteArray) (p:Nat) (d:ByteArray):ByteArray:=s.extract 0 p++d++s.extract (p+d.size) s.size
set_option maxHeartbeats 1000000 in
theorem mput_any (s d:ByteArray) (p:Nat) (w:World) (h:p+d.size≤s.size) (hs:s.size≤1000000) :
  Calls Tryz.prog 78 #[.string s,.int .i64 p,.string d] w fun e w'=>e=.returned (.string (putB s p d))∧∃ k,w'=w.drewN k:=by
 have e1:IntKind.i64.wrap ((p:Int)+(d.size:Int))=(p:Int)+(d.size:Int):=IntWalk.i64_in _ (by omega)
 have e2:((p:Int)+(d.size:Int)).toNat=p+d.size:=by omega
 have e3:(0:Int)≤(p:Int)+(d.size:Int):=by omega
 have e4:(p:Int)+(d.size:Int)≤(s.size:Int):=by omega
 have e5:(p:Int)≤(s.size:Int):=by omega
 have e6:(0:Int)≤(p:Int):=by omega
 go_enter Tryz.func78,Tryz.ntmps78
 go_wp2
 go_quiet (fail)
 go_wp2
 go_ret
 exact ⟨rfl,_,rfl⟩
theorem own_base {w:World} {base base':Nat} {e:TypeId} {size:Nat} {v:Value} {n:Nat} {xs:List Value} (h:w.ownsRow base e size v n xs) (hb:base'≤base):w.ownsRow base' e size v n xs:=by
 obtain ⟨h1,h2⟩:=h
 refine ⟨h1,?_⟩
 rcases h2 with h2 | ⟨g,cap,cur,hv,hg,r⟩
 ·exact .inl h2
 ·exact .inr ⟨g,cap,cur,hv,by omega,r⟩
def cpuC (R:List Nat) (pc:Nat):Array Value:=(R.map (fun r:Nat=>Value.int .u32 (r:Int))++[Value.int .u32 (pc:Int)]).toArray
theorem cpuC_size (R:List Nat) (pc:Nat):(cpuC R pc).size=R.length+1:=by simp [cpuC]
theorem cpuC_reg {R:List Nat} {pc i:Nat} (h:i<R.length):(cpuC R pc)[i]?=some (.int .u32 (R.getD i 0:Nat)):=by
 simp [cpuC,List.getElem?_append,h]
theorem cpuC_pc {R:List Nat} {pc:Nat} (h:R.length=16):(cpuC R pc)[16]?=some (.int .u32 (pc:Nat)):=by
 simp [cpuC,List.getElem?_append,h]
theorem cpuC_set {R:List Nat} {pc i v:Nat} (h:i<R.length):(cpuC R pc).setIfInBounds i (.int .u32 (v:Nat))=cpuC (R.set i v) pc:=by
 unfold cpuC
 rw [List.setIfInBounds_toArray,List.set_append_left _ _ (by simpa using h),List.map_set]
theorem cpuC_setpc {R:List Nat} {pc v:Nat} (h:R.length=16):(cpuC R pc).setIfInBounds 16 (.int .u32 (v:Nat))=cpuC R v:=by
 unfold cpuC
 rw [List.setIfInBounds_toArray,List.set_append_right _ _ (by simp [h])]
 simp [h]
theorem cpuC_one (R:List Nat) (pc:Nat):∀ v ∈ cpuC R pc,v.oneCell'=true:=by
 intro v hv
 simp [cpuC] at hv
 rcases hv with ⟨r,_,rfl⟩ | rfl <;> rfl
theorem cpu_info:(Tryz.prog.info? 79).map (·.size)=some 17:=by kernel_rfl
theorem cpu_size {R:List Nat} {pc:Nat} (h:R.length=16):(Tryz.prog.info? 79).map (·.size)=some (cpuC R pc).size:=by rw [cpu_info,cpuC_size,h]
def Regs (R:List Nat):Prop:=R.length=16∧∀ r ∈ R,r<4294967296
theorem Regs.get {R:List Nat} (h:Regs R) (i:Nat):R.getD i 0<4294967296:=by
 by_cases hi:i<R.length
 ·simp [hi];exact h.2 _ (List.getElem_mem hi)
 ·simp [Nat.not_lt.1 hi]
theorem Regs.set_ {R:List Nat} (h:Regs R) (i:Nat) {v:Nat} (hv:v<4294967296):Regs (R.set i v):=by
 refine ⟨by simp [h.1],fun r hr=>?_⟩
 rcases List.mem_or_eq_of_mem_set hr with hr | rfl
 ·exact h.2 r hr
 ·exact hv
structure St (w wr:World) (R:List Nat) (pc:Nat) (l:List Pte) (Rw:List Nat) (pcw:Nat) (oc oe:Array Value):Prop where
 c:Blk wr w.heap.size 79 (cpuC R pc)
 s:Blk wr (w.heap.size+1) 76 (pteL l).toArray
 oc:Blk wr (w.heap.size+1+1) 79 oc
 oe:Blk wr (w.heap.size+1+1+1) 84 oe
 was:Blk wr (w.heap.size+1+1+1+1) 79 (cpuC Rw pcw)
 below:Below w.heap.size w wr
def Cs (w wr:World) (R:List Nat) (pc:Nat) (l:List Pte) (Rw:List Nat) (pcw:Nat) (oc oe:Array Value) (v:Value) (xs:List ByteArray):Prop:=
 St w wr R pc l Rw pcw oc oe∧wr.ownsRow w.heap.size 9 1 v xs.length (xs.map .string)
section
variable {w wr wr':World} {R:List Nat} {pc:Nat} {l:List Pte} {Rw:List Nat} {pcw:Nat} {oc oe:Array Value} {v:Value} {xs:List ByteArray}
theorem St.lt (h:St w wr R pc l Rw pcw oc oe):w.heap.size+1+1+1+1<wr.heap.size:=h.was.lt
theorem St.later (h:St w wr R pc l Rw pcw oc oe) (hb:Below wr.heap.size wr wr'):St w wr' R pc l Rw pcw oc oe:=
 ⟨h.c.below hb h.c.lt,h.s.below hb h.s.lt,h.oc.below hb h.oc.lt,h.oe.below hb h.oe.lt,h.was.below hb h.was.lt,h.below.trans (hb.mono h.below.size)⟩
theorem St.reg (h:St w wr R pc l Rw pcw oc oe) {i v:Nat} (hi:i<R.length):St w (wr.setCell ⟨w.heap.size,i,none⟩ (.int .u32 (v:Nat))) (R.set i v) pc l Rw pcw oc oe:=by
 refine ⟨?_,h.s.far (by show w.heap.size+1≠w.heap.size;omega) _,h.oc.far (by show w.heap.size+1+1≠w.heap.size;omega) _,h.oe.far (by show w.heap.size+1+1+1≠w.heap.size;omega) _,h.was.far (by show w.heap.size+1+1+1+1≠w.heap.size;omega) _,h.below.setCell (Nat.le_refl _) _⟩
 rw [← cpuC_set hi];exact h.c.set_ i _
theorem St.setpc (h:St w wr R pc l Rw pcw oc oe) {v:Nat} (hR:R.length=16):St w (wr.setCell ⟨w.heap.size,16,none⟩ (.int .u32 (v:Nat))) R v l Rw pcw oc oe:=by
 refine ⟨?_,h.s.far (by show w.heap.size+1≠w.heap.size;omega) _,h.oc.far (by show w.heap.size+1+1≠w.heap.size;omega) _,h.oe.far (by show w.heap.size+1+1+1≠w.heap.size;omega) _,h.was.far (by show w.heap.size+1+1+1+1≠w.heap.size;omega) _,h.below.setCell (Nat.le_refl _) _⟩
 rw [← cpuC_setpc (pc:=pc) hR];exact h.c.set_ 16 _
theorem ne_blk {a b:Nat} (h:a≠b):some a≠some b:=fun e=>h (Option.some.inj e)
theorem St.putwas (h:St w wr R pc l Rw pcw oc oe) {R':List Nat} {pc':Nat} (hb:Blk wr' (w.heap.size+1+1+1+1) 79 (cpuC R' pc')) (hg:wr.grownBy wr' (some (w.heap.size+1+1+1+1))):St w wr' R pc l R' pc' oc oe:=
 ⟨h.c.grown hg (ne_blk (by omega)),h.s.grown hg (ne_blk (by omega)),h.oc.grown hg (ne_blk (by omega)),h.oe.grown hg (ne_blk (by omega)),hb,h.below.grown hg h.below.size (fun k hk=>by cases hk;omega)⟩
theorem St.putoc (h:St w wr R pc l Rw pcw oc oe) {oc':Array Value} (hb:Blk wr' (w.heap.size+1+1) 79 oc') (hg:wr.grownBy wr' (some (w.heap.size+1+1))):St w wr' R pc l Rw pcw oc' oe:=
 ⟨h.c.grown hg (ne_blk (by omega)),h.s.grown hg (ne_blk (by omega)),hb,h.oe.grown hg (ne_blk (by omega)),h.was.grown hg (ne_blk (by omega)),h.below.grown hg h.below.size (fun k hk=>by cases hk;omega)⟩
theorem St.putoe (h:St w wr R pc l Rw pcw oc oe) {oe':Array Value} (hb:Blk wr' (w.heap.size+1+1+1) 84 oe') (hg:wr.grownBy wr' (some (w.heap.size+1+1+1))):St w wr' R pc l Rw pcw oc oe':=
 ⟨h.c.grown hg (ne_blk (by omega)),h.s.grown hg (ne_blk (by omega)),h.oc.grown hg (ne_blk (by omega)),hb,h.was.grown hg (ne_blk (by omega)),h.below.grown hg h.below.size (fun k hk=>by cases hk;omega)⟩
theorem Cs.later (h:Cs w wr R pc l Rw pcw oc oe v xs) (hb:Below wr.heap.size wr wr'):Cs w wr' R pc l Rw pcw oc oe v xs:=⟨h.1.later hb,own_below h.2 hb⟩
theorem Cs.alloc (h:Cs w wr R pc l Rw pcw oc oe v xs) (o:Obj):Cs w (wr.alloc o) R pc l Rw pcw oc oe v xs:=h.later ((Below.refl _ _).alloc (Nat.le_refl _) _)
theorem Cs.drew (h:Cs w wr R pc l Rw pcw oc oe v xs):Cs w wr.drew R pc l Rw pcw oc oe v xs:=h.later (Below.refl _ _).drew
theorem Cs.own_ne (h:Cs w wr R pc l Rw pcw oc oe v xs) {g:Nat} {t:TypeId} {cs:Array Value} (hg:Blk wr g t cs) (hne:9≠t):v.ownBlock≠some g:=fun e=>Go.Proofs.YtdldlendppkknaaGreatDoor.own_ne h.2 hg hne e.symm
theorem Cs.reg (h:Cs w wr R pc l Rw pcw oc oe v xs) {i u:Nat} (hi:i<R.length):Cs w (wr.setCell ⟨w.heap.size,i,none⟩ (.int .u32 (u:Nat))) (R.set i u) pc l Rw pcw oc oe v xs:=
 ⟨h.1.reg hi,ownsRow_setCell_other h.2 (h.own_ne h.1.c (by decide)) _⟩
theorem Cs.setpc (h:Cs w wr R pc l Rw pcw oc oe v xs) {u:Nat} (hR:R.length=16):Cs w (wr.setCell ⟨w.heap.size,16,none⟩ (.int .u32 (u:Nat))) R u l Rw pcw oc oe v xs:=
 ⟨h.1.setpc hR,ownsRow_setCell_other h.2 (h.own_ne h.1.c (by decide)) _⟩
theorem Cs.putoc (h:Cs w wr R pc l Rw pcw oc oe v xs) {oc':Array Value} (hb:Blk wr' (w.heap.size+1+1) 79 oc') (hg:wr.grownBy wr' (some (w.heap.size+1+1))):Cs w wr' R pc l Rw pcw oc' oe v xs:=
 ⟨h.1.putoc hb hg,h.2.kept hg (.inr (h.own_ne h.1.oc (by decide)))⟩
theorem Cs.putoe (h:Cs w wr R pc l Rw pcw oc oe v xs) {oe':Array Value} (hb:Blk wr' (w.heap.size+1+1+1) 84 oe') (hg:wr.grownBy wr' (some (w.heap.size+1+1+1))):Cs w wr' R pc l Rw pcw oc oe' v xs:=
 ⟨h.1.putoe hb hg,h.2.kept hg (.inr (h.own_ne h.1.oe (by decide)))⟩
theorem own_read {w:World} {base n:Nat} {v:Value} {xs:List Value} (h:w.ownsRow base 9 1 v n xs):∃ A c,v=.slice A n c∧RowAt w w.heap.size A xs∧(A=none→n=0∧c=0):=by
 rcases Go.Joins.ownsRow_forms h with ⟨rfl,rfl⟩ | ⟨g,cap,rfl⟩
 ·exact ⟨none,0,rfl,RowAt.of_own h,fun _=>⟨rfl,rfl⟩⟩
 ·exact ⟨_,cap,rfl,RowAt.of_own h,fun e=>by cases e⟩
end
def zC:Array Value:=#[.int .u32 0,.int .u32 0,.int .u32 0,.int .u32 0,.int .u32 0,.int .u32 0,.int .u32 0,.int .u32 0,.int .u32 0,.int .u32 0,.int .u32 0,.int .u32 0,.int .u32 0,.int .u32 0,.int .u32 0,.int .u32 0,.int .u32 0]
def zE:Array Value:=#[.int .i64 0,.int .u32 0]
def evC (k:Int) (n:Nat):Array Value:=#[.int .i64 k,.int .u32 (n:Int)]
theorem evC_one (k:Int) (n:Nat):∀ v ∈ evC k n,v.oneCell'=true:=by
 intro v hv
 simp [evC] at hv
 rcases hv with rfl | rfl <;> rfl
def RetC (w:World) (R:List Nat) (pc:Nat) (l:List Pte) (Rw:List Nat) (pcw:Nat) (nc ne:Array Value) (v:Value) (xs:List ByteArray) (F:World→Prop) (k:Nat) (w':World):Prop:=
 Cs w w' R pc l Rw pcw (if k=0 then zC else nc) (if k≤2 then zE else ne) v xs∧F w'
theorem ev_info:(Tryz.prog.info? 84).map (·.size)=some 2:=by kernel_rfl
def zeroP:ByteArray:=⟨(List.replicate 128 0).toArray⟩
def zeroA:Array Value:=Array.replicate 128 (.int .u8 0)
theorem zeroA_set (k:Nat):zeroA.setIfInBounds k (.int .u8 0)=zeroA:=by
 apply Array.ext
 ·simp
 ·intro i h1 h2
  simp [zeroA,Array.getElem_setIfInBounds]
theorem zeroA_get {k:Nat} (hk:k<128):zeroA[k]?=some (.int .u8 0):=by simp [zeroA,hk]
theorem byte_info:(Tryz.prog.info? 5).map (fun i=>(i.zero,i.size,i.bytes))=some (some (.int .u8 0),1,1):=by kernel_rfl
theorem zero_back {w:World} {g:Nat} (h:Blk w g 5 zeroA):(convert 44 9 (.slice (some ⟨g,0,none⟩) 128 128)).run Tryz.prog w=.ok (.string zeroP) w:=by
 have:=run_convert_bytes_back (P:=Tryz.prog) w 44 9 5 ⟨g,0,none⟩ 128 (List.replicate 128 0) Tryz.underlying44 Tryz.underlying5 Tryz.underlying9 (fun j hj=>by
  have hj:j<128:=by simpa using hj
  rw [Addr.add_lit,Nat.zero_add,List.getElem_replicate]
  exact h.cell j (zeroA_get hj))
 rw [List.length_replicate] at this
 exact this
theorem page_any (w:World):Calls Tryz.prog 30 #[.int .u8 0] w fun e w'=>e=.returned (.string zeroP)∧Below w.heap.size w w':=by
 obtain ⟨i0,q1,q2,q3,q4⟩:=info_parts byte_info
 have I0:=Lib.hid (And.intro q1 (And.intro q2 (And.intro q3 q4)))
 clear q1 q2 q3 q4
 go_enter Tryz.func30,Tryz.ntmps30
 go_wp2_with (refine make_blk 44 (.const (.int .i64 128)) (.const (.int .i64 128)) 5 i0 (.int .u8 0) 128 128 128 rfl rfl Tryz.underlying44 I0.out.1 I0.out.2.1 I0.out.2.2.1 rfl rfl rfl rfl rfl (by rw [I0.out.2.2.2];decide) (by decide) ?_;intro w1 g1 hg1;have X1:Hid (Blk w1 w.heap.size 5 zeroA):=g1;have B1:=Lib.hid ((Below.refl w.heap.size w).grown hg1 (Nat.le_refl _) (by intro k hk;cases hk));clear g1 hg1;go_frame)
 go_loopw [4,8] (fun _ i wr=>∃ k:Nat,k≤128∧i=.int .i64 (k:Int)∧Hid (Blk wr w.heap.size 5 zeroA)∧Hid (Below w.heap.size w wr)) (fun _ i _=>128-(intOf i).toNat)
 case atStart=>exact ⟨0,by decide,rfl,X1,B1⟩
 case round=>
  clear X1 B1
  obtain ⟨k,hk,rfl,X,B⟩:=hrel
  by_cases hlt:k<128
  ·have q:=X.out.cell k (zeroA_get hlt)
   have f:=X.out.frozen k
   have i2:(k:Int)<128:=by omega
   have i3:(0:Int)≤(k:Int):=by omega
   go_wp2
   go_roundw
   case rel=>exact ⟨k+1,by omega,by go_num,by have:=X.out.set_ k (.int .u8 0);rwa [zeroA_set] at this,B.out.setCell (by exact Nat.le_refl _) _⟩
   case measure=>simp [intOf];omega
  ·obtain rfl:k=128:=by omega
   have hcv:=zero_back X.out
   go_wp2
   go_ret
   exact ⟨rfl,B.out⟩
def wordB:ByteArray:=⟨#[0,192,72,4]⟩
def codeP:ByteArray:=⟨#[0,192,72,4]++(List.replicate 124 0).toArray⟩
theorem put_code:putB zeroP 0 wordB=codeP:=by kernel_rfl
def layPages:List Pte:=⟨true,true,1⟩::List.replicate 15 ⟨false,false,0⟩
def codePages:List Pte:=⟨true,false,1⟩::List.replicate 15 ⟨false,false,0⟩
theorem code_load:loadR [zeroP,codeP] codePages 0 4=some 71876608:=by kernel_rfl
set_option maxHeartbeats 1000000 in
theorem lay_cl (bl bd g cap base:Nat) (w:World) (h1:Blk w bl 24 #[.slice (some ⟨g,0,none⟩) 2 cap]) (h2:Blk w bd 9 #[.string wordB]) (h3:w.ownsRow base 9 1 (.slice (some ⟨g,0,none⟩) 2 cap) 2 [.string zeroP,.string zeroP]) (hbd:base≤bd) (hd:bd≠g) (hl:bl≠bd) (hlg:bl≠g) :
  Calls Tryz.prog 77 #[.int .i64 1,.int .i64 0,.int .i64 4,.pointer (some ⟨bl,0,none⟩),.pointer (some ⟨bd,0,none⟩)] w fun e w'=>e=.returned (.tuple #[])∧(Blk w' bl 24 #[.slice (some ⟨g,0,none⟩) 2 cap]∧w'.ownsRow base 9 1 (.slice (some ⟨g,0,none⟩) 2 cap) 2 [.string zeroP,.string codeP])∧Below base w w':=by
 obtain ⟨d,hdd⟩:∃ d,wordB=d:=⟨_,rfl⟩
 obtain ⟨z,hzz⟩:∃ z,zeroP=z:=⟨_,rfl⟩
 obtain ⟨y,hyy⟩:∃ y,codeP=y:=⟨_,rfl⟩
 have hds:d.size=4:=by rw [← hdd];rfl
 have hzs:z.size=128:=by rw [← hzz];kernel_rfl
 have HP:Hid (putB z 0 d=y):=by show _=_;rw [← hdd,← hzz,← hyy];exact put_code
 rw [hdd] at h2
 rw [hzz] at h3 ⊢
 rw [hyy]
 clear hdd hzz hyy
 have X1:=Lib.hid h1
 have X2:=Lib.hid h2
 have OW:=Lib.hid h3
 have u1:∀ u:Ext w,u.val.cell? ⟨bl,0,none⟩=some (.slice (some ⟨g,0,none⟩) 2 cap):=fun u=>u.cell (h1.cell 0 rfl)
 have u2:∀ u:Ext w,u.val.cell? ⟨bd,0,none⟩=some (.string d):=fun u=>u.cell (h2.cell 0 rfl)
 have u3:∀ u:Ext w,u.val.cell? ⟨g,1,none⟩=some (.string z):=fun u=>u.cell (by rw [h3.cellAt 1 (by decide)];rfl)
 have e1:(d.extract 0 4)=d:=by rw [← hds];exact ByteArray.extract_zero_size
 have hE:=Lib.hid e1
 have hbw:base≤w.heap.size:=by have:=h2.lt;omega
 clear h1 h2 h3
 go_enter Tryz.func77,Tryz.ntmps77
 go_wp2_with fail
 refine wp_region_ext_tail 12 (by kernel_rfl) (by kernel_rfl) ?_
 simp only [List.take_succ_cons,List.take_zero,List.drop_succ_cons,List.drop_zero]
 repeat (go_big_quiet_step (first
  | (go_at_call 78;exact Ext.call_drew (mput_any z d 0 _ (by omega) (by omega)))))
 refine wpQuiet_nil ?_
 rintro _ ⟨u,rfl⟩
 rw [HP.out]
 have ownu:=own_below OW.out u.below
 have gu:=u3 u
 have fu:=ownu.frozenAt 1
 have OU:=Lib.hid ownu
 have Y1:=Lib.hid (X1.out.below u.below X1.out.lt)
 have Y2:=Lib.hid (X2.out.below u.below X2.out.lt)
 have BU:=Lib.hid u.below
 have hgb:=(ownu.lt g rfl).1
 clear ownu u1 u2 u3 X1 X2 OW HP
 generalize u.val=w2 at *
 obtain ⟨w3,hw3⟩:∃ w3,w2.setCell ⟨g,1,none⟩ (.string y)=w3:=⟨_,rfl⟩
 obtain ⟨o1,o2⟩:=OU.out.stored 1 (.string y)
 rw [hw3] at o1
 have OO:Hid (w3.ownsRow base 9 1 (.slice (some ⟨g,0,none⟩) 2 cap) 2 [.string z,.string y]):=o1
 have Z1:Hid (Blk w3 bl 24 #[.slice (some ⟨g,0,none⟩) 2 cap]):=hw3▸Y1.out.far (by exact hlg) _
 have Z2:Hid (Blk w3 bd 9 #[.string d]):=hw3▸Y2.out.far (by exact hd) _
 have BZ:Hid (Below base w w3):=hw3▸(BU.out.mono hbw).setCell (by exact hgb) _
 have z2:=Z2.out.cell 0 rfl
 have f2:=Z2.out.frozen 0
 clear OU Y1 Y2 BU o1 o2 e1
 go_wp2
 go_end0
 refine ⟨rfl,⟨Z1.out.far (by exact hl) _,?_⟩,BZ.out.setCell (by exact hbd) _⟩
 exact ownsRow_setCell_other OO.out (fun e=>hd (Option.some.inj e).symm) _
theorem lay_call (x y z u v:Value) (w:World):Sem.run Tryz.prog (callFunc 77 #[x,y,z,u,v]) w=.ok (.enter 77 #[x,y,z,u,v]) w:=by kernel_rfl
set_option maxHeartbeats 1000000 in
theorem pieces_lay (A:Option Addr) (c bl bd g cap base:Nat) (w:World) (hb:base≤w.heap.size) (hr:RowAt w w.heap.size A ([zeroP,zeroP].map .string)) (h1:Blk w bl 24 #[.slice (some ⟨g,0,none⟩) 2 cap]) (h2:Blk w bd 9 #[.string wordB]) (h3:w.ownsRow base 9 1 (.slice (some ⟨g,0,none⟩) 2 cap) 2 [.string zeroP,.string zeroP]) (hbd:base≤bd) (hd:bd≠g) (hl:bl≠bd) (hlg:bl≠g) :
  Calls Tryz.prog 76 #[.slice A 2 c,.agg (pteL layPages).toArray,.int .u32 0,.int .i64 4,.bool true,.func (.func 77) #[] #[.pointer (some ⟨bl,0,none⟩),.pointer (some ⟨bd,0,none⟩)]] w fun e w'=>e=.returned (.bool true)∧(Blk w' bl 24 #[.slice (some ⟨g,0,none⟩) 2 cap]∧w'.ownsRow base 9 1 (.slice (some ⟨g,0,none⟩) 2 cap) 2 [.string zeroP,.string codeP])∧Below base w w':=by
 have HR:=Lib.hid hr
 have CF:=Lib.hid (fun w=>mfind_any layPages 0 1 true w rfl (.inl rfl) (by decide))
 have hfd:findR layPages 0 1 true=some (1,0):=by kernel_rfl
 rw [hfd] at CF
 unfold FindPost findE at CF
 dsimp only at CF
 have CT:=Lib.hid (fun w h=>there_any A c [zeroP,zeroP] 1 w (by decide) h)
 have hft:(frame [zeroP,zeroP] 1).isSome=true:=by kernel_rfl
 rw [hft] at CT
 generalize hlp:(pteL layPages).toArray=lp at *
 have hcc:=fun x y z u v w=>lay_call x y z u v w
 have CC:Hid (∀ w',Below w.heap.size w w'→Calls Tryz.prog 77 #[.int .i64 1,.int .i64 0,.int .i64 4,.pointer (some ⟨bl,0,none⟩),.pointer (some ⟨bd,0,none⟩)] w' fun e w2=>e=.returned (.tuple #[])∧(Blk w2 bl 24 #[.slice (some ⟨g,0,none⟩) 2 cap]∧w2.ownsRow base 9 1 (.slice (some ⟨g,0,none⟩) 2 cap) 2 [.string zeroP,.string codeP])∧Below base w' w2):=fun w' hb'=>
  lay_cl bl bd g cap base w' (h1.below hb' h1.lt) (h2.below hb' h2.lt) (own_below h3 hb') hbd hd hl hlg
 have HLP:=Lib.hid hlp
 have hsz:(Tryz.prog.info? 76).map (·.size)=some lp.size:=by rw [← hlp];exact space_size rfl
 have HSZ:=Lib.hid hsz
 clear hr h1 h2 h3 hfd hft hlp hsz
 have XP:Hid (Blk (w.alloc (.cells lp 76)) w.heap.size 76 lp):=Blk.new w _ _
 have B1:Hid (Below w.heap.size w (w.alloc (.cells lp 76))):=(Below.refl _ _).alloc (Nat.le_refl _) _
 go_enter Tryz.func76,Tryz.ntmps76
 go_wp2_with fail
 go_loopw [2,3,13,14,15,16] (fun at_ n _ _ _ _ wr=>(n=.int .i64 4∧at_=.int .u32 0∧Hid (Below w.heap.size w wr)∧Hid (Blk wr w.heap.size 76 lp))∨(n=.int .i64 0∧Hid (Blk wr bl 24 #[.slice (some ⟨g,0,none⟩) 2 cap]∧wr.ownsRow base 9 1 (.slice (some ⟨g,0,none⟩) 2 cap) 2 [.string zeroP,.string codeP])∧Hid (Below base w wr))) (fun _ n _ _ _ _ _=>(intOf n).toNat)
 case atStart=>exact .inl ⟨rfl,rfl,B1,XP⟩
 case round=>
  clear XP B1
  rcases hrel with ⟨rfl,rfl,B,X⟩ | ⟨rfl,X,B⟩
  ·go_wp2_with (refine load_blk 76 (.tmp 7) w.heap.size 76 lp _ rfl rfl rfl X.out Tryz.underlying76 rfl HSZ.out ?_;go_frame)
   refine (CF.out _).mono ?_
   rintro e w2 ⟨rfl,hb2⟩
   have B2:=Lib.hid (B.out.trans (hb2.mono B.out.size))
   clear hb2
   go_wp2_with fail
   refine (CT.out _ ((HR.out.below B2.out).mono B2.out.size)).mono ?_
   rintro e w3 ⟨rfl,rfl⟩
   go_wp2_with fail
   refine (CC.out _ B2.out).mono ?_
   rintro e w4 ⟨rfl,h4,hb4⟩
   have X4:=Lib.hid h4
   have B4:=Lib.hid ((B2.out.mono hb).trans hb4)
   clear h4 hb4
   go_wp2
   go_roundw
   case rel=>exact .inr ⟨rfl,X4,B4⟩
   case measure=>first | (simp [intOf];done) | (simp [intOf];omega)
  ·go_wp2
   go_ret
   exact ⟨rfl,X.out,B.out⟩
set_option maxHeartbeats 1000000 in
theorem slay_any (A:Option Addr) (c:Nat) (w:World) (h0:A≠none) (hr:RowAt w w.heap.size A ([zeroP,zeroP].map .string)) :
  Calls Tryz.prog 29 #[.slice A 2 c,.agg (pteL layPages).toArray,.int .u32 0,.string wordB] w fun e w'=>(∃ v,e=.returned (.tuple #[v,.bool true])∧w'.ownsRow w.heap.size 9 1 v 2 ([zeroP,codeP].map .string))∧Below w.heap.size w w':=by
 have HR:=Lib.hid hr
 have CL:=Lib.hid (fun w' (hb:Below w.heap.size w w')=>clone_any A 2 c [zeroP,zeroP] w' rfl (by decide) ((hr.below hb).mono hb.size) (fun e=>absurd e h0))
 have CP:=Lib.hid (fun bl bd g cap base w' hb hr' h1 h2 h3 hbd hd hl hlg=>pieces_lay A c bl bd g cap base w' hb hr' h1 h2 h3 hbd hd hl hlg)
 have hsz:(Tryz.prog.info? 76).map (·.size)=some (pteL layPages).toArray.size:=space_size rfl
 generalize (pteL layPages).toArray=lp at *
 have HSZ:=Lib.hid hsz
 obtain ⟨W1,hW1⟩:∃ W1,(w.alloc (.cells lp 76)).alloc (.cells #[.string wordB] 9)=W1:=⟨_,rfl⟩
 have hz:(w.alloc (.cells lp 76)).heap.size=w.heap.size+1:=by simp
 have B1:Hid (Below w.heap.size w W1):=hW1▸((Below.refl _ _).alloc (Nat.le_refl _) _).alloc (by simp) _
 have XP:Hid (Blk W1 w.heap.size 76 lp):=hW1▸(Blk.new w _ _).alloc _
 have XD:Hid (Blk W1 (w.heap.size+1) 9 #[.string wordB]):=by show Blk _ _ _ _;rw [← hW1,← hz];exact Blk.new _ _ _
 have HW1:=Lib.hid hW1
 clear hr hsz hW1 hz h0
 have hws:wordB.size=4:=rfl
 generalize wordB=d at *
 go_enter Tryz.func29,Tryz.ntmps29
 go_wp2_with fail
 rw [HW1.out]
 refine (CL.out _ B1.out).mono ?_
 rintro e w2 ⟨v2,rfl,own2,hb2⟩
 obtain ⟨g,cap,rfl⟩:=Go.Joins.ownsRow_form own2 (by decide)
 have hg:=own2.lt g rfl
 obtain ⟨w3,hw3⟩:∃ w3,w2.alloc (.cells #[.slice (some ⟨g,0,none⟩) 2 cap] 24)=w3:=⟨_,rfl⟩
 have hz1:=B1.out.size
 have hxd:=XD.out.lt
 have hz2:=hb2.size
 have hb3:Below W1.heap.size W1 w3:=hw3▸hb2.alloc hz2 _
 have B3:=Lib.hid (B1.out.trans (hb3.mono hz1))
 have XP3:=Lib.hid (XP.out.below hb3 XP.out.lt)
 have XD3:=Lib.hid (XD.out.below hb3 XD.out.lt)
 have XL3:Hid (Blk w3 w2.heap.size 24 #[.slice (some ⟨g,0,none⟩) 2 cap]):=hw3▸Blk.new w2 _ _
 have O3:Hid (w3.ownsRow w.heap.size 9 1 (.slice (some ⟨g,0,none⟩) 2 cap) 2 [.string zeroP,.string zeroP]):=own_base (hw3▸own_below own2 ((Below.refl _ _).alloc (Nat.le_refl _) _)) hz1
 have CQ:=CP.out w2.heap.size (w.heap.size+1) g cap w.heap.size w3 B3.out.size ((HR.out.below B3.out).mono B3.out.size) XL3.out XD3.out O3.out (by omega) (by omega) (by omega) (by omega)
 have CQ:=Lib.hid CQ
 have x1:=XD3.out.cell 0 rfl
 clear hg hz1 hxd hz2 hb3 hb2 own2 CP CL XP XD HW1 B1
 go_wp2_with (refine load_blk 76 (.tmp 5) w.heap.size 76 lp _ rfl rfl rfl XP3.out Tryz.underlying76 rfl HSZ.out ?_;go_frame)
 refine CQ.out.mono ?_
 rintro e w4 ⟨rfl,⟨h5,h6⟩,hb4⟩
 have x2:=h5.cell 0 rfl
 have O4:=Lib.hid h6
 have B4:=Lib.hid (B3.out.trans hb4)
 clear h5 h6 hb4 CQ x1
 go_wp2
 go_ret2
 exact ⟨⟨_,rfl,O4.out⟩,B4.out⟩
end Go.Proofs.YtdldlendppkknaaGreatDoor
