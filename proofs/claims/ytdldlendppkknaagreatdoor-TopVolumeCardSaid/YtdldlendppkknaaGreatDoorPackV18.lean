/-
  Contracts and plain laws: AttC, Shelf2, Search, DirD, ExtRd.
-/
import Derived.Shelf.Small.Strs
import Derived.Shelf.Small.Wraps
import Derived.Shelf.Strings.LastIndex
import Derived.Shelf.SlSorted.Search
import Derived.Test.YtdldlendppkknaaGreatDoorPackV17
namespace Go.Proofs.YtdldlendppkknaaGreatDoor
open Go.RowKit
set_option linter.unusedVariables false
set_option linter.unusedSimpArgs false
set_option maxRecDepth 100000
theorem and_127:∀ c:Nat,c<128→bits BinOp.and IntKind.u8 (c:Int) 127=(c:Int):=by decide
theorem or_0:∀ c:Nat,c<128→bits BinOp.or IntKind.i64 0 (c:Int)=(c:Int):=by decide
theorem wrap_128 (c:Nat) (h:c<128):wrap64 (c:Int)=(c:Int):=by
 unfold wrap64
 omega
set_option maxHeartbeats 400000 in
theorem length_any (s:ByteArray) (c:Nat) (w:World) (hs:s.size≤140737488355328) (h0:0<s.size) (hc:∀ h:0<s.size,(s[0].toNat)=c) (h7:c<128) :
  Calls Tryz.prog 218 #[.string s] w fun e w'=>e=.returned (.tuple #[.int .i64 c,.int .i64 1,.int .i64 0])∧w'=w:=by
 have o1:=hc h0
 have i0:(0:Int)<(s.size:Int):=by omega
 have n1:¬ (128:Int)≤(c:Int):=by omega
 have a1:=and_127 c h7
 have a2:=or_0 c h7
 have a3:=wrap_128 c h7
 clear hc
 rcases Nat.eq_zero_or_pos c with rfl | hp
 ·have z1:bits BinOp.and IntKind.u8 0 127=0:=by decide
  have z2:bits BinOp.or IntKind.i64 0 0=0:=by decide
  have z3:wrap64 0=0:=wrap_128 0 (by decide)
  go_enter Tryz.func218,Tryz.ntmps218
  go_wp2
  go_loopw [5,10] (fun n i wr=>n=.int .i64 0∧i=.int .i64 0∧w=wr) (fun _ _ _=>0)
  case atStart=>exact ⟨rfl,rfl,rfl⟩
  case round=>
   obtain ⟨rfl,rfl,rfl⟩:=hrel
   go_wp2
   go_ret3
   exact ⟨rfl,rfl⟩
 ·have nz:((c:Int) == 0)=false:=by simpa using (by omega:¬ (c:Int)=0)
  clear hp
  go_enter Tryz.func218,Tryz.ntmps218
  go_wp2
  go_loopw [5,10] (fun n i wr=>n=.int .i64 0∧i=.int .i64 0∧w=wr) (fun _ _ _=>0)
  case atStart=>exact ⟨rfl,rfl,rfl⟩
  case round=>
   obtain ⟨rfl,rfl,rfl⟩:=hrel
   go_wp2
   go_ret3
   exact ⟨rfl,rfl⟩
theorem head_byte {s:ByteArray} {c:UInt8} {r:List UInt8} (h:s.data.toList=c::r) (h0:0<s.size):s[0].toNat=c.toNat:=by
 have:s.data.toList[0]?=some c:=by rw [h];rfl
 have hd:s.data.size=s.size:=rfl
 rw [Array.getElem?_toList,Array.getElem?_eq_getElem (by omega)] at this
 have e:s.data[0]=c:=Option.some.inj this
 show (s.data[0]).toNat=c.toNat
 rw [e]
set_option maxHeartbeats 4000000 in
theorem texts_any (s:ByteArray) (ts:List ByteArray) (w:World) (hs:s.data.toList=rowT ts) (hl:ts.length≤1000) (hn:∀ t ∈ ts,t.size≤127) :
  Calls Tryz.prog 184 #[.string s] w (RowCode ts 0 w):=by
 obtain ⟨i0,q1,q2,q3,q4⟩:=info_parts str_info
 have I0:=Lib.hid (And.intro q1 (And.intro q2 (And.intro q3 q4)))
 have HL:Hid (ts.length≤1000):=hl
 have HN:=Lib.hid hn
 have HB0:Hid (s.data.toList=rowT (ts.drop 0)):=hs
 have O0:Hid (w.ownsRow w.heap.size 9 1 (.slice none 0 0) 0 ((ts.take 0).map .string)):=World.ownsRow_nil _ _ _ _
 have HBL:=Lib.hid (Below.refl w.heap.size w)
 clear q1 q2 q3 q4 hs hn hl
 go_enter Tryz.func184,Tryz.ntmps184
 go_wp2
 go_loopw [0,4] (fun t v wr=>∃ (k:Nat) (s:ByteArray),k≤ts.length∧t=.string s∧Hid (s.data.toList=rowT (ts.drop k))∧Hid (wr.ownsRow w.heap.size 9 1 v k ((ts.take k).map .string))∧Hid (Below w.heap.size w wr)) (fun t _ _=>strSz t)
 case atStart=>exact ⟨0,s,Nat.zero_le _,rfl,HB0,O0,HBL⟩
 case round=>
  clear HB0 O0 HBL
  obtain ⟨k,s,hk,rfl,HS,O,B⟩:=hrel
  by_cases hlt:k<ts.length
  ·have hdr:ts.drop k=ts[k]::ts.drop (k+1):=List.drop_eq_getElem_cons hlt
   have h1:=HN.out _ (List.getElem_mem hlt)
   have hs:=HS.out
   have htk:(ts.take k).map Value.string++[Value.string ts[k]]=(ts.take (k+1)).map .string:=by rw [List.take_succ_eq_append_getElem hlt,List.map_append];rfl
   rw [hdr,rowT_cons] at hs
   generalize ts[k]=x at *
   have hsz:s.size=1+x.size+(rowT (ts.drop (k+1))).length:=by
    rw [← dsize,hs,List.length_cons,List.length_append,dsize];omega
   have hc:∀ h:0<s.size,s[0].toNat=x.size:=fun h=>by rw [head_byte hs h];simp;omega
   have hrt:(rowT (ts.drop (k+1))).length≤128000:=by
    have:=rowT_le (ts.drop (k+1)) fun t ht=>HN.out t (List.mem_of_mem_drop ht)
    rw [List.length_drop] at this
    have:=HL.out
    omega
   have CL:=Lib.hid (fun w=>length_any s x.size w (by omega) (by omega) hc (by omega))
   have HTK:=Lib.hid htk
   obtain ⟨s1,hs1⟩:∃ s1,s.extract 1 s.size=s1:=⟨_,rfl⟩
   have d1:s1.data.toList=x.data.toList++rowT (ts.drop (k+1)):=by
    rw [← hs1,ext_list,hs]
    rw [List.drop_succ_cons,List.drop_zero,List.take_of_length_le (by rw [List.length_append,dsize];omega)]
   have z1:s1.size=x.size+(rowT (ts.drop (k+1))).length:=by rw [← dsize,d1,List.length_append,dsize]
   have e0:s1.extract 0 x.size=x:=by
    apply WideShapes.bytes_inj
    rw [ext_list,d1,List.drop_zero,Nat.sub_zero,List.take_left' (dsize x)]
   obtain ⟨s2,hs2⟩:∃ s2,s1.extract x.size s1.size=s2:=⟨_,rfl⟩
   have d2:Hid (s2.data.toList=rowT (ts.drop (k+1))):=by
    show _=_
    rw [← hs2,ext_list,d1,List.drop_left' (dsize x),List.take_of_length_le (by omega)]
   have HZ:Hid (s2.size<s.size):=by show _<_;rw [← dsize s2,d2.out];omega
   have i1:(0:Int)<(s.size:Int):=by omega
   have i2:(1:Int)≤(s.size:Int):=by omega
   have i3:¬ (s1.size:Int)<(x.size:Int):=by omega
   have i4:(x.size:Int)≤(s1.size:Int):=by omega
   have HM7:Hid (k+1≤maxLen):=by show _≤_;have:=HL.out;unfold maxLen;omega
   have HY7:Hid ((k+1) * 16≤140737488355328):=by show _≤_;have:=HL.out;omega
   have O7:Hid ((wr.alloc (.cells #[.string x] 9)).ownsRow w.heap.size 9 1 _ k ((ts.take k).map .string)):=World.ownsRow.alloc O.out _
   have B7:=Lib.hid (B.out.alloc B.out.size (.cells #[.string x] 9))
   have HC7:Hid (∀ j u,[Value.string x][j]?=some u→(wr.alloc (.cells #[.string x] 9)).cell? ((⟨wr.heap.size,0,none⟩:Addr).add j)=some u):=fun j u hu=>by
    have hB:=Blk.new wr 9 #[.string x]
    rw [add_zero_addr,Nat.zero_add]
    exact hB.cell j (by simpa using hu)
   have H17:Hid (∀ u ∈ [Value.string x],u.oneCell'=true):=fun u hu=>by
    rcases List.mem_cons.1 hu with rfl | hu
    ·rfl
    ·cases hu
   clear hs hsz hc hrt htk d1 h1 hdr z1
   go_wp2_with fail
   refine (CL.out _).mono ?_
   rintro e' w2 ⟨rfl,rfl⟩
   clear CL
   go_wp2_with (at_builtin;refine wpList_append_own _ rfl (.tmp 27) (.tmp 31) 24 rfl w.heap.size 9 i0 (.string ⟨#[]⟩) 1 16 Tryz.underlying24 I0.out.1 I0.out.2.1 I0.out.2.2.1 I0.out.2.2.2 rfl (by decide) _ k ((ts.take k).map .string) rfl O7.out ⟨w2.heap.size,0,none⟩ 1 1 [.string x] rfl rfl HC7.out H17.out HM7.out HY7.out B7.out.size ?_;intro v9 w9 own hg hv;have O9:Hid (w9.ownsRow w.heap.size 9 1 v9 (k+1) ((ts.take (k+1)).map .string)):=HTK.out▸own;have B9:=Lib.hid (B7.out.grown hg B7.out.size (fun j e=>(O7.out.lt j e).1));clear own hg hv)
   go_roundw
   case rel=>exact ⟨k+1,_,by omega,rfl,d2,O9,B9⟩
   case measure=>exact HZ.out
  ·obtain rfl:k=ts.length:=by omega
   have hz:s.size=0:=by rw [← dsize,HS.out,List.drop_length];rfl
   have i1:¬ (0:Int)<(s.size:Int):=by omega
   have HT:Hid (ts.take ts.length=ts):=List.take_length
   rw [HT.out] at O
   go_wp2
   go_ret2
   exact ⟨⟨_,rfl,O.out⟩,B.out⟩
end Go.Proofs.YtdldlendppkknaaGreatDoor
namespace Go.Proofs
open Go.Shelf
def Tryz.lays106_ren:Go.Shelf.Ren:=⟨fun | 106=>112 | 213=>180 | 265=>216 | n=>n,fun | 9=>9 | 3=>3 | n=>n,fun | n=>n⟩
theorem Tryz.lays106:Go.Proofs.Lays.n106 Tryz.prog Tryz.lays106_ren:={
 mixed:=by kernel_rfl
 f106:=Tryz.func112.trans (congrArg some (by kernel_rfl))
 f213:=Tryz.func180.trans (congrArg some (by kernel_rfl))
 f265:=Tryz.func216.trans (congrArg some (by kernel_rfl))
 t3:=Tryz.underlying3
 a3:=Tryz.isAgg3
 z3:=Tryz.sizeOf3
 v3:=Tryz.zeroValue3
 t9:=Tryz.underlying9
 a9:=Tryz.isAgg9
 z9:=Tryz.sizeOf9
 v9:=Tryz.zeroValue9 }
open Go.RowKit in
theorem Tryz.strings_Compare (a b:ByteArray) (w:World) :
  Calls Tryz.prog 112 #[.string a,.string b] w fun e w'=>e=.returned (.int .i64 (Lib.compareBytes a.data.toList b.data.toList))∧w'=w:=Any.strings_Compare Tryz.lays106 a b w
def Tryz.lays137_ren:Go.Shelf.Ren:=⟨fun | 137=>97 | 217=>166 | 266=>201 | n=>n,fun | 9=>9 | 5=>5 | 3=>3 | n=>n,fun | n=>n⟩
theorem Tryz.lays137:Go.Proofs.Lays.n137 Tryz.prog Tryz.lays137_ren:={
 mixed:=by kernel_rfl
 f137:=Tryz.func97.trans (congrArg some (by kernel_rfl))
 f217:=Tryz.func166.trans (congrArg some (by kernel_rfl))
 f266:=Tryz.func201.trans (congrArg some (by kernel_rfl))
 t3:=Tryz.underlying3
 a3:=Tryz.isAgg3
 z3:=Tryz.sizeOf3
 v3:=Tryz.zeroValue3
 t5:=Tryz.underlying5
 a5:=Tryz.isAgg5
 z5:=Tryz.sizeOf5
 v5:=Tryz.zeroValue5
 t9:=Tryz.underlying9
 a9:=Tryz.isAgg9
 z9:=Tryz.sizeOf9
 v9:=Tryz.zeroValue9 }
open Go.RowKit in
theorem Tryz.strings_IndexByte (s:ByteArray) (c:Int) (w:World) :
  Calls Tryz.prog 97 #[.string s,.int .u8 c] w fun e w'=>e=.returned (.int .i64 (Lib.indexByte s.data.toList c.toNat.toUInt8))∧w'=w:=Any.strings_IndexByte Tryz.lays137 s c w
def Tryz.lays149_ren:Go.Shelf.Ren:=⟨fun | 149=>124 | 222=>186 | n=>n,fun | 9=>9 | 5=>5 | 3=>3 | 4=>4 | n=>n,fun | n=>n⟩
theorem Tryz.lays149:Go.Proofs.Lays.n149 Tryz.prog Tryz.lays149_ren:={
 mixed:=by kernel_rfl
 f149:=Tryz.func124.trans (congrArg some (by kernel_rfl))
 f222:=Tryz.func186.trans (congrArg some (by kernel_rfl))
 t3:=Tryz.underlying3
 a3:=Tryz.isAgg3
 z3:=Tryz.sizeOf3
 v3:=Tryz.zeroValue3
 t4:=Tryz.underlying4
 a4:=Tryz.isAgg4
 z4:=Tryz.sizeOf4
 v4:=Tryz.zeroValue4
 t5:=Tryz.underlying5
 a5:=Tryz.isAgg5
 z5:=Tryz.sizeOf5
 v5:=Tryz.zeroValue5
 t9:=Tryz.underlying9
 a9:=Tryz.isAgg9
 z9:=Tryz.sizeOf9
 v9:=Tryz.zeroValue9 }
open Go.RowKit Go.Lib in
theorem Tryz.strings_LastIndexByte (s:ByteArray) (c:Int) (hs:s.size<4611686018427387904) (w:World) :
  Calls Tryz.prog 124 #[.string s,.int .u8 c] w fun e w'=>e=.returned (.int .i64 (Lib.lastIndexByte s c))∧w'=w:=Any.strings_LastIndexByte Tryz.lays149 s c hs w
def Tryz.lays99_ren:Go.Shelf.Ren:=⟨fun | 99=>89 | 206=>163 | n=>n,fun | 9=>9 | 4=>4 | 3=>3 | n=>n,fun | n=>n⟩
theorem Tryz.lays99:Go.Proofs.Lays.n99 Tryz.prog Tryz.lays99_ren:={
 mixed:=by kernel_rfl
 f99:=Tryz.func89.trans (congrArg some (by kernel_rfl))
 f206:=Tryz.func163.trans (congrArg some (by kernel_rfl))
 t3:=Tryz.underlying3
 a3:=Tryz.isAgg3
 z3:=Tryz.sizeOf3
 v3:=Tryz.zeroValue3
 t4:=Tryz.underlying4
 a4:=Tryz.isAgg4
 z4:=Tryz.sizeOf4
 v4:=Tryz.zeroValue4
 t9:=Tryz.underlying9
 a9:=Tryz.isAgg9
 z9:=Tryz.sizeOf9
 v9:=Tryz.zeroValue9 }
open Go.RowKit Go.Lib in
theorem Tryz.strings_HasPrefix (s p:ByteArray) (w:World) :
  Calls Tryz.prog 89 #[.string s,.string p] w fun e w'=>e=.returned (.bool (Lib.hasPrefix s.data.toList p.data.toList))∧w'=w:=Any.strings_HasPrefix Tryz.lays99 s p w
def Tryz.lays101_ren:Go.Shelf.Ren:=⟨fun | 101=>96 | 208=>165 | 206=>163 | n=>n,fun | 9=>9 | 4=>4 | 3=>3 | n=>n,fun | n=>n⟩
theorem Tryz.lays101:Go.Proofs.Lays.n101 Tryz.prog Tryz.lays101_ren:={
 mixed:=by kernel_rfl
 f101:=Tryz.func96.trans (congrArg some (by kernel_rfl))
 f206:=Tryz.func163.trans (congrArg some (by kernel_rfl))
 f208:=Tryz.func165.trans (congrArg some (by kernel_rfl))
 t3:=Tryz.underlying3
 a3:=Tryz.isAgg3
 z3:=Tryz.sizeOf3
 v3:=Tryz.zeroValue3
 t4:=Tryz.underlying4
 a4:=Tryz.isAgg4
 z4:=Tryz.sizeOf4
 v4:=Tryz.zeroValue4
 t9:=Tryz.underlying9
 a9:=Tryz.isAgg9
 z9:=Tryz.sizeOf9
 v9:=Tryz.zeroValue9 }
open Go.RowKit Go.Lib in
theorem Tryz.strings_TrimPrefix (s p:ByteArray) (w:World) :
  Calls Tryz.prog 96 #[.string s,.string p] w fun e w'=>e=.returned (.string ⟨(Lib.trimPrefix s.data.toList p.data.toList).toArray⟩)∧w'=w:=Any.strings_TrimPrefix Tryz.lays101 s p w
open Go.Shelf Go.RowKit Go.Lib Go.Sort
def Tryz.laysSearch_ren:Go.Shelf.Ren:=⟨fun | 16=>167 | n=>n,fun | 3=>3 | 4=>4 | 35=>118 | 38=>82 | n=>n,fun | n=>n⟩
theorem Tryz.laysSearch:SlLaysO.n16 Tryz.prog Tryz.laysSearch_ren:={
 mixed:=by kernel_rfl
 f16:=Tryz.func167.trans (congrArg some (by kernel_rfl))
 t3:=Tryz.underlying3
 a3:=Tryz.isAgg3
 z3:=Tryz.sizeOf3
 v3:=Tryz.zeroValue3
 t4:=Tryz.underlying4
 a4:=Tryz.isAgg4
 z4:=Tryz.sizeOf4
 v4:=Tryz.zeroValue4
 t35:=Tryz.underlying118
 a35:=Tryz.isAgg118
 z35:=Tryz.sizeOf118
 v35:=Tryz.zeroValue118
 t38:=Tryz.underlying82
 a38:=Tryz.isAgg82
 z38:=Tryz.sizeOf82
 v38:=Tryz.zeroValue82 }
theorem Tryz.sort_Search (g:FuncId) (cb:Array Value) (n:Nat) (p:Nat→Bool) (w:World) (eg:∀ args w,(callFunc g args).run Tryz.prog w=.ok (.enter g args) w) (hsz:n<4611686018427387904)
  (hf:∀ (m:Nat) (os:Array Obj) (i:Nat),i<n→Calls Tryz.prog g (#[.int .i64 i]++cb) (grow (w.drewN m) os) fun e w'=>e=.returned (.bool (p i))∧∃ q os',w'=grow ((grow (w.drewN m) os).drewN q) os')
  (hmono:∀ a b,a≤b→b<n→p a=true→p b=true) :
  Calls Tryz.prog 167 #[.int .i64 n,.func (.func g) #[] cb] w fun e w'=>e=.returned (.int .i64 ((List.range n).countP (fun i=>!p i):Nat))∧∃ q os,w'=grow (w.drewN q) os:=Any.sort_Search Tryz.laysSearch g cb n p w eg hsz hf hmono
end Go.Proofs
namespace Go.Proofs.YtdldlendppkknaaGreatDoor
open Go.RowKit Go.Sort Go.Shelf
set_option linter.unusedVariables false
set_option linter.unusedSimpArgs false
set_option maxRecDepth 100000
theorem below_grow {B:Nat} {w:World} (q:Nat) (os:Array Obj) (h:B≤w.heap.size):Below B w (grow (w.drewN q) os):=
 ⟨rfl,rfl,rfl,by simp [grow,World.drewN],fun k hk=>by
  have:k<(w.drewN q).heap.size:=Nat.lt_of_lt_of_le hk h
  exact heap_grow_old _ _ this⟩
theorem count_at (l:List EntV) (nm:ByteArray):((List.range l.length).countP fun i=>ltB (l.getD i ⟨⟨#[]⟩,0⟩).name nm)=atE l nm:=by
 have e:l=(List.range l.length).map fun i=>l.getD i ⟨⟨#[]⟩,0⟩:=by
  apply List.ext_getElem?
  intro i
  by_cases hi:i<l.length
  ·rw [List.getElem?_map,List.getElem?_range hi,Option.map_some,List.getD_eq_getElem?_getD,List.getElem?_eq_getElem hi];rfl
  ·rw [List.getElem?_eq_none (by omega),List.getElem?_eq_none (by simp;omega)]
 unfold atE
 conv=>rhs;rw [e,List.countP_map]
 rfl
set_option maxHeartbeats 2000000 in
theorem closure_any (ba bx b o n c:Nat) (s nm:ByteArray) (i:Nat) (w:World) (hi:i<n) (h1:w.cell? ⟨ba,0,none⟩=some (.slice (some ⟨b,o,none⟩) n c)) (h2:w.cell? ⟨bx,0,none⟩=some (.string nm)) (h3:w.cell? ⟨b,o+i * 2,none⟩=some (.string s)) :
  Calls Tryz.prog 168 (#[.int .i64 i]++#[.pointer (some ⟨ba,0,none⟩),.pointer (some ⟨bx,0,none⟩)]) w fun e w'=>e=.returned (.bool (!ltB s nm))∧∃ q,w'=w.drewN q:=by
 have i1:(i:Int)<(n:Int):=by omega
 have i2:(0:Int)≤(i:Int):=by omega
 cases hl:ltB s nm with
 | false=>
  have l1:Op.bytesLess s.toList nm.toList=false:=(less_walk s nm).trans hl
  clear hl
  go_enter Tryz.func168,Tryz.ntmps168
  go_wp2
  go_quiet (fail)
  go_wp2
  go_ret
  exact ⟨ret_bool (by simp),_,rfl⟩
 | true=>
  have l1:Op.bytesLess s.toList nm.toList=true:=(less_walk s nm).trans hl
  clear hl
  go_enter Tryz.func168,Tryz.ntmps168
  go_wp2
  go_quiet (fail)
  go_wp2
  go_ret
  exact ⟨ret_bool (by simp),_,rfl⟩
set_option maxHeartbeats 4000000 in
theorem search_any (A:Option Addr) (c:Nat) (l:List EntV) (nm:ByteArray) (w:World) (hl:l.length≤280) (hr:l.Pairwise fun x y=>ltB x.name y.name=true) (h:EntsAt w w.heap.size A l) :
  Calls Tryz.prog 98 #[.slice A l.length c,.string nm] w fun e w'=>e=.returned (.tuple #[.int .i64 (atE l nm:Nat),.bool (hasE l nm)])∧Below w.heap.size w w':=by
 obtain ⟨W0,hW0⟩:∃ W0,W0=(w.alloc (.cells #[.slice A l.length c] 123)).alloc (.cells #[.string nm] 9):=⟨_,rfl⟩
 have hsize:W0.heap.size=w.heap.size+1+1:=by rw [hW0];simp
 have hB0:Below w.heap.size w W0:=by rw [hW0];exact ((Below.refl _ w).alloc (Nat.le_refl _) _).alloc (by simp) _
 have ca:W0.cell? ⟨w.heap.size,0,none⟩=some (.slice A l.length c):=by
  rw [hW0]
  have b:=Blk.new w 123 #[.slice A l.length c]
  exact (b.below ((Below.refl _ _).alloc (Nat.le_refl _) _) b.lt).cell 0 rfl
 have cx:W0.cell? ⟨w.heap.size+1,0,none⟩=some (.string nm):=by
  rw [hW0]
  have:=(Blk.new (w.alloc (.cells #[.slice A l.length c] 123)) 9 #[.string nm]).cell 0 rfl
  rwa [World.size_alloc] at this
 have eg:∀ args w,(callFunc 168 args).run Tryz.prog w=.ok (.enter 168 args) w:=enters_of Tryz.func168 (by kernel_rfl) rfl
 have hcell:∀ i (hi:i<l.length),∃ b o,A=some ⟨b,o,none⟩∧b<w.heap.size∧w.cell? ⟨b,o+i * 2,none⟩=some (.string (l.getD i ⟨⟨#[]⟩,0⟩).name):=fun i hi=>by
  obtain ⟨b,o,hA,hb,hc⟩:=h.get hi
  refine ⟨b,o,hA,hb,?_⟩
  rw [List.getD_eq_getElem?_getD,List.getElem?_eq_getElem hi]
  exact hc 0 _ rfl
 have hS:=Tryz.sort_Search 168 #[.pointer (some ⟨w.heap.size,0,none⟩),.pointer (some ⟨w.heap.size+1,0,none⟩)] l.length (fun i=>!ltB (l.getD i ⟨⟨#[]⟩,0⟩).name nm) W0 eg (by omega)
  (fun m os i hi=>by
   obtain ⟨b,o,rfl,hb,hc⟩:=hcell i hi
   have hg:=below_grow m os (Nat.le_refl W0.heap.size)
   exact (closure_any w.heap.size (w.heap.size+1) b o l.length c _ nm i _ hi (hg.cell (by simp [hsize];omega) |>.trans ca) (hg.cell (by simp [hsize]) |>.trans cx) ((hB0.trans (hg.mono hB0.size)).cell hb |>.trans hc)).mono fun _ _ ⟨he,q,hq⟩=>⟨he,q,#[],by rw [hq,grow_empty]⟩)
  (fun a b hab hb h=>by
   have ha:a<l.length:=by omega
   have ga:l.getD a ⟨⟨#[]⟩,0⟩=l[a]:=by rw [List.getD_eq_getElem?_getD,List.getElem?_eq_getElem ha];rfl
   have gb:l.getD b ⟨⟨#[]⟩,0⟩=l[b]:=by rw [List.getD_eq_getElem?_getD,List.getElem?_eq_getElem hb];rfl
   rw [ga,at_below hr a ha] at h
   rw [gb,at_below hr b hb]
   simp at h ⊢
   omega)
 simp only [Bool.not_not] at hS
 rw [count_at] at hS
 have hat:=atE_le l nm
 have hhas:=at_has (nm:=nm) hr
 generalize hk:atE l nm=k at *
 have HS:=Lib.hid hS
 have HW:=Lib.hid hW0
 have HB0:=Lib.hid hB0
 have HB1:=Lib.hid (fun q os=>hB0.trans ((below_grow q os (Nat.le_refl W0.heap.size)).mono hB0.size))
 have CA:=Lib.hid (fun q os=>((below_grow q os (Nat.le_refl W0.heap.size)).cell (p:=⟨w.heap.size,0,none⟩) (by simp [hsize];omega)).trans ca)
 have CX:=Lib.hid (fun q os=>((below_grow q os (Nat.le_refl W0.heap.size)).cell (p:=⟨w.heap.size+1,0,none⟩) (by simp [hsize])).trans cx)
 by_cases hlt:k<l.length
 ·obtain ⟨b,o,rfl,hb,hc⟩:=hcell k hlt
  have gk:l.getD k ⟨⟨#[]⟩,0⟩=l[k]:=by rw [List.getD_eq_getElem?_getD,List.getElem?_eq_getElem hlt];rfl
  rw [gk] at hc
  have HC:=Lib.hid (fun q os=>((HB1.out q os).cell (p:=⟨b,o+k * 2,none⟩) hb).trans hc)
  have HH:Hid (hasE l nm=decide (l[k].name=nm)):=by
   show _=_
   rw [Bool.eq_iff_iff,hhas,decide_eq_true_iff]
   exact ⟨fun ⟨_,h⟩=>h,fun h=>⟨hlt,h⟩⟩
  generalize hasE l nm=r at *
  generalize l[k].name=s at *
  have k1:(k:Int)<(l.length:Int):=by omega
  have k2:(0:Int)≤(k:Int):=by omega
  have k3:decide ((k:Int)<(l.length:Int))=true:=decide_eq_true k1
  have k4:decide (k<l.length)=true:=decide_eq_true hlt
  clear hS hW0 hB0 ca cx hcell hk hhas hc gk h hr eg hsize
  by_cases he:s=nm
  ·have e1:(s.toList == nm.toList)=true:=by rw [he];simp
   have e2:r=true:=by rw [HH.out,he];simp
   subst e2
   clear HH he
   go_enter Tryz.func98,Tryz.ntmps98
   go_wp2_with (go_at_call 167;rw [← HW.out];refine HS.out.mono ?_;rintro e w' ⟨rfl,q,os,rfl⟩;have B1:=Lib.hid (HB1.out q os);have ca:=CA.out q os;have cx:=CX.out q os;have hc:=HC.out q os;generalize grow _ _=w1 at *)
   go_quiet (fail)
   go_wp2
   go_ret2
   exact ⟨rfl,below_drewN B1.out _⟩
  ·have e1:(s.toList == nm.toList)=false:=by simpa using str_ne he
   have e2:r=false:=by rw [HH.out];simp [he]
   subst e2
   clear HH he
   go_enter Tryz.func98,Tryz.ntmps98
   go_wp2_with (go_at_call 167;rw [← HW.out];refine HS.out.mono ?_;rintro e w' ⟨rfl,q,os,rfl⟩;have B1:=Lib.hid (HB1.out q os);have ca:=CA.out q os;have cx:=CX.out q os;have hc:=HC.out q os;generalize grow _ _=w1 at *)
   go_quiet (fail)
   go_wp2
   go_ret2
   exact ⟨rfl,below_drewN B1.out _⟩
 ·have HH:hasE l nm=false:=by
   cases h:hasE l nm with
   | false=>rfl
   | true=>exact absurd (hhas.1 h).1 hlt
  rw [HH]
  have k1:¬ (k:Int)<(l.length:Int):=by omega
  have k3:decide ((k:Int)<(l.length:Int))=false:=decide_eq_false k1
  have k4:decide (k<l.length)=false:=decide_eq_false hlt
  clear hS hW0 hB0 ca cx hcell hk hhas h hr eg hsize HH
  go_enter Tryz.func98,Tryz.ntmps98
  go_wp2_with (go_at_call 167;rw [← HW.out];refine HS.out.mono ?_;rintro e w' ⟨rfl,q,os,rfl⟩;have B1:=Lib.hid (HB1.out q os);have ca:=CA.out q os;have cx:=CX.out q os;generalize grow _ _=w1 at *)
  go_quiet (fail)
  go_wp2
  go_ret2
  exact ⟨rfl,below_drewN B1.out _⟩
open Go.RowKit Go.Shelf
attribute [local go_sem] Oper.semAt_some
def ReadPost (o:List UInt8 × Int) (w:World) (e:Ending) (w':World):Prop:=e=.returned (.tuple #[.string ⟨o.1.toArray⟩,.int .i64 o.2])∧Below w.heap.size w w'
theorem string_k (B b:Nat) (l:List UInt8) (w:World) (h:Lib.IsBuilderF 172 5 B b (Lib.byteCells l) w) (hBw:B≤w.heap.size) :
  Calls Tryz.prog 102 #[.pointer (some ⟨b,0,none⟩)] w fun e w'=>e=.returned (.string ⟨l.toArray⟩)∧(Lib.IsBuilderF 172 5 B b (Lib.byteCells l) w'∧Below B w w'∧Lib.OthersKept 5 (some b) w w'):=
 Any.Builder_String_any_k Tryz.lays169 Tryz.Builder_Extra_169 B b l w h hBw
set_option maxHeartbeats 8000000 in
theorem read_less (A:Option Addr) (c:Nat) (xs:List ByteArray) (n:Int) (off:Nat) (size:Int) (w:World) (hx:xs.length≤1000000) (h:RowAt w w.heap.size A (xs.map .string)) (h0:inoE xs n=0) (hs0:0≤size)
  (hof:off<sizeX (getR xs n)) (hsz:size<(sizeX (getR xs n):Int)-(off:Int)) :
  Calls Tryz.prog 41 #[.slice A xs.length c,.int .i64 n,.int .i64 (off:Int),.int .i64 size] w (ReadPost (readO xs n (off:Int) size) w):=by
 have R0:=Lib.hid ((h.below ((Below.refl w.heap.size w).alloc (Nat.le_refl _) (.cells #[.int .i64 (off:Int)] 3))).mono (show w.heap.size≤(w.alloc (.cells #[.int .i64 (off:Int)] 3)).heap.size by simp))
 have CO:=Lib.hid (opened_any A c xs n _ hx R0.out)
 unfold OpenPost at CO
 simp only [if_pos h0] at CO
 obtain ⟨m,k,hv,rfl,hk1,hk2,hk3⟩:=inoE_ok h0
 have hvl:=hv.len
 have HO:Hid (∀ B g w2 gv c,B≤g→Blk w2 g 112 (fileC (.slice (some ⟨gv,0,none⟩) xs.length c) xs.length (mO xs) (k:Int).toNat (getR xs (k:Int)))→w2.ownsRow B 9 1 (.slice (some ⟨gv,0,none⟩) xs.length c) xs.length (xs.map .string)→FileX B w2 g m k xs (getR xs (k:Int))):=fun B g w2 gv c a b c'=>by
  have hfit:FitN (getR xs (k:Int)):=by rw [getR_vol hv hk1 hk2];exact inoR_fit _ _
  rw [mO_vol hv,Int.toNat_natCast] at b
  exact ⟨gv,c,a,b,c',hv,hfit,hk1,hk2⟩
 have HLL:Hid (∀ sl,(fileC sl xs.length (mO xs) (k:Int).toNat (getR xs (k:Int))).size=20):=fun sl=>fileC_size _ _ _ _ _ (getR_len _ _)
 have hsx:=sizeX_le (getR xs (k:Int))
 have HBL128:Hid (∀ b,b<xs.length→(xs.getD b ⟨#[]⟩).size=128):=fun b hb=>hv.size b hb
 obtain ⟨en,hen⟩:∃ en,min (off+size.toNat) (sizeX (getR xs (k:Int)))=en:=⟨_,rfl⟩
 have HW0:Hid (readO xs (k:Int) (off:Int) size=(spanX xs m (getR xs (k:Int)) off en,0)):=by
  show _=_
  unfold readO readX
  rw [if_neg (by rw [h0];simp),if_neg (by omega),mO_vol hv,Int.toNat_natCast,hen]
 obtain ⟨cn,hcn⟩:∃ cn,needN en=cn:=⟨_,rfl⟩
 have he1:en≤8960:=by omega
 have he2:off≤en:=by omega
 have hc70:cn≤70:=by rw [← hcn];exact needN_le he1
 have hd1:decide ((off:Int)<0)=false:=by simp
 have hd2:decide (size<0)=false:=by simp;omega
 have hcd:((en:Int)+128-1) / 128=(cn:Int):=by rw [← hcn];unfold needN;omega
 have HEN:Hid (min en (128 * cn)=en):=by show _=_;rw [← hcn];unfold needN;omega
 have hen1:(off:Int)+size=(en:Int):=by omega
 have hlt1:size<(sizeX (getR xs (k:Int)):Int)-(off:Int):=hsz
 have CS:=Lib.hid (fun (B g:Nat) (w:World) (h:FileX B w g m k xs (getR xs (k:Int)))=>size_any w h)
 have HATX:Hid (∀ j,atX xs m (getR xs (k:Int)) j<xs.length):=fun j=>by
  unfold atX
  split
  ·rename_i hd;exact (datB_iff.1 hd).2
  ·omega
 clear h0 hk3 hv h hcn hen
 generalize hsxe:sizeX (getR xs (k:Int))=sx at *
 have HSXE:=Lib.hid hsxe
 clear hsxe CS
 refine (callsIn_wide (n:=4)).1 ?_
 refine callsIn_of_wp_marks Tryz.func41 rfl trivial ?_
 simp only [Tryz.ntmps41,List.size_toArray,List.length_cons,List.length_nil,Nat.reduceAdd,Nat.reduceSub,Array.replicate_succ,Array.replicate_zero,List.push_toArray,List.append_toArray,List.nil_append,List.cons_append]
 refine wpIn_wide.2 ?_
 have BB0:=Lib.hid ((Below.refl w.heap.size w).alloc (Nat.le_refl _) (.cells #[.int .i64 (off:Int)] 3))
 have FO0:=Lib.hid (Blk.new w 3 #[.int .i64 (off:Int)])
 go_wp2_with fail
 obtain ⟨w0,hw0⟩:∃ w0,w.alloc (.cells #[.int .i64 (off:Int)] 3)=w0:=⟨_,rfl⟩
 rw [hw0] at CO R0 BB0 FO0 ⊢
 clear hw0
 refine CO.out.mono ?_
 rintro e w1 ⟨hb1,gv,cv,rfl,ho⟩
 have FO1:=Lib.hid (FO0.out.below hb1 FO0.out.lt)
 have B1:=Lib.hid (BB0.out.trans (hb1.mono BB0.out.size))
 have O1:=Lib.hid (own_low ho BB0.out.size)
 have hz1:=B1.out.size
 clear hb1 ho CO FO0 BB0 R0
 go_wp2_with (refine store_blk 112 (.tmp 10) (.tmp 22) w1.heap.size 112 fileZ (fileC (.slice (some ⟨gv,0,none⟩) xs.length cv) xs.length (mO xs) (k:Int).toNat (getR xs (k:Int))) rfl rfl rfl rfl (Blk.new w1 _ _) (by rw [HLL.out];rfl) (by rw [HLL.out];kernel_rfl) (fileC_one _ _ _ _ _ _ _) ?_;intro w2 hr2 hg2;have FO2:=((FO1.out.alloc _).grown hg2 (by intro e;have:=FO1.out.lt;have:=Option.some.inj e;omega));have co2:=FO2.cell 0 rfl)
 have FX:Hid (FileX w.heap.size w2 w1.heap.size m k xs (getR xs (k:Int))):=HO.out _ _ _ gv cv hz1 hr2 (by
  refine (O1.out.alloc _).kept hg2 (.inr ?_)
  have:=own_ne (O1.out.alloc _) (Blk.new w1 112 fileZ) (by decide)
  intro e;exact this e.symm)
 have BW:Hid (Below w.heap.size w w2):=(B1.out.alloc hz1 _).grown hg2 (by simp;omega) (fun k e=>by cases e;exact hz1)
 have FO:=Lib.hid FO2
 have CS2:=Lib.hid (size_any _ FX.out)
 rw [HSXE.out] at CS2
 generalize hg:w1.heap.size=g at *
 generalize getR xs (k:Int)=l at *
 clear hr2 hg2 HO O1 B1 HLL hg hz1 FO2 FO1
 refine CS2.out.mono ?_
 rintro e w3 ⟨rfl,rfl⟩
 have G3:=Lib.hid (Blk.new w2 3 #[.int .i64 (sx:Int)])
 have I3:=(Below.refl w2.heap.size w2).alloc (Nat.le_refl _) (.cells #[.int .i64 (sx:Int)] 3)
 have F3:=Lib.hid (FX.out.below I3)
 have O3:=Lib.hid (FO.out.below I3 FO.out.lt)
 have B3:=Lib.hid (BW.out.alloc BW.out.size (.cells #[.int .i64 (sx:Int)] 3))
 have c3:=O3.out.cell 0 rfl
 have hlt0:w.heap.size<w2.heap.size:=FO.out.lt
 have v1:IntKind.i64.wrap ((sx:Int)-(off:Int))=(sx:Int)-(off:Int):=IntWalk.i64_in _ (by omega)
 have v2:¬ (sx:Int)≤(off:Int):=by omega
 have v3:decide (sx≤off)=false:=by simp;omega
 have v4:¬ sx≤off:=by omega
 clear I3
 go_wp2_with fail
 obtain ⟨W4,hW4⟩:∃ W4,((w2.alloc (.cells #[.int .i64 (en:Int)] 3)).alloc (.cells #[.pointer none,.slice none 0 0] 172))=W4:=⟨_,rfl⟩
 have I4:Below w2.heap.size w2 W4:=hW4▸((Below.refl _ _).alloc (Nat.le_refl _) _).alloc (by simp) _
 have FE4:Hid (Blk W4 w2.heap.size 3 #[.int .i64 (en:Int)]):=hW4▸(Blk.new w2 _ _).alloc _
 have FB4:Hid (Lib.IsBuilderF 172 5 w.heap.size (w2.heap.size+1) (Lib.byteCells []) W4):=by
  rw [← hW4]
  have:=builder_new w.heap.size (w2.alloc (.cells #[.int .i64 (en:Int)] 3)) (by rw [World.size_alloc];omega)
  rw [World.size_alloc] at this
  exact this
 have FO4:=Lib.hid (FO.out.below I4 FO.out.lt)
 have FX4:=Lib.hid (FX.out.below I4)
 have BW4:=Lib.hid (BW.out.trans (I4.mono BW.out.size))
 rw [hW4]
 clear hW4 I4 G3 F3 O3 B3 c3 FO FX BW co2 CS2
 refine (first_file (cn:Int) _ FX4.out).mono ?_
 rintro e w4 ⟨Bl,Bc,rfl,hbc,hlc,hbl,hbb,hb4⟩
 have H0:Hid (RdI w w.heap.size w2.heap.size (w2.heap.size+1) Bc g m k xs l off en (cn:Int) [] w4):=⟨builder_below FB4.out hb4,FX4.out.below hb4,FO4.out.below hb4 FO4.out.lt,FE4.out.below hb4 FE4.out.lt,hbb,BW4.out.trans (hb4.mono BW4.out.size)⟩
 have HBL:=Lib.hid hbl
 have HBB:=Lib.hid hbb
 have hz4:w.heap.size≤w4.heap.size:=H0.out.below.size
 clear hbl hbb hb4 FB4 FX4 FO4 FE4 BW4 hbc hlc
 generalize w2.heap.size=be at *
 generalize be+1=gb at *
 go_wp2_with fail
 refine (wpIn_wide (n:=4)).1 ?_
 apply wpIn_rangeFunc_ownG rfl (by omega) (gf:=121) (lb:=#[.pointer (some ⟨Bl,0,none⟩),.pointer (some ⟨Bc,0,none⟩)]) rfl trivial (enters_of Tryz.func121 (by kernel_rfl) rfl)
  (first_stops (atF xs m l) cn 3 hc70 (by omega) Bl Bc w4 HBL.out HBB.out)
  (fun h k=>h.trans k) (fun W l o o' _ ho hc _=>KeepB.putObj W l o o' ho hc) (Below.refl _ _) (fun _=>rfl)
  (fun pre W=>RdI w w.heap.size be gb Bc g m k xs l off en (cn:Int) pre W) (fun _ _ _=>False)
  (RdI.own hz4) (fun _ _ _ _ _ hs _ _=>hs) H0.out
 case hassign=>
  intro l x W K hK
  gi_wp2
  exact hK
 case hbody=>
  rintro ll pre x W hi hlt
  have HI:=Lib.hid hi
  have hle:=outF_len xs m l off en pre
  have u1:∀ u:Ext W,u.val.cell? ⟨w.heap.size,0,none⟩=some (.int .i64 (off:Int)):=fun u=>u.cell (HI.out.fo.cell 0 rfl)
  have u2:∀ u:Ext W,u.val.cell? ⟨be,0,none⟩=some (.int .i64 (en:Int)):=fun u=>u.cell (HI.out.fe.cell 0 rfl)
  have HXK:Hid (∃ j,x.1=j∧j<70):=⟨_,rfl,x.2⟩
  obtain ⟨j,hj,hj70⟩:=HXK.out
  have HJ:=Lib.hid hj
  have HAT:Hid (atF xs m l x.1=atI (atX xs m l j)):=by show _=_;rw [hj];rfl
  rw [HAT.out]
  rw [hj]
  obtain ⟨P,hP⟩:∃ P:Nat,off-128 * j=P:=⟨_,rfl⟩
  obtain ⟨Q,hQ⟩:∃ Q:Int,min ((en:Int)-(j:Int) * 128) 128=Q:=⟨_,rfl⟩
  have e1:max ((off:Int)-(j:Int) * 128) 0=(P:Int):=by omega
  have w1':IntKind.i64.wrap ((j:Int) * 128)=(j:Int) * 128:=IntWalk.i64_in _ (by omega)
  have w2':IntKind.i64.wrap ((off:Int)-(j:Int) * 128)=(off:Int)-(j:Int) * 128:=IntWalk.i64_in _ (by omega)
  have w3':IntKind.i64.wrap ((en:Int)-(j:Int) * 128)=(en:Int)-(j:Int) * 128:=IntWalk.i64_in _ (by omega)
  clear hi hj
  gi_wp2_with fail
  refine wpIn_round_ext (by kernel_rfl) (by kernel_rfl) (by kernel_rfl) ?_
  repeat (first
   | (go_big_quiet_want;refine quiet_max (.tmp 55) (.const (.int .i64 0)) 3 _ _ rfl rfl rfl ?_;rw [e1];go_frame;go_big_quiet_on)
   | (go_big_quiet_want;refine quiet_min (.tmp 60) (.const (.int .i64 128)) 3 _ _ rfl rfl rfl ?_;rw [hQ];go_frame;go_big_quiet_on)
   | go_big_quiet_step (fail))
  refine wpQuiet_nil ?_
  rintro _ ⟨u,rfl⟩
  have HI2:=Lib.hid (HI.out.later u.below)
  have S2:Hid (KeepsOthers W u.val):=keeps_below u.below
  have K2:Hid (KeepB Bc W u.val):=KeepB.below u.below
  generalize u.val=W2 at *
  clear u1 u2
  by_cases hQP:Q≤(P:Int)
  ·have HN:Hid (pieF xs m l off en j=[]):=pieF_none _ _ _ _ _ _ (by omega)
   gi_wp2
   refine ⟨S2.out.from _,K2.out,?_⟩
   have:=HI2.out
   exact ⟨by rw [outF_snoc,HJ.out,HN.out,List.append_nil];exact this.fb,this.ff,this.fo,this.fe,this.fc,this.below⟩
  ·obtain ⟨q,rfl⟩:=Int.eq_ofNat_of_zero_le (show 0≤Q by omega)
   have hq2:q≤128:=by omega
   have hqm:min en (128 * (j+1))=128 * j+q:=by omega
   have hqp:¬ q≤P:=by omega
   have HPS:=Lib.hid (pieF_some xs m l off en j P q hP hqm hq2 (fun hz=>by
    unfold blkL
    rw [Array.length_toList]
    exact HBL128.out _ (HATX.out j)))
   obtain ⟨z,hzq⟩:∃ z,q-P=z:=⟨_,rfl⟩
   rw [hzq] at HPS
   have v5:IntKind.i64.wrap ((q:Int)-(P:Int))=(z:Int):=by rw [show (q:Int)-(P:Int)=(z:Int) by omega];exact IntWalk.i64_in _ (by omega)
   have hz70:z≤128:=by omega
   clear hzq
   have hbl:(Lib.byteCells (outF xs m l off en pre)).length≤8960:=by rw [Lib.byteCells_length];omega
   have hsz2:=HI2.out.below.size
   clear hQ e1 w1' w2' w3' hqm
   by_cases hz:atX xs m l j=0
   ·have hv:atI (atX xs m l j) = -1:=by unfold atI;rw [if_pos hz]
    rw [if_pos hz] at HPS
    rw [hv]
    clear hv hz
    gi_wp2_with fail
    refine ⟨trivial,?_⟩
    refine (CallsIn.inRound ll (callsIn_wide.2 (Tryz.strings_Repeat ⟨#[0]⟩ z W2 (by omega) (by show 1 * z≤_;omega)))).mono ?_
    rw [repeat_zero z]
    rintro e w5 ⟨rfl,hb5⟩
    have HI5:=Lib.hid (HI2.out.later hb5)
    have S5:Hid (KeepsOthers W w5):=S2.out.trans (keeps_below hb5)
    have K5:Hid (KeepB Bc W w5):=K2.out.trans (KeepB.below hb5)
    have hsz5:=HI5.out.below.size
    clear hb5 HI2 S2 K2
    have hz128:(zerosB z).size=z:=by show (List.replicate z (0:UInt8)).toArray.size=z;simp
    have HZL:Hid ((zerosB z).data.toList=List.replicate z 0):=rfl
    have CW:=Lib.hid (Tryz.Builder_WriteString_k w.heap.size gb _ (zerosB z) w5 HI5.out.fb (by rw [hz128];omega) hsz5)
    clear hz128
    generalize zerosB z=zs at *
    gi_wp2_with fail
    refine ⟨trivial,?_⟩
    refine (CallsIn.inRound ll (callsIn_wide.2 CW.out)).mono ?_
    rintro e w6 ⟨rfl,hba,hbw,hok⟩
    obtain ⟨r1,r2,r3⟩:=HI5.out.wrote (x:=x) (s:=zs) (by rw [HJ.out,HPS.out,HZL.out]) hba hbw hok
    have R1:=Lib.hid r1
    have R2:=Lib.hid (S5.out.trans r2)
    have R3:=Lib.hid (K5.out.trans r3)
    clear r1 r2 r3 hba hbw hok CW HI5
    gi_wp2
    exact ⟨R2.out.from _,R3.out,R1.out⟩
   ·rw [if_neg hz] at HPS
    obtain ⟨b,hb⟩:∃ b,atX xs m l j=b:=⟨_,rfl⟩
    rw [hb] at hz
    have hv:atI (atX xs m l j)=(b:Int):=by unfold atI;rw [hb,if_neg hz]
    have hbx:b<xs.length:=by rw [← hb];exact HATX.out j
    rw [hb] at HPS
    rw [hv]
    obtain ⟨gv3,c3,hF3⟩:=HI2.out.ff
    have cv0:W2.cell? ⟨g,0,none⟩=some (.slice (some ⟨gv3,0,none⟩) xs.length c3):=hF3.blk.cell 0 rfl
    have cb:W2.cell? ⟨gv3,b,none⟩=some (.string (xs.getD b ⟨#[]⟩)):=by
     rw [hF3.own.cellAt b (by omega)]
     rw [List.getElem?_map,List.getD_eq_getElem?_getD,List.getElem?_eq_getElem hbx];rfl
    have hs128:=HBL128.out b hbx
    unfold blkL at HPS
    generalize xs.getD b ⟨#[]⟩=s at *
    have s1:(P:Int)≤(q:Int):=by omega
    have s2:(q:Int)≤(s.size:Int):=by omega
    have s3:(b:Int)<(xs.length:Int):=by omega
    have s4:¬ (b:Int) = -1:=by omega
    have s5:((b:Int) == -1)=false:=by simp
    have HXS:Hid ((s.extract P q).size≤128):=by show _≤_;rw [ByteArray.size_extract];omega
    have HXD:Hid ((s.data.toList.take q).drop P=(s.extract P q).data.toList):=by show _=_;rw [Lib.extract_data,List.drop_take]
    have CW:=Lib.hid (Tryz.Builder_WriteString_k w.heap.size gb _ (s.extract P q) W2 HI2.out.fb (by have:=HXS.out;omega) hsz2)
    clear hv hb hF3 hs128
    gi_wp2_with fail
    refine ⟨trivial,?_⟩
    refine (CallsIn.inRound ll (callsIn_wide.2 CW.out)).mono ?_
    rintro e w6 ⟨rfl,hba,hbw,hok⟩
    obtain ⟨r1,r2,r3⟩:=HI2.out.wrote (x:=x) (s:=s.extract P q) (by rw [HJ.out,HPS.out,HXD.out]) hba hbw hok
    have R1:=Lib.hid r1
    have R2:=Lib.hid (S2.out.trans r2)
    have R3:=Lib.hid (K2.out.trans r3)
    clear r1 r2 r3 hba hbw hok CW
    gi_wp2
    exact ⟨R2.out.from _,R3.out,R1.out⟩
 case hdone=>
  rintro D ys W hD rfl hi hK
  have HI:=Lib.hid hi
  have HK:=Lib.hid hK
  have HS:=Lib.hid (string_k w.heap.size gb _ W hi.fb hi.below.size)
  have HDG:Hid (D≠gb):=by
   obtain ⟨cs,hB⟩:=builder_blk hi.fb
   intro e
   subst e
   unfold Blk at hB
   rw [hB] at hK
   cases hK
  rw [outF_all _ _ _ _ _ _ hc70,HEN.out] at HS
  have HW:=Lib.hid HW0.out
  clear hi hK
  generalize spanX xs m l off en=sp at *
  go_wp2_with fail
  refine HS.out.mono ?_
  rintro e w6 ⟨rfl,hbb,hbw,hok⟩
  have HK6:Hid (w6.heap[D]?=some (.deferred (some []))):=hok D _ HK.out (by intro e;exact HDG.out (Option.some.inj e)) (fun c fz e=>by cases e)
  have B6:=Lib.hid (HI.out.below.trans hbw)
  go_wp2
  refine ⟨by simp,.inl ⟨_,_,rfl,run_takeDeferred HK6.out,?_⟩⟩
  refine ⟨_,results_tmp2 rfl _ _ _,⟨?_,?_⟩⟩
  ·rw [HW.out];rfl
  ·exact B6.out.trans (belowK_b (w:=w4) (by omega) w6 D _ _ (by omega) HK6.out rfl rfl)
 case hstop=>
  rintro D c pre W _ _ h _
  exact h.elim
set_option maxHeartbeats 8000000 in
theorem read_full (A:Option Addr) (c:Nat) (xs:List ByteArray) (n:Int) (off:Nat) (size:Int) (w:World) (hx:xs.length≤1000000) (h:RowAt w w.heap.size A (xs.map .string)) (h0:inoE xs n=0) (hs0:0≤size)
  (hof:off<sizeX (getR xs n)) (hsz:¬ size<(sizeX (getR xs n):Int)-(off:Int)) :
  Calls Tryz.prog 41 #[.slice A xs.length c,.int .i64 n,.int .i64 (off:Int),.int .i64 size] w (ReadPost (readO xs n (off:Int) size) w):=by
 have R0:=Lib.hid ((h.below ((Below.refl w.heap.size w).alloc (Nat.le_refl _) (.cells #[.int .i64 (off:Int)] 3))).mono (show w.heap.size≤(w.alloc (.cells #[.int .i64 (off:Int)] 3)).heap.size by simp))
 have CO:=Lib.hid (opened_any A c xs n _ hx R0.out)
 unfold OpenPost at CO
 simp only [if_pos h0] at CO
 obtain ⟨m,k,hv,rfl,hk1,hk2,hk3⟩:=inoE_ok h0
 have hvl:=hv.len
 have HO:Hid (∀ B g w2 gv c,B≤g→Blk w2 g 112 (fileC (.slice (some ⟨gv,0,none⟩) xs.length c) xs.length (mO xs) (k:Int).toNat (getR xs (k:Int)))→w2.ownsRow B 9 1 (.slice (some ⟨gv,0,none⟩) xs.length c) xs.length (xs.map .string)→FileX B w2 g m k xs (getR xs (k:Int))):=fun B g w2 gv c a b c'=>by
  have hfit:FitN (getR xs (k:Int)):=by rw [getR_vol hv hk1 hk2];exact inoR_fit _ _
  rw [mO_vol hv,Int.toNat_natCast] at b
  exact ⟨gv,c,a,b,c',hv,hfit,hk1,hk2⟩
 have HLL:Hid (∀ sl,(fileC sl xs.length (mO xs) (k:Int).toNat (getR xs (k:Int))).size=20):=fun sl=>fileC_size _ _ _ _ _ (getR_len _ _)
 have hsx:=sizeX_le (getR xs (k:Int))
 have HBL128:Hid (∀ b,b<xs.length→(xs.getD b ⟨#[]⟩).size=128):=fun b hb=>hv.size b hb
 obtain ⟨en,hen⟩:∃ en,min (off+size.toNat) (sizeX (getR xs (k:Int)))=en:=⟨_,rfl⟩
 have HW0:Hid (readO xs (k:Int) (off:Int) size=(spanX xs m (getR xs (k:Int)) off en,0)):=by
  show _=_
  unfold readO readX
  rw [if_neg (by rw [h0];simp),if_neg (by omega),mO_vol hv,Int.toNat_natCast,hen]
 obtain ⟨cn,hcn⟩:∃ cn,needN en=cn:=⟨_,rfl⟩
 have he1:en≤8960:=by omega
 have he2:off≤en:=by omega
 have hc70:cn≤70:=by rw [← hcn];exact needN_le he1
 have hd1:decide ((off:Int)<0)=false:=by simp
 have hd2:decide (size<0)=false:=by simp;omega
 have hcd:((en:Int)+128-1) / 128=(cn:Int):=by rw [← hcn];unfold needN;omega
 have HEN:Hid (min en (128 * cn)=en):=by show _=_;rw [← hcn];unfold needN;omega
 have hen1:sizeX (getR xs (k:Int))=en:=by omega
 have hlt1:¬ size<(sizeX (getR xs (k:Int)):Int)-(off:Int):=hsz
 have CS:=Lib.hid (fun (B g:Nat) (w:World) (h:FileX B w g m k xs (getR xs (k:Int)))=>size_any w h)
 have HATX:Hid (∀ j,atX xs m (getR xs (k:Int)) j<xs.length):=fun j=>by
  unfold atX
  split
  ·rename_i hd;exact (datB_iff.1 hd).2
  ·omega
 clear h0 hk3 hv h hcn hen
 generalize hsxe:sizeX (getR xs (k:Int))=sx at *
 have HSXE:=Lib.hid hsxe
 clear hsxe CS
 refine (callsIn_wide (n:=4)).1 ?_
 refine callsIn_of_wp_marks Tryz.func41 rfl trivial ?_
 simp only [Tryz.ntmps41,List.size_toArray,List.length_cons,List.length_nil,Nat.reduceAdd,Nat.reduceSub,Array.replicate_succ,Array.replicate_zero,List.push_toArray,List.append_toArray,List.nil_append,List.cons_append]
 refine wpIn_wide.2 ?_
 have BB0:=Lib.hid ((Below.refl w.heap.size w).alloc (Nat.le_refl _) (.cells #[.int .i64 (off:Int)] 3))
 have FO0:=Lib.hid (Blk.new w 3 #[.int .i64 (off:Int)])
 go_wp2_with fail
 obtain ⟨w0,hw0⟩:∃ w0,w.alloc (.cells #[.int .i64 (off:Int)] 3)=w0:=⟨_,rfl⟩
 rw [hw0] at CO R0 BB0 FO0 ⊢
 clear hw0
 refine CO.out.mono ?_
 rintro e w1 ⟨hb1,gv,cv,rfl,ho⟩
 have FO1:=Lib.hid (FO0.out.below hb1 FO0.out.lt)
 have B1:=Lib.hid (BB0.out.trans (hb1.mono BB0.out.size))
 have O1:=Lib.hid (own_low ho BB0.out.size)
 have hz1:=B1.out.size
 clear hb1 ho CO FO0 BB0 R0
 go_wp2_with (refine store_blk 112 (.tmp 10) (.tmp 22) w1.heap.size 112 fileZ (fileC (.slice (some ⟨gv,0,none⟩) xs.length cv) xs.length (mO xs) (k:Int).toNat (getR xs (k:Int))) rfl rfl rfl rfl (Blk.new w1 _ _) (by rw [HLL.out];rfl) (by rw [HLL.out];kernel_rfl) (fileC_one _ _ _ _ _ _ _) ?_;intro w2 hr2 hg2;have FO2:=((FO1.out.alloc _).grown hg2 (by intro e;have:=FO1.out.lt;have:=Option.some.inj e;omega));have co2:=FO2.cell 0 rfl)
 have FX:Hid (FileX w.heap.size w2 w1.heap.size m k xs (getR xs (k:Int))):=HO.out _ _ _ gv cv hz1 hr2 (by
  refine (O1.out.alloc _).kept hg2 (.inr ?_)
  have:=own_ne (O1.out.alloc _) (Blk.new w1 112 fileZ) (by decide)
  intro e;exact this e.symm)
 have BW:Hid (Below w.heap.size w w2):=(B1.out.alloc hz1 _).grown hg2 (by simp;omega) (fun k e=>by cases e;exact hz1)
 have FO:=Lib.hid FO2
 have CS2:=Lib.hid (size_any _ FX.out)
 rw [HSXE.out] at CS2
 generalize hg:w1.heap.size=g at *
 generalize getR xs (k:Int)=l at *
 clear hr2 hg2 HO O1 B1 HLL hg hz1 FO2 FO1
 refine CS2.out.mono ?_
 rintro e w3 ⟨rfl,rfl⟩
 have G3:=Lib.hid (Blk.new w2 3 #[.int .i64 (sx:Int)])
 have I3:=(Below.refl w2.heap.size w2).alloc (Nat.le_refl _) (.cells #[.int .i64 (sx:Int)] 3)
 have F3:=Lib.hid (FX.out.below I3)
 have O3:=Lib.hid (FO.out.below I3 FO.out.lt)
 have B3:=Lib.hid (BW.out.alloc BW.out.size (.cells #[.int .i64 (sx:Int)] 3))
 have c3:=O3.out.cell 0 rfl
 have hlt0:w.heap.size<w2.heap.size:=FO.out.lt
 have v1:IntKind.i64.wrap ((sx:Int)-(off:Int))=(sx:Int)-(off:Int):=IntWalk.i64_in _ (by omega)
 have v2:¬ (sx:Int)≤(off:Int):=by omega
 have v3:decide (sx≤off)=false:=by simp;omega
 have v4:¬ sx≤off:=by omega
 clear I3
 go_wp2_with fail
 obtain ⟨W4,hW4⟩:∃ W4,((w2.alloc (.cells #[.int .i64 (en:Int)] 3)).alloc (.cells #[.pointer none,.slice none 0 0] 172))=W4:=⟨_,rfl⟩
 have I4:Below w2.heap.size w2 W4:=hW4▸((Below.refl _ _).alloc (Nat.le_refl _) _).alloc (by simp) _
 have FE4:Hid (Blk W4 w2.heap.size 3 #[.int .i64 (en:Int)]):=hW4▸(Blk.new w2 _ _).alloc _
 have FB4:Hid (Lib.IsBuilderF 172 5 w.heap.size (w2.heap.size+1) (Lib.byteCells []) W4):=by
  rw [← hW4]
  have:=builder_new w.heap.size (w2.alloc (.cells #[.int .i64 (en:Int)] 3)) (by rw [World.size_alloc];omega)
  rw [World.size_alloc] at this
  exact this
 have FO4:=Lib.hid (FO.out.below I4 FO.out.lt)
 have FX4:=Lib.hid (FX.out.below I4)
 have BW4:=Lib.hid (BW.out.trans (I4.mono BW.out.size))
 rw [hW4]
 clear hW4 I4 G3 F3 O3 B3 c3 FO FX BW co2 CS2
 refine (first_file (cn:Int) _ FX4.out).mono ?_
 rintro e w4 ⟨Bl,Bc,rfl,hbc,hlc,hbl,hbb,hb4⟩
 have H0:Hid (RdI w w.heap.size w2.heap.size (w2.heap.size+1) Bc g m k xs l off en (cn:Int) [] w4):=⟨builder_below FB4.out hb4,FX4.out.below hb4,FO4.out.below hb4 FO4.out.lt,FE4.out.below hb4 FE4.out.lt,hbb,BW4.out.trans (hb4.mono BW4.out.size)⟩
 have HBL:=Lib.hid hbl
 have HBB:=Lib.hid hbb
 have hz4:w.heap.size≤w4.heap.size:=H0.out.below.size
 clear hbl hbb hb4 FB4 FX4 FO4 FE4 BW4 hbc hlc
 generalize w2.heap.size=be at *
 generalize be+1=gb at *
 go_wp2_with fail
 refine (wpIn_wide (n:=4)).1 ?_
 apply wpIn_rangeFunc_ownG rfl (by omega) (gf:=121) (lb:=#[.pointer (some ⟨Bl,0,none⟩),.pointer (some ⟨Bc,0,none⟩)]) rfl trivial (enters_of Tryz.func121 (by kernel_rfl) rfl)
  (first_stops (atF xs m l) cn 3 hc70 (by omega) Bl Bc w4 HBL.out HBB.out)
  (fun h k=>h.trans k) (fun W l o o' _ ho hc _=>KeepB.putObj W l o o' ho hc) (Below.refl _ _) (fun _=>rfl)
  (fun pre W=>RdI w w.heap.size be gb Bc g m k xs l off en (cn:Int) pre W) (fun _ _ _=>False)
  (RdI.own hz4) (fun _ _ _ _ _ hs _ _=>hs) H0.out
 case hassign=>
  intro l x W K hK
  gi_wp2
  exact hK
 case hbody=>
  rintro ll pre x W hi hlt
  have HI:=Lib.hid hi
  have hle:=outF_len xs m l off en pre
  have u1:∀ u:Ext W,u.val.cell? ⟨w.heap.size,0,none⟩=some (.int .i64 (off:Int)):=fun u=>u.cell (HI.out.fo.cell 0 rfl)
  have u2:∀ u:Ext W,u.val.cell? ⟨be,0,none⟩=some (.int .i64 (en:Int)):=fun u=>u.cell (HI.out.fe.cell 0 rfl)
  have HXK:Hid (∃ j,x.1=j∧j<70):=⟨_,rfl,x.2⟩
  obtain ⟨j,hj,hj70⟩:=HXK.out
  have HJ:=Lib.hid hj
  have HAT:Hid (atF xs m l x.1=atI (atX xs m l j)):=by show _=_;rw [hj];rfl
  rw [HAT.out]
  rw [hj]
  obtain ⟨P,hP⟩:∃ P:Nat,off-128 * j=P:=⟨_,rfl⟩
  obtain ⟨Q,hQ⟩:∃ Q:Int,min ((en:Int)-(j:Int) * 128) 128=Q:=⟨_,rfl⟩
  have e1:max ((off:Int)-(j:Int) * 128) 0=(P:Int):=by omega
  have w1':IntKind.i64.wrap ((j:Int) * 128)=(j:Int) * 128:=IntWalk.i64_in _ (by omega)
  have w2':IntKind.i64.wrap ((off:Int)-(j:Int) * 128)=(off:Int)-(j:Int) * 128:=IntWalk.i64_in _ (by omega)
  have w3':IntKind.i64.wrap ((en:Int)-(j:Int) * 128)=(en:Int)-(j:Int) * 128:=IntWalk.i64_in _ (by omega)
  clear hi hj
  gi_wp2_with fail
  refine wpIn_round_ext (by kernel_rfl) (by kernel_rfl) (by kernel_rfl) ?_
  repeat (first
   | (go_big_quiet_want;refine quiet_max (.tmp 55) (.const (.int .i64 0)) 3 _ _ rfl rfl rfl ?_;rw [e1];go_frame;go_big_quiet_on)
   | (go_big_quiet_want;refine quiet_min (.tmp 60) (.const (.int .i64 128)) 3 _ _ rfl rfl rfl ?_;rw [hQ];go_frame;go_big_quiet_on)
   | go_big_quiet_step (fail))
  refine wpQuiet_nil ?_
  rintro _ ⟨u,rfl⟩
  have HI2:=Lib.hid (HI.out.later u.below)
  have S2:Hid (KeepsOthers W u.val):=keeps_below u.below
  have K2:Hid (KeepB Bc W u.val):=KeepB.below u.below
  generalize u.val=W2 at *
  clear u1 u2
  by_cases hQP:Q≤(P:Int)
  ·have HN:Hid (pieF xs m l off en j=[]):=pieF_none _ _ _ _ _ _ (by omega)
   gi_wp2
   refine ⟨S2.out.from _,K2.out,?_⟩
   have:=HI2.out
   exact ⟨by rw [outF_snoc,HJ.out,HN.out,List.append_nil];exact this.fb,this.ff,this.fo,this.fe,this.fc,this.below⟩
  ·obtain ⟨q,rfl⟩:=Int.eq_ofNat_of_zero_le (show 0≤Q by omega)
   have hq2:q≤128:=by omega
   have hqm:min en (128 * (j+1))=128 * j+q:=by omega
   have hqp:¬ q≤P:=by omega
   have HPS:=Lib.hid (pieF_some xs m l off en j P q hP hqm hq2 (fun hz=>by
    unfold blkL
    rw [Array.length_toList]
    exact HBL128.out _ (HATX.out j)))
   obtain ⟨z,hzq⟩:∃ z,q-P=z:=⟨_,rfl⟩
   rw [hzq] at HPS
   have v5:IntKind.i64.wrap ((q:Int)-(P:Int))=(z:Int):=by rw [show (q:Int)-(P:Int)=(z:Int) by omega];exact IntWalk.i64_in _ (by omega)
   have hz70:z≤128:=by omega
   clear hzq
   have hbl:(Lib.byteCells (outF xs m l off en pre)).length≤8960:=by rw [Lib.byteCells_length];omega
   have hsz2:=HI2.out.below.size
   clear hQ e1 w1' w2' w3' hqm
   by_cases hz:atX xs m l j=0
   ·have hv:atI (atX xs m l j) = -1:=by unfold atI;rw [if_pos hz]
    rw [if_pos hz] at HPS
    rw [hv]
    clear hv hz
    gi_wp2_with fail
    refine ⟨trivial,?_⟩
    refine (CallsIn.inRound ll (callsIn_wide.2 (Tryz.strings_Repeat ⟨#[0]⟩ z W2 (by omega) (by show 1 * z≤_;omega)))).mono ?_
    rw [repeat_zero z]
    rintro e w5 ⟨rfl,hb5⟩
    have HI5:=Lib.hid (HI2.out.later hb5)
    have S5:Hid (KeepsOthers W w5):=S2.out.trans (keeps_below hb5)
    have K5:Hid (KeepB Bc W w5):=K2.out.trans (KeepB.below hb5)
    have hsz5:=HI5.out.below.size
    clear hb5 HI2 S2 K2
    have hz128:(zerosB z).size=z:=by show (List.replicate z (0:UInt8)).toArray.size=z;simp
    have HZL:Hid ((zerosB z).data.toList=List.replicate z 0):=rfl
    have CW:=Lib.hid (Tryz.Builder_WriteString_k w.heap.size gb _ (zerosB z) w5 HI5.out.fb (by rw [hz128];omega) hsz5)
    clear hz128
    generalize zerosB z=zs at *
    gi_wp2_with fail
    refine ⟨trivial,?_⟩
    refine (CallsIn.inRound ll (callsIn_wide.2 CW.out)).mono ?_
    rintro e w6 ⟨rfl,hba,hbw,hok⟩
    obtain ⟨r1,r2,r3⟩:=HI5.out.wrote (x:=x) (s:=zs) (by rw [HJ.out,HPS.out,HZL.out]) hba hbw hok
    have R1:=Lib.hid r1
    have R2:=Lib.hid (S5.out.trans r2)
    have R3:=Lib.hid (K5.out.trans r3)
    clear r1 r2 r3 hba hbw hok CW HI5
    gi_wp2
    exact ⟨R2.out.from _,R3.out,R1.out⟩
   ·rw [if_neg hz] at HPS
    obtain ⟨b,hb⟩:∃ b,atX xs m l j=b:=⟨_,rfl⟩
    rw [hb] at hz
    have hv:atI (atX xs m l j)=(b:Int):=by unfold atI;rw [hb,if_neg hz]
    have hbx:b<xs.length:=by rw [← hb];exact HATX.out j
    rw [hb] at HPS
    rw [hv]
    obtain ⟨gv3,c3,hF3⟩:=HI2.out.ff
    have cv0:W2.cell? ⟨g,0,none⟩=some (.slice (some ⟨gv3,0,none⟩) xs.length c3):=hF3.blk.cell 0 rfl
    have cb:W2.cell? ⟨gv3,b,none⟩=some (.string (xs.getD b ⟨#[]⟩)):=by
     rw [hF3.own.cellAt b (by omega)]
     rw [List.getElem?_map,List.getD_eq_getElem?_getD,List.getElem?_eq_getElem hbx];rfl
    have hs128:=HBL128.out b hbx
    unfold blkL at HPS
    generalize xs.getD b ⟨#[]⟩=s at *
    have s1:(P:Int)≤(q:Int):=by omega
    have s2:(q:Int)≤(s.size:Int):=by omega
    have s3:(b:Int)<(xs.length:Int):=by omega
    have s4:¬ (b:Int) = -1:=by omega
    have s5:((b:Int) == -1)=false:=by simp
    have HXS:Hid ((s.extract P q).size≤128):=by show _≤_;rw [ByteArray.size_extract];omega
    have HXD:Hid ((s.data.toList.take q).drop P=(s.extract P q).data.toList):=by show _=_;rw [Lib.extract_data,List.drop_take]
    have CW:=Lib.hid (Tryz.Builder_WriteString_k w.heap.size gb _ (s.extract P q) W2 HI2.out.fb (by have:=HXS.out;omega) hsz2)
    clear hv hb hF3 hs128
    gi_wp2_with fail
    refine ⟨trivial,?_⟩
    refine (CallsIn.inRound ll (callsIn_wide.2 CW.out)).mono ?_
    rintro e w6 ⟨rfl,hba,hbw,hok⟩
    obtain ⟨r1,r2,r3⟩:=HI2.out.wrote (x:=x) (s:=s.extract P q) (by rw [HJ.out,HPS.out,HXD.out]) hba hbw hok
    have R1:=Lib.hid r1
    have R2:=Lib.hid (S2.out.trans r2)
    have R3:=Lib.hid (K2.out.trans r3)
    clear r1 r2 r3 hba hbw hok CW
    gi_wp2
    exact ⟨R2.out.from _,R3.out,R1.out⟩
 case hdone=>
  rintro D ys W hD rfl hi hK
  have HI:=Lib.hid hi
  have HK:=Lib.hid hK
  have HS:=Lib.hid (string_k w.heap.size gb _ W hi.fb hi.below.size)
  have HDG:Hid (D≠gb):=by
   obtain ⟨cs,hB⟩:=builder_blk hi.fb
   intro e
   subst e
   unfold Blk at hB
   rw [hB] at hK
   cases hK
  rw [outF_all _ _ _ _ _ _ hc70,HEN.out] at HS
  have HW:=Lib.hid HW0.out
  clear hi hK
  generalize spanX xs m l off en=sp at *
  go_wp2_with fail
  refine HS.out.mono ?_
  rintro e w6 ⟨rfl,hbb,hbw,hok⟩
  have HK6:Hid (w6.heap[D]?=some (.deferred (some []))):=hok D _ HK.out (by intro e;exact HDG.out (Option.some.inj e)) (fun c fz e=>by cases e)
  have B6:=Lib.hid (HI.out.below.trans hbw)
  go_wp2
  refine ⟨by simp,.inl ⟨_,_,rfl,run_takeDeferred HK6.out,?_⟩⟩
  refine ⟨_,results_tmp2 rfl _ _ _,⟨?_,?_⟩⟩
  ·rw [HW.out];rfl
  ·exact B6.out.trans (belowK_b (w:=w4) (by omega) w6 D _ _ (by omega) HK6.out rfl rfl)
 case hstop=>
  rintro D c pre W _ _ h _
  exact h.elim
set_option maxHeartbeats 4000000 in
theorem read_none (A:Option Addr) (c:Nat) (xs:List ByteArray) (n off size:Int) (w:World) (hx:xs.length≤1000000) (h:RowAt w w.heap.size A (xs.map .string)) (h0:¬ inoE xs n=0) :
  Calls Tryz.prog 41 #[.slice A xs.length c,.int .i64 n,.int .i64 off,.int .i64 size] w (ReadPost (readO xs n off size) w):=by
 have B0:=Lib.hid ((Below.refl w.heap.size w).alloc (Nat.le_refl _) (.cells #[.int .i64 off] 3))
 have R0:=Lib.hid ((h.below B0.out).mono B0.out.size)
 have CO:=Lib.hid (opened_any A c xs n _ hx R0.out)
 unfold OpenPost at CO
 simp only [if_neg h0] at CO
 have HW0:Hid (readO xs n off size=([],inoE xs n)):=by show _=_;unfold readO;rw [if_pos h0]
 have hn0:(inoE xs n != 0)=true:=by simpa using h0
 generalize inoE xs n=ie at *
 clear h0 h R0
 go_enter Tryz.func41,Tryz.ntmps41
 go_wp2_with fail
 obtain ⟨w0,hw0⟩:∃ w0,w.alloc (.cells #[.int .i64 off] 3)=w0:=⟨_,rfl⟩
 rw [hw0] at CO B0 ⊢
 clear hw0
 refine CO.out.mono ?_
 rintro e w1 ⟨hb1,rfl⟩
 have B1:=Lib.hid (B0.out.trans (hb1.mono B0.out.size))
 have hz1:=B1.out.size
 clear hb1 CO B0
 go_wp2_with (refine store_blk 112 (.tmp 10) (.tmp 22) w1.heap.size 112 fileZ fileZ rfl rfl rfl rfl (Blk.new w1 _ _) rfl (by kernel_rfl) fileZ_one ?_;intro w2 hr2 hg2)
 have BW:Hid (Below w.heap.size w w2):=(B1.out.alloc hz1 _).grown hg2 (by simp;omega) (fun k e=>by cases e;exact hz1)
 go_ret2
 unfold ReadPost
 rw [HW0.out]
 exact ⟨rfl,BW.out⟩
set_option maxHeartbeats 4000000 in
theorem read_neg1 (A:Option Addr) (c:Nat) (xs:List ByteArray) (n off size:Int) (w:World) (hx:xs.length≤1000000) (h:RowAt w w.heap.size A (xs.map .string)) (h0:inoE xs n=0) (hf:off<0) :
  Calls Tryz.prog 41 #[.slice A xs.length c,.int .i64 n,.int .i64 off,.int .i64 size] w (ReadPost (readO xs n off size) w):=by
 have BB0:=Lib.hid ((Below.refl w.heap.size w).alloc (Nat.le_refl _) (.cells #[.int .i64 off] 3))
 have FO0:=Lib.hid (Blk.new w 3 #[.int .i64 off])
 have R0:=Lib.hid ((h.below BB0.out).mono BB0.out.size)
 have CO:=Lib.hid (opened_any A c xs n _ hx R0.out)
 unfold OpenPost at CO
 simp only [if_pos h0] at CO
 obtain ⟨m,k,hv,rfl,hk1,hk2,hk3⟩:=inoE_ok h0
 have HLL:Hid (∀ sl,(fileC sl xs.length (mO xs) (k:Int).toNat (getR xs (k:Int))).size=20):=fun sl=>fileC_size _ _ _ _ _ (getR_len _ _)
 have HO:Hid (∀ B g w2 gv c,B≤g→Blk w2 g 112 (fileC (.slice (some ⟨gv,0,none⟩) xs.length c) xs.length (mO xs) (k:Int).toNat (getR xs (k:Int)))→w2.ownsRow B 9 1 (.slice (some ⟨gv,0,none⟩) xs.length c) xs.length (xs.map .string)→FileX B w2 g m k xs (getR xs (k:Int))):=fun B g w2 gv c a b c'=>by
  have hfit:FitN (getR xs (k:Int)):=by rw [getR_vol hv hk1 hk2];exact inoR_fit _ _
  rw [mO_vol hv,Int.toNat_natCast] at b
  exact ⟨gv,c,a,b,c',hv,hfit,hk1,hk2⟩
 have HW0:Hid (readO xs (k:Int) off size=([],1)):=by show _=_;unfold readO;rw [if_neg (by rw [h0];simp),if_pos (by omega)]
 have d1:decide (off<0)=true:=by simp;omega
 clear h0 hk3 h
 generalize hsxe:sizeX (getR xs (k:Int))=sx at *
 have HSXE:=Lib.hid hsxe
 clear hsxe
 go_enter Tryz.func41,Tryz.ntmps41
 go_wp2_with fail
 obtain ⟨w0,hw0⟩:∃ w0,w.alloc (.cells #[.int .i64 off] 3)=w0:=⟨_,rfl⟩
 rw [hw0] at CO R0 BB0 FO0 ⊢
 clear hw0
 refine CO.out.mono ?_
 rintro e w1 ⟨hb1,gv,cv,rfl,ho⟩
 have FO1:=Lib.hid (FO0.out.below hb1 FO0.out.lt)
 have B1:=Lib.hid (BB0.out.trans (hb1.mono BB0.out.size))
 have O1:=Lib.hid (own_low ho BB0.out.size)
 have hz1:=B1.out.size
 clear hb1 ho CO FO0 BB0 R0
 go_wp2_with (refine store_blk 112 (.tmp 10) (.tmp 22) w1.heap.size 112 fileZ (fileC (.slice (some ⟨gv,0,none⟩) xs.length cv) xs.length (mO xs) (k:Int).toNat (getR xs (k:Int))) rfl rfl rfl rfl (Blk.new w1 _ _) (by rw [HLL.out];rfl) (by rw [HLL.out];kernel_rfl) (fileC_one _ _ _ _ _ _ _) ?_;intro w2 hr2 hg2;have FO2:=((FO1.out.alloc _).grown hg2 (by intro e;have:=FO1.out.lt;have:=Option.some.inj e;omega));have co2:=FO2.cell 0 rfl)
 have BW:Hid (Below w.heap.size w w2):=(B1.out.alloc hz1 _).grown hg2 (by simp;omega) (fun k e=>by cases e;exact hz1)
 go_ret2
 unfold ReadPost
 rw [HW0.out]
 exact ⟨rfl,BW.out⟩
set_option maxHeartbeats 4000000 in
theorem read_neg2 (A:Option Addr) (c:Nat) (xs:List ByteArray) (n off size:Int) (w:World) (hx:xs.length≤1000000) (h:RowAt w w.heap.size A (xs.map .string)) (h0:inoE xs n=0) (ho0:0≤off) (hf:size<0) :
  Calls Tryz.prog 41 #[.slice A xs.length c,.int .i64 n,.int .i64 off,.int .i64 size] w (ReadPost (readO xs n off size) w):=by
 have BB0:=Lib.hid ((Below.refl w.heap.size w).alloc (Nat.le_refl _) (.cells #[.int .i64 off] 3))
 have FO0:=Lib.hid (Blk.new w 3 #[.int .i64 off])
 have R0:=Lib.hid ((h.below BB0.out).mono BB0.out.size)
 have CO:=Lib.hid (opened_any A c xs n _ hx R0.out)
 unfold OpenPost at CO
 simp only [if_pos h0] at CO
 obtain ⟨m,k,hv,rfl,hk1,hk2,hk3⟩:=inoE_ok h0
 have HLL:Hid (∀ sl,(fileC sl xs.length (mO xs) (k:Int).toNat (getR xs (k:Int))).size=20):=fun sl=>fileC_size _ _ _ _ _ (getR_len _ _)
 have HO:Hid (∀ B g w2 gv c,B≤g→Blk w2 g 112 (fileC (.slice (some ⟨gv,0,none⟩) xs.length c) xs.length (mO xs) (k:Int).toNat (getR xs (k:Int)))→w2.ownsRow B 9 1 (.slice (some ⟨gv,0,none⟩) xs.length c) xs.length (xs.map .string)→FileX B w2 g m k xs (getR xs (k:Int))):=fun B g w2 gv c a b c'=>by
  have hfit:FitN (getR xs (k:Int)):=by rw [getR_vol hv hk1 hk2];exact inoR_fit _ _
  rw [mO_vol hv,Int.toNat_natCast] at b
  exact ⟨gv,c,a,b,c',hv,hfit,hk1,hk2⟩
 have HW0:Hid (readO xs (k:Int) off size=([],1)):=by show _=_;unfold readO;rw [if_neg (by rw [h0];simp),if_pos (by omega)]
 have d1:decide (off<0)=false:=by simp;omega
 have d2:decide (size<0)=true:=by simp;omega
 clear h0 hk3 h
 generalize hsxe:sizeX (getR xs (k:Int))=sx at *
 have HSXE:=Lib.hid hsxe
 clear hsxe
 go_enter Tryz.func41,Tryz.ntmps41
 go_wp2_with fail
 obtain ⟨w0,hw0⟩:∃ w0,w.alloc (.cells #[.int .i64 off] 3)=w0:=⟨_,rfl⟩
 rw [hw0] at CO R0 BB0 FO0 ⊢
 clear hw0
 refine CO.out.mono ?_
 rintro e w1 ⟨hb1,gv,cv,rfl,ho⟩
 have FO1:=Lib.hid (FO0.out.below hb1 FO0.out.lt)
 have B1:=Lib.hid (BB0.out.trans (hb1.mono BB0.out.size))
 have O1:=Lib.hid (own_low ho BB0.out.size)
 have hz1:=B1.out.size
 clear hb1 ho CO FO0 BB0 R0
 go_wp2_with (refine store_blk 112 (.tmp 10) (.tmp 22) w1.heap.size 112 fileZ (fileC (.slice (some ⟨gv,0,none⟩) xs.length cv) xs.length (mO xs) (k:Int).toNat (getR xs (k:Int))) rfl rfl rfl rfl (Blk.new w1 _ _) (by rw [HLL.out];rfl) (by rw [HLL.out];kernel_rfl) (fileC_one _ _ _ _ _ _ _) ?_;intro w2 hr2 hg2;have FO2:=((FO1.out.alloc _).grown hg2 (by intro e;have:=FO1.out.lt;have:=Option.some.inj e;omega));have co2:=FO2.cell 0 rfl)
 have BW:Hid (Below w.heap.size w w2):=(B1.out.alloc hz1 _).grown hg2 (by simp;omega) (fun k e=>by cases e;exact hz1)
 go_ret2
 unfold ReadPost
 rw [HW0.out]
 exact ⟨rfl,BW.out⟩
set_option maxHeartbeats 4000000 in
theorem read_far (A:Option Addr) (c:Nat) (xs:List ByteArray) (n off size:Int) (w:World) (hx:xs.length≤1000000) (h:RowAt w w.heap.size A (xs.map .string)) (h0:inoE xs n=0) (ho0:0≤off) (hs0:0≤size) (hf:(sizeX (getR xs n):Int)≤off) :
  Calls Tryz.prog 41 #[.slice A xs.length c,.int .i64 n,.int .i64 off,.int .i64 size] w (ReadPost (readO xs n off size) w):=by
 have BB0:=Lib.hid ((Below.refl w.heap.size w).alloc (Nat.le_refl _) (.cells #[.int .i64 off] 3))
 have FO0:=Lib.hid (Blk.new w 3 #[.int .i64 off])
 have R0:=Lib.hid ((h.below BB0.out).mono BB0.out.size)
 have CO:=Lib.hid (opened_any A c xs n _ hx R0.out)
 unfold OpenPost at CO
 simp only [if_pos h0] at CO
 obtain ⟨m,k,hv,rfl,hk1,hk2,hk3⟩:=inoE_ok h0
 have HLL:Hid (∀ sl,(fileC sl xs.length (mO xs) (k:Int).toNat (getR xs (k:Int))).size=20):=fun sl=>fileC_size _ _ _ _ _ (getR_len _ _)
 have HO:Hid (∀ B g w2 gv c,B≤g→Blk w2 g 112 (fileC (.slice (some ⟨gv,0,none⟩) xs.length c) xs.length (mO xs) (k:Int).toNat (getR xs (k:Int)))→w2.ownsRow B 9 1 (.slice (some ⟨gv,0,none⟩) xs.length c) xs.length (xs.map .string)→FileX B w2 g m k xs (getR xs (k:Int))):=fun B g w2 gv c a b c'=>by
  have hfit:FitN (getR xs (k:Int)):=by rw [getR_vol hv hk1 hk2];exact inoR_fit _ _
  rw [mO_vol hv,Int.toNat_natCast] at b
  exact ⟨gv,c,a,b,c',hv,hfit,hk1,hk2⟩
 have HW0:Hid (readO xs (k:Int) off size=([],0)):=by
  show _=_
  unfold readO readX spanX
  rw [if_neg (by rw [h0];simp),if_neg (by omega),mO_vol hv,show min (off.toNat+size.toNat) (sizeX (getR xs (k:Int)))-off.toNat=0 by omega]
  rfl
 have d1:decide (off<0)=false:=by simp;omega
 have d2:decide (size<0)=false:=by simp;omega
 have d3:(sizeX (getR xs (k:Int)):Int)≤off:=hf
 clear h0 hk3 h
 generalize hsxe:sizeX (getR xs (k:Int))=sx at *
 have HSXE:=Lib.hid hsxe
 clear hsxe
 go_enter Tryz.func41,Tryz.ntmps41
 go_wp2_with fail
 obtain ⟨w0,hw0⟩:∃ w0,w.alloc (.cells #[.int .i64 off] 3)=w0:=⟨_,rfl⟩
 rw [hw0] at CO R0 BB0 FO0 ⊢
 clear hw0
 refine CO.out.mono ?_
 rintro e w1 ⟨hb1,gv,cv,rfl,ho⟩
 have FO1:=Lib.hid (FO0.out.below hb1 FO0.out.lt)
 have B1:=Lib.hid (BB0.out.trans (hb1.mono BB0.out.size))
 have O1:=Lib.hid (own_low ho BB0.out.size)
 have hz1:=B1.out.size
 clear hb1 ho CO FO0 BB0 R0
 go_wp2_with (refine store_blk 112 (.tmp 10) (.tmp 22) w1.heap.size 112 fileZ (fileC (.slice (some ⟨gv,0,none⟩) xs.length cv) xs.length (mO xs) (k:Int).toNat (getR xs (k:Int))) rfl rfl rfl rfl (Blk.new w1 _ _) (by rw [HLL.out];rfl) (by rw [HLL.out];kernel_rfl) (fileC_one _ _ _ _ _ _ _) ?_;intro w2 hr2 hg2;have FO2:=((FO1.out.alloc _).grown hg2 (by intro e;have:=FO1.out.lt;have:=Option.some.inj e;omega));have co2:=FO2.cell 0 rfl)
 have BW:Hid (Below w.heap.size w w2):=(B1.out.alloc hz1 _).grown hg2 (by simp;omega) (fun k e=>by cases e;exact hz1)
 have FX:Hid (FileX w.heap.size w2 w1.heap.size m k xs (getR xs (k:Int))):=HO.out _ _ _ gv cv hz1 hr2 (by
  refine (O1.out.alloc _).kept hg2 (.inr ?_)
  have:=own_ne (O1.out.alloc _) (Blk.new w1 112 fileZ) (by decide)
  intro e;exact this e.symm)
 have FO:=Lib.hid FO2
 have CS2:=Lib.hid (size_any _ FX.out)
 rw [HSXE.out] at CS2
 refine CS2.out.mono ?_
 rintro e w3 ⟨rfl,rfl⟩
 have I3:=(Below.refl w2.heap.size w2).alloc (Nat.le_refl _) (.cells #[.int .i64 (sx:Int)] 3)
 have O3:=Lib.hid (FO.out.below I3 FO.out.lt)
 have B3:=Lib.hid (BW.out.alloc BW.out.size (.cells #[.int .i64 (sx:Int)] 3))
 have c3:=O3.out.cell 0 rfl
 clear I3
 go_wp2
 go_ret2
 unfold ReadPost
 rw [HW0.out]
 exact ⟨rfl,B3.out⟩
theorem read_any (A:Option Addr) (c:Nat) (xs:List ByteArray) (n off size:Int) (w:World) (hx:xs.length≤1000000) (h:RowAt w w.heap.size A (xs.map .string)) :
  Calls Tryz.prog 41 #[.slice A xs.length c,.int .i64 n,.int .i64 off,.int .i64 size] w (ReadPost (readO xs n off size) w):=by
 by_cases h0:inoE xs n=0
 ·by_cases h1:off<0
  ·exact read_neg1 A c xs n off size w hx h h0 h1
  ·by_cases h2:size<0
   ·exact read_neg2 A c xs n off size w hx h h0 (by omega) h2
   ·by_cases h3:(sizeX (getR xs n):Int)≤off
    ·exact read_far A c xs n off size w hx h h0 (by omega) (by omega) h3
    ·obtain ⟨o,rfl⟩:=Int.eq_ofNat_of_zero_le (show 0≤off by omega)
     by_cases h4:size<(sizeX (getR xs n):Int)-(o:Int)
     ·exact read_less A c xs n o size w hx h h0 (by omega) (by omega) h4
     ·exact read_full A c xs n o size w hx h h0 (by omega) (by omega) h4
 ·exact read_none A c xs n off size w hx h h0
end Go.Proofs.YtdldlendppkknaaGreatDoor
