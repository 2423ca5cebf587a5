/-
  Contracts and plain laws: DirPl, DirSt, DirRm, Top20Pl, PathPl, ExtA.
-/
import Derived.Lib.Bytealg
import Derived.Test.YtdldlendppkknaaGreatDoorPackV08
namespace Go.Proofs.YtdldlendppkknaaGreatDoor
set_option linter.unusedVariables false
set_option linter.unusedSimpArgs false
set_option maxRecDepth 100000
structure EntV where
 name:ByteArray
 ino:Int
deriving DecidableEq
def entC (l:List EntV):List Value:=l.flatMap fun x=>[.string x.name,.int .i64 x.ino]
theorem entC_len (l:List EntV):(entC l).length=l.length * 2:=by
 induction l with
 | nil=>rfl
 | cons x l ih=>show ([_,_]++entC l).length=_;simp [ih];omega
def mayC (c:UInt8):Bool:=decide (97≤c.toNat∧c.toNat≤122∨65≤c.toNat∧c.toNat≤90∨48≤c.toNat∧c.toNat≤57∨c.toNat=45∨c.toNat=95∨c.toNat=46)
def mayB (l:List UInt8):Bool:=decide (l≠[]∧l.length≤24∧l≠[46]∧l≠[46,46]) && l.all mayC
def entB (x:EntV):List UInt8:=putL x.ino.toNat 2++putL x.name.size 1++[0]++x.name.data.toList++List.replicate (28-x.name.size) 0
def bytesE (l:List EntV):List UInt8:=l.flatMap entB
def okE (x:EntV):Bool:=mayB x.name.data.toList && decide (1≤x.ino∧x.ino≤64)
def entK (b:List UInt8):EntV:=⟨⟨((b.drop 4).take (b.getD 2 0).toNat).toArray⟩,(leN (b.take 2):Nat)⟩
def ltB (a b:ByteArray):Bool:=decide (a.data.toList<b.data.toList)
def piece (b:List UInt8) (k:Nat):List UInt8:=(b.drop (32 * k)).take 32
def goodK (b:List UInt8):Bool:=decide ((b.getD 2 0).toNat≤24) && okE (entK b) && decide (entB (entK b)=b)
def stepK (b:List UInt8) (k:Nat):Bool:=goodK (piece b k) && (k == 0 || ltB (entK (piece b (k-1))).name (entK (piece b k)).name)
def entsO (b:List UInt8):Option (List EntV):=
 if b.length % 32=0∧((List.range (b.length / 32)).all (stepK b))=true then some ((List.range (b.length / 32)).map fun k=>entK (piece b k)) else none
def listO (xs:List ByteArray) (n:Int):List EntV × Int:=
 if inoE xs n≠0 then ([],inoE xs n) else if (getR xs n).getD 0 0≠2 then ([],11) else
 match entsO (readO xs n 0 8960).1 with
 | none=>([],3)
 | some l=>(l,0)
def atE (l:List EntV) (nm:ByteArray):Nat:=l.countP fun x=>ltB x.name nm
def hasE (l:List EntV) (nm:ByteArray):Bool:=l.any fun x=>decide (x.name=nm)
def getE (l:List EntV) (nm:ByteArray):Int:=((l.find? fun x=>decide (x.name=nm)).map (·.ino)).getD 0
def findO (xs:List ByteArray) (n:Int) (nm:ByteArray):Int × Int:=
 if mayB nm.data.toList=false then (0,7) else if (listO xs n).2≠0 then (0,(listO xs n).2)
 else if hasE (listO xs n).1 nm=true then (getE (listO xs n).1 nm,0) else (0,9)
def insE (l:List EntV) (x:EntV):List EntV:=l.take (atE l x.name)++x::l.drop (atE l x.name)
def outE (l:List EntV) (nm:ByteArray):List EntV:=l.filter fun x=>!decide (x.name=nm)
def addO (xs:List ByteArray) (n:Int) (nm:ByteArray) (ino:Int):List ByteArray × Int:=
 if mayB nm.data.toList=false then ([],7) else if ino<1∨64<ino then ([],2) else if (listO xs n).2≠0 then ([],(listO xs n).2)
 else if hasE (listO xs n).1 nm=true then ([],8) else writeO xs n 0 (bytesE (insE (listO xs n).1 ⟨nm,ino⟩))
def dropO (xs:List ByteArray) (n:Int) (nm:ByteArray):List ByteArray × Int:=
 if mayB nm.data.toList=false then ([],7) else if (listO xs n).2≠0 then ([],(listO xs n).2)
 else if hasE (listO xs n).1 nm=false then ([],9)
 else if outE (listO xs n).1 nm=[] then cutO xs n 0
 else if (writeO xs n 0 (bytesE (outE (listO xs n).1 nm))).2≠0 then ([],(writeO xs n 0 (bytesE (outE (listO xs n).1 nm))).2)
 else cutO (writeO xs n 0 (bytesE (outE (listO xs n).1 nm))).1 n ((32 * (outE (listO xs n).1 nm).length:Nat):Int)
theorem mayB_len {l:List UInt8} (h:mayB l=true):1≤l.length∧l.length≤24:=by
 unfold mayB at h
 simp only [Bool.and_eq_true,decide_eq_true_eq] at h
 obtain ⟨⟨h1,h2,_⟩,_⟩:=h
 exact ⟨by cases l <;> simp_all,h2⟩
theorem okE_ok {x:EntV} (h:okE x=true):mayB x.name.data.toList=true∧1≤x.name.size∧x.name.size≤24∧1≤x.ino∧x.ino≤64:=by
 unfold okE at h
 simp only [Bool.and_eq_true,decide_eq_true_eq] at h
 have:=mayB_len h.1
 rw [Array.length_toList] at this
 exact ⟨h.1,this.1,this.2,h.2.1,h.2.2⟩
theorem entB_len {x:EntV} (h:x.name.size≤28):(entB x).length=32:=by
 unfold entB
 have:x.name.data.toList.length=x.name.size:=by rw [Array.length_toList];rfl
 simp only [List.length_append,putL_length,List.length_replicate,this,List.length_cons,List.length_nil]
 omega
theorem entK_entB {x:EntV} (h:okE x=true):entK (entB x)=x∧((entB x).getD 2 0).toNat=x.name.size:=by
 obtain ⟨h1,h2,h3,h4,h5⟩:=okE_ok h
 have hl:x.name.data.toList.length=x.name.size:=by rw [Array.length_toList];rfl
 have p2:(putL x.ino.toNat 2).length=2:=putL_length _ _
 have p1:putL x.name.size 1=[UInt8.ofNat x.name.size]:=by
  show [UInt8.ofNat (bt x.name.size 0)]=_
  unfold bt
  rw [Nat.pow_zero,Nat.div_one,Nat.mod_eq_of_lt (by omega)]
 have e2:((entB x).getD 2 0).toNat=x.name.size:=by
  unfold entB
  rw [p1]
  simp only [List.append_assoc]
  rw [List.getD_eq_getElem?_getD,List.getElem?_append_right (by omega),p2]
  simp
  omega
 refine ⟨?_,e2⟩
 unfold entK
 rw [e2]
 have eb:entB x=putL x.ino.toNat 2++([UInt8.ofNat x.name.size,0]++(x.name.data.toList++List.replicate (28-x.name.size) 0)):=by
  unfold entB;rw [p1];simp only [List.append_assoc];rfl
 rw [eb]
 have d4:(putL x.ino.toNat 2++([UInt8.ofNat x.name.size,0]++(x.name.data.toList++List.replicate (28-x.name.size) 0))).drop 4=x.name.data.toList++List.replicate (28-x.name.size) 0:=by
  rw [List.drop_append,p2,List.drop_eq_nil_of_le (by omega)]
  rfl
 rw [d4,List.take_left' hl,List.take_left' p2,leN_putL]
 obtain ⟨⟨⟨a⟩⟩,i⟩:=x
 dsimp only at *
 congr 1
 omega
theorem goodK_entB {x:EntV} (h:okE x=true):goodK (entB x)=true:=by
 obtain ⟨e1,e2⟩:=entK_entB h
 unfold goodK
 rw [e1,e2,h]
 simp [(okE_ok h).2.2.1]
theorem goodK_ok {b:List UInt8} (h:goodK b=true):okE (entK b)=true∧entB (entK b)=b:=by
 unfold goodK at h
 simp only [Bool.and_eq_true,decide_eq_true_eq] at h
 exact ⟨h.1.2,h.2⟩
structure ValidE (l:List EntV):Prop where
 ok:∀ x ∈ l,okE x=true
 rise:l.Pairwise fun x y=>ltB x.name y.name=true
theorem bytesE_cons (x:EntV) (l:List EntV):bytesE (x::l)=entB x++bytesE l:=rfl
theorem bytesE_app (k l:List EntV):bytesE (k++l)=bytesE k++bytesE l:=by unfold bytesE;simp
theorem bytesE_len:∀ {l:List EntV},(∀ x ∈ l,okE x=true)→(bytesE l).length=32 * l.length
 | [],_=>rfl
 | x::l,h=>by
  rw [bytesE_cons,List.length_append,entB_len (Nat.le_trans (okE_ok (h x (by simp))).2.2.1 (by decide)),bytesE_len (fun y hy=>h y (by simp [hy]))]
  simp;omega
theorem bytesE_piece:∀ {l:List EntV},(∀ x ∈ l,okE x=true)→∀ k (hk:k<l.length),piece (bytesE l) k=entB l[k]
 | [],_,k,hk=>absurd hk (Nat.not_lt_zero _)
 | x::l,h,k,hk=>by
  have hx:(entB x).length=32:=entB_len (Nat.le_trans (okE_ok (h x (by simp))).2.2.1 (by decide))
  unfold piece
  rw [bytesE_cons]
  cases k with
  | zero=>rw [Nat.mul_zero,List.drop_zero,List.take_left' hx];rfl
  | succ k=>
   rw [List.drop_append,List.drop_eq_nil_of_le (by omega),List.nil_append,hx,show 32 * (k+1)-32=32 * k by omega]
   exact bytesE_piece (fun y hy=>h y (by simp [hy])) k (by simpa using hk)
theorem entsO_bytesE {l:List EntV} (h:ValidE l):entsO (bytesE l)=some l:=by
 have hl:=bytesE_len h.ok
 have hp:=bytesE_piece h.ok
 have hd:(bytesE l).length / 32=l.length:=by omega
 unfold entsO
 rw [if_pos,hd]
 ·congr 1
  apply List.ext_getElem?
  intro k
  by_cases hk:k<l.length
  ·rw [List.getElem?_map,List.getElem?_range hk,Option.map_some,hp k hk,(entK_entB (h.ok _ (List.getElem_mem hk))).1,List.getElem?_eq_getElem hk]
  ·rw [List.getElem?_eq_none (by simp;omega),List.getElem?_eq_none (by omega)]
 ·refine ⟨by omega,?_⟩
  rw [hd,List.all_eq_true]
  intro k hk
  have hk:=List.mem_range.1 hk
  unfold stepK
  rw [hp k hk,goodK_entB (h.ok _ (List.getElem_mem hk)),Bool.true_and]
  by_cases h0:k=0
  ·subst h0;rfl
  ·rw [hp (k-1) (by omega),(entK_entB (h.ok _ (List.getElem_mem _))).1,(entK_entB (h.ok _ (List.getElem_mem _))).1]
   rw [List.pairwise_iff_getElem.1 h.rise (k-1) k (by omega) hk (by omega)]
   simp
theorem lt_trans8 {a b c:List UInt8} (h:a<b) (k:b<c):a<c:=List.lt_trans h k
theorem ltB_trans {a b c:ByteArray} (h:ltB a b=true) (k:ltB b c=true):ltB a c=true:=by
 unfold ltB at *
 simp only [decide_eq_true_eq] at *
 exact lt_trans8 h k
theorem ltB_irrefl (a:ByteArray):ltB a a=false:=by
 unfold ltB
 exact decide_eq_false (List.lt_irrefl _)
theorem ltB_tri {a b:ByteArray} (h:ltB a b=false) (k:ltB b a=false):a=b:=by
 unfold ltB at *
 simp only [decide_eq_false_iff_not] at *
 have e:a.data.toList=b.data.toList:=List.le_antisymm (List.not_lt.1 k) (List.not_lt.1 h)
 cases a;cases b
 congr 1
 exact Array.toList_inj.1 e
theorem entsO_some {b:List UInt8} {l:List EntV} (h:entsO b=some l):bytesE l=b∧ValidE l∧b.length=32 * l.length:=by
 unfold entsO at h
 split at h
 ·rename_i hc
  obtain ⟨hm,ha⟩:=hc
  rw [List.all_eq_true] at ha
  have e:=(Option.some.inj h).symm
  have hl:l.length=b.length / 32:=by rw [e];simp
  have hg:∀ k (hk:k<l.length),l[k]=entK (piece b k)∧okE l[k]=true∧entB l[k]=piece b k:=fun k hk=>by
   have e2:l[k]=entK (piece b k):=by
    have:=congrArg (·[k]?) e
    rw [List.getElem?_eq_getElem hk,List.getElem?_map,List.getElem?_range (by omega)] at this
    exact Option.some.inj this
   have:=ha k (List.mem_range.2 (by omega))
   unfold stepK at this
   simp only [Bool.and_eq_true] at this
   have:=goodK_ok this.1
   exact ⟨e2,by rw [e2];exact this.1,by rw [e2];exact this.2⟩
  have hok:∀ x ∈ l,okE x=true:=fun x hx=>by
   obtain ⟨k,hk,rfl⟩:=List.mem_iff_getElem.1 hx
   exact (hg k hk).2.1
  have hlen:=bytesE_len hok
  refine ⟨?_,⟨hok,?_⟩,by omega⟩
  ·apply List.ext_getElem?
   intro i
   by_cases hi:i<b.length
   ·have hk:i / 32<l.length:=by omega
    have:=congrArg (·[i % 32]?) ((bytesE_piece hok (i / 32) hk).trans (hg (i / 32) hk).2.2)
    unfold piece at this
    rw [List.getElem?_take_of_lt (by omega),List.getElem?_take_of_lt (by omega),List.getElem?_drop,List.getElem?_drop,show 32 * (i / 32)+i % 32=i by omega] at this
    exact this
   ·rw [List.getElem?_eq_none (by omega),List.getElem?_eq_none (by omega)]
  ·have adj:∀ k,(hk:k+1<l.length)→ltB l[k].name l[k+1].name=true:=fun k hk=>by
    have:=ha (k+1) (List.mem_range.2 (by omega))
    unfold stepK at this
    simp only [Bool.and_eq_true,Bool.or_eq_true,beq_iff_eq] at this
    rw [(hg k (by omega)).1,(hg (k+1) hk).1]
    exact this.2.resolve_left (by omega)
   have far:∀ d i,(hi:i+d+1<l.length)→ltB l[i].name l[i+d+1].name=true:=fun d=>by
    induction d with
    | zero=>intro i hi;exact adj i hi
    | succ d ih=>intro i hi;exact ltB_trans (ih i (by omega)) (adj (i+d+1) (by omega))
   rw [List.pairwise_iff_getElem]
   intro i j hi hj hij
   have:=far (j-i-1) i (by omega)
   have e:i+(j-i-1)+1=j:=by omega
   simpa [e] using this
 ·cases h
theorem atE_le (l:List EntV) (nm:ByteArray):atE l nm≤l.length:=List.countP_le_length
theorem atE_zero {l:List EntV} {nm:ByteArray} (h:∀ x ∈ l,ltB x.name nm=false):atE l nm=0:=by
 unfold atE
 rw [List.countP_eq_zero]
 intro x hx
 simp [h x hx]
theorem atE_cons (y:EntV) (l:List EntV) (nm:ByteArray):atE (y::l) nm=atE l nm+if ltB y.name nm=true then 1 else 0:=by
 unfold atE
 rw [List.countP_cons]
theorem rise_above {y:EntV} {l:List EntV} {nm:ByteArray} (h:∀ x ∈ l,ltB y.name x.name=true) (hy:ltB y.name nm=false):∀ x ∈ l,ltB x.name nm=false:=fun x hx=>by
 cases hh:ltB x.name nm with
 | false=>rfl
 | true=>rw [ltB_trans (h x hx) hh] at hy;cases hy
theorem at_split {nm:ByteArray}:∀ {l:List EntV},(l.Pairwise fun x y=>ltB x.name y.name=true)→(∀ x ∈ l.take (atE l nm),ltB x.name nm=true)∧(∀ x ∈ l.drop (atE l nm),ltB x.name nm=false)
 | [],_=>⟨fun x hx=>by simp at hx,fun x hx=>by simp at hx⟩
 | y::l,h=>by
  have h:=List.pairwise_cons.1 h
  rw [atE_cons]
  cases hy:ltB y.name nm with
  | true=>
   have:=at_split (nm:=nm) h.2
   rw [if_pos rfl,List.take_succ_cons,List.drop_succ_cons]
   refine ⟨fun x hx=>?_,this.2⟩
   rcases List.mem_cons.1 hx with rfl | hx
   ·exact hy
   ·exact this.1 x hx
  | false=>
   have:=rise_above h.1 hy
   rw [atE_zero this,if_neg (by simp)]
   refine ⟨fun x hx=>by simp at hx,fun x hx=>?_⟩
   rcases List.mem_cons.1 (by simpa using hx) with rfl | hx
   ·exact hy
   ·exact this x hx
theorem at_below {l:List EntV} {nm:ByteArray} (h:l.Pairwise fun x y=>ltB x.name y.name=true) (k:Nat) (hk:k<l.length):ltB l[k].name nm=decide (k<atE l nm):=by
 have s:=at_split (nm:=nm) h
 by_cases hl:k<atE l nm
 ·rw [decide_eq_true hl]
  exact s.1 _ (List.mem_iff_getElem.2 ⟨k,by rw [List.length_take];omega,by rw [List.getElem_take]⟩)
 ·rw [decide_eq_false hl]
  exact s.2 _ (List.mem_iff_getElem.2 ⟨k-atE l nm,by rw [List.length_drop];omega,by rw [List.getElem_drop];congr 1;omega⟩)
theorem at_has {l:List EntV} {nm:ByteArray} (h:l.Pairwise fun x y=>ltB x.name y.name=true):hasE l nm=true↔∃ hk:atE l nm<l.length,l[atE l nm].name=nm:=by
 unfold hasE
 rw [List.any_eq_true]
 constructor
 ·rintro ⟨x,hx,e⟩
  have e:=of_decide_eq_true e
  obtain ⟨k,hk,rfl⟩:=List.mem_iff_getElem.1 hx
  have h1:=at_below (nm:=nm) h k hk
  rw [e,ltB_irrefl] at h1
  have h1:¬ k<atE l nm:=of_decide_eq_false h1.symm
  have hlt:atE l nm<l.length:=by omega
  refine ⟨hlt,?_⟩
  by_cases hk2:k=atE l nm
  ·subst hk2;exact e
  ·have h2:=at_below (nm:=nm) h _ hlt
   rw [decide_eq_false (by omega)] at h2
   have h3:=List.pairwise_iff_getElem.1 h (atE l nm) k hlt hk (by omega)
   rw [e,h2] at h3
   cases h3
 ·rintro ⟨hk,e⟩
  exact ⟨_,List.getElem_mem hk,by rw [e];simp⟩
theorem at_cut {l:List EntV} {nm:ByteArray} (hk:atE l nm<l.length):l=l.take (atE l nm)++l[atE l nm]::l.drop (atE l nm+1):=by
 rw [List.getElem_cons_drop,List.take_append_drop]
theorem ne_of_lt {a b:ByteArray} (h:ltB a b=true):a≠b:=fun e=>by rw [e,ltB_irrefl] at h;cases h
theorem at_get {l:List EntV} {nm:ByteArray} (h:l.Pairwise fun x y=>ltB x.name y.name=true) (hk:atE l nm<l.length) (e:l[atE l nm].name=nm):getE l nm=l[atE l nm].ino:=by
 have s:=(at_split (nm:=nm) h).1
 have hf:(l.take (atE l nm)).find? (fun x=>decide (x.name=nm))=none:=by
  rw [List.find?_eq_none]
  intro x hx
  have:=ne_of_lt (s x hx)
  simp [this]
 have:=at_cut hk
 unfold getE
 generalize hz:l[atE l nm]=z at *
 rw [this,List.find?_append,hf,List.find?_cons_of_pos (by simp [e])]
 rfl
theorem at_out {l:List EntV} {nm:ByteArray} (h:l.Pairwise fun x y=>ltB x.name y.name=true) (hk:atE l nm<l.length) (e:l[atE l nm].name=nm):outE l nm=l.take (atE l nm)++l.drop (atE l nm+1):=by
 have s:=(at_split (nm:=nm) h).1
 have hc:=at_cut hk
 have h3:∀ x ∈ l.drop (atE l nm+1),ltB nm x.name=true:=fun x hx=>by
  obtain ⟨j,hj,rfl⟩:=List.mem_iff_getElem.1 hx
  rw [List.length_drop] at hj
  have:=List.pairwise_iff_getElem.1 h (atE l nm) (atE l nm+1+j) hk (by omega) (by omega)
  rw [e] at this
  rw [List.getElem_drop]
  exact this
 generalize hz:l[atE l nm]=z at *
 unfold outE
 generalize l.take (atE l nm)=a at *
 generalize l.drop (atE l nm+1)=b at *
 rw [hc,List.filter_append,List.filter_cons_of_neg (by simp [e])]
 congr 1
 ·exact List.filter_eq_self.2 fun x hx=>by have:=ne_of_lt (s x hx);simp [this]
 ·exact List.filter_eq_self.2 fun x hx=>by have:=ne_of_lt (h3 x hx);simp [Ne.symm this]
theorem outE_valid {l:List EntV} (h:ValidE l) (nm:ByteArray):ValidE (outE l nm):=
 ⟨fun x hx=>h.ok x (List.mem_filter.1 hx).1,h.rise.sublist List.filter_sublist⟩
theorem insE_valid {l:List EntV} {x:EntV} (h:ValidE l) (hx:okE x=true) (hn:hasE l x.name=false):ValidE (insE l x):=by
 have s:=at_split (nm:=x.name) h.rise
 have hne:∀ y ∈ l,y.name≠x.name:=fun y hy=>by
  unfold hasE at hn
  rw [List.any_eq_false] at hn
  have:=hn y hy
  simpa using this
 have s2:∀ y ∈ l.drop (atE l x.name),ltB x.name y.name=true:=fun y hy=>by
  cases hh:ltB x.name y.name with
  | true=>rfl
  | false=>exact absurd (ltB_tri (s.2 y hy) hh) (hne y (List.mem_of_mem_drop hy))
 have hr:=h.rise
 rw [← List.take_append_drop (atE l x.name) l] at hr
 have hr:=List.pairwise_append.1 hr
 unfold insE
 constructor
 ·intro y hy
  rcases List.mem_append.1 hy with hy | hy
  ·exact h.ok y (List.mem_of_mem_take hy)
  ·rcases List.mem_cons.1 hy with rfl | hy
   ·exact hx
   ·exact h.ok y (List.mem_of_mem_drop hy)
 ·rw [List.pairwise_append]
  refine ⟨hr.1,List.pairwise_cons.2 ⟨s2,hr.2.1⟩,fun a ha b hb=>?_⟩
  rcases List.mem_cons.1 hb with rfl | hb
  ·exact s.1 a ha
  ·exact hr.2.2 a ha b hb
theorem insE_len (l:List EntV) (x:EntV):(insE l x).length=l.length+1:=by
 unfold insE
 have:=atE_le l x.name
 simp only [List.length_append,List.length_take,List.length_cons,List.length_drop]
 omega
theorem listO_valid {xs:List ByteArray} {n:Int}:ValidE (listO xs n).1:=by
 have hnil:ValidE []:=⟨fun x hx=>by simp at hx,List.Pairwise.nil⟩
 unfold listO
 split
 ·exact hnil
 ·split
  ·exact hnil
  ·cases h:entsO (readO xs n 0 8960).1 with
   | none=>exact hnil
   | some l=>exact (entsO_some h).2.1
section
variable {xs ys V:List ByteArray} {m n sz size:Nat} {l l':List Nat} {f:Nat→UInt8} {d:List UInt8}
theorem cutG_low (gok:OkS xs.length m (xs,l)) (gown:OwnS xs m l) (hs:size≤8960) (hc:size<sizeX l):CutS m size xs l (cutG noK xs m l size):=by
 have hv:IsVol xs m:=gok.vol
 have hl12:l.length=12:=gok.fit.1
 have hn:=needN_le hs
 have hok:=cutG_ok (noK_ok m) gok hs
 have h0:OkS xs.length m (xs,l.set 3 size):=⟨hv,rfl,gok.fit.size (by omega)⟩
 have m0:=size_mv hv gown size
 have hz0:sizeX (l.set 3 size)=size:=by rw [sizeX_set hl12];omega
 unfold cutG at hok ⊢
 unfold noK at hok ⊢
 ·rw [if_pos hc] at hok ⊢
  unfold shortG at hok ⊢
  have a:=dropN_mv h0 m0.own (k:=needN size) (70-needN size) (by omega)
  have hsz:=a.size
  revert hok a hsz
  change OkS xs.length m (tailZ m size (dropI noK m size (dropN noK m (needN size) (xs,l.set 3 size) (70-needN size))))→DroS m xs (l.set 3 size) (fun s=>needN size≤s∧s<needN size+(70-needN size)) (dropN noK m (needN size) (xs,l.set 3 size) (70-needN size))→(dropN noK m (needN size) (xs,l.set 3 size) (70-needN size)).2.getD 3 0=(l.set 3 size).getD 3 0→CutS m size xs l (tailZ m size (dropI noK m size (dropN noK m (needN size) (xs,l.set 3 size) (70-needN size))))
  generalize dropN noK m (needN size) (xs,l.set 3 size) (70-needN size)=q
  obtain ⟨qx,ql⟩:=q
  intro hok a hsz
  have okq:OkS qx.length m (qx,ql):=⟨a.ok.vol,rfl,a.ok.fit⟩
  have atq:∀ s,s<70→atX qx m ql s=if s<needN size then atX xs m l s else 0:=fun s h1=>by
   have:=a.slot s (by omega)
   rw [slotX_lt h1,slotX_lt h1,atX_size] at this
   rw [this]
   by_cases e:s<needN size
   ·rw [if_neg (by omega),if_pos e]
   ·rw [if_pos (by omega),if_neg e]
  have c:=dropI_mv (size:=size) okq a.mv.own (fun h1 s h2 h3=>by
   rw [atq s h3,if_neg]
   unfold needN;omega)
  have hsz2:=c.size
  revert hok c hsz2
  generalize dropI noK m size (qx,ql)=t
  obtain ⟨tx,tl⟩:=t
  intro hok c hsz2
  have att:∀ s,s<70→atX tx m tl s=if s<needN size then atX xs m l s else 0:=fun s h1=>by
   have:=c.slot s (by omega)
   rw [slotX_lt h1,slotX_lt h1,if_neg (by omega)] at this
   rw [this,atq s h1]
  have indt:slotX tx m tl 70≠0→slotX xs m l 70≠0∧768<size:=fun h1=>by
   rw [c.slot 70 (by omega)] at h1
   by_cases e:size≤768
   ·rw [if_pos ⟨e,rfl⟩] at h1;exact absurd rfl h1
   ·rw [if_neg (fun h=>e h.1),a.slot 70 (by omega),if_neg (by omega),slotX_size] at h1
    exact ⟨h1,by omega⟩
  have byt:∀ i,i<8960→byteX tx m tl i=if i / 128<needN size then byteX xs m l i else 0:=fun i hi=>by
   rw [c.byte i hi,if_neg (by omega),a.byte i hi,byteX_size]
   by_cases e:i / 128<needN size
   ·rw [if_neg (by omega),if_pos e]
   ·rw [if_pos (by omega),if_neg e]
  have szt:sizeX tl=size:=by
   have e1:tl.getD 3 0=(l.set 3 size).getD 3 0:=hsz2.trans hsz
   unfold sizeX at hz0 ⊢
   rw [e1];exact hz0
  have mvt:MvS m xs l tx tl:=m0.trans (a.mv.trans c.mv)
  unfold tailZ at hok ⊢
  by_cases ht:size % 128≠0∧atX (tx,tl).1 m (tx,tl).2 (size / 128)≠0
  ·rw [if_pos ht] at hok ⊢
   have h1:size / 128<70:=by
    refine Classical.not_not.1 (fun h=>?_)
    have:size=8960:=by omega
    rw [this] at ht
    exact ht.1 rfl
   obtain ⟨c1,c2,c3⟩:=lay_mv (d:=List.replicate (128-size % 128) 0) mvt.vol mvt.own h1 (rfl:atX tx m tl (size / 128)=_) ht.2 (p:=size % 128) (by rw [List.length_replicate];omega)
   refine ⟨hok,mvt.trans c1,fun s h1=>?_,fun h1=>?_,fun i hi=>?_,szt⟩
   ·have:=c2 s (by omega)
    rw [slotX_lt h1,slotX_lt h1] at this
    exact this.trans (att s h1)
   ·rw [show slotX _ m _ 70=slotX tx m tl 70 from c2 70 (by omega)] at h1
    exact indt h1
   ·refine (c3 i hi).trans ?_
    rw [byt i hi,List.length_replicate]
    by_cases e:i<size
    ·rw [if_neg (by omega),if_pos (by unfold needN;omega),if_pos e]
    ·rw [if_neg e]
     by_cases e2:i / 128=size / 128∧size % 128≤i % 128∧i % 128<size % 128+(128-size % 128)
     ·rw [if_pos e2,List.getD_eq_getElem?_getD,List.getElem?_replicate]
      split <;> rfl
     ·rw [if_neg e2,if_neg (by unfold needN;omega)]
  ·rw [if_neg ht] at hok ⊢
   refine ⟨hok,mvt,att,indt,fun i hi=>?_,szt⟩
   refine (byt i hi).trans ?_
   by_cases e:i<size
   ·rw [if_pos (by unfold needN;omega),if_pos e]
   ·rw [if_neg e]
    by_cases e2:i / 128<needN size
    ·rw [if_pos e2]
     have hm:size % 128≠0:=by unfold needN at e2;omega
     have hk:i / 128=size / 128:=by unfold needN at e2;omega
     have hz:atX tx m tl (size / 128)=0:=Classical.not_not.1 (fun h=>ht ⟨hm,h⟩)
     have:=byt i hi
     rw [if_pos e2] at this
     rw [← this]
     unfold byteX
     rw [hk,if_pos hz]
    ·rw [if_neg e2]
structure FileS (V:List ByteArray) (m n sz:Nat) (f:Nat→UInt8):Prop where
 num1:1≤n
 num2:n≤m
 ok:OkS V.length m (V,getR V (n:Int))
 own:OwnS V m (getR V (n:Int))
 kind:(getR V (n:Int)).getD 0 0=2
 size:sizeX (getR V (n:Int))=sz
 byte:∀ i,i<sz→byteX V m (getR V (n:Int)) i=f i
theorem FileS.small (h:FileS V m n sz f):sz≤8960:=by rw [← h.size];exact sizeX_le _
theorem FileS.put (h:FileS V m n sz f) (mv:MvS m V (getR V (n:Int)) ys l') (ok:OkS V.length m (ys,l')) {sz':Nat} {g:Nat→UInt8} (hz:sizeX l'=sz') (hb:∀ i,i<sz'→byteX ys m l' i=g i):FileS (putV ys n l') m n sz' g:=by
 have hv:=mv.vol
 have hg:getR (putV ys n l') (n:Int)=l':=get_put_same hv h.num1 h.num2 ok.fit
 refine ⟨h.num1,h.num2,?_,?_,?_,?_,?_⟩
 ·rw [hg];exact ⟨hv.putI h.num1 h.num2 l',rfl,ok.fit⟩
 ·rw [hg];exact mv.own.put hv h.num1 h.num2 l'
 ·rw [hg,mv.keep 0 (by omega)];exact h.kind
 ·rw [hg];exact hz
 ·intro i hi
  rw [hg,byteX_put hv h.num1 h.num2]
  exact hb i hi
theorem FileS.write (h:FileS V m n sz f) (hd:0<d.length) :
  (writeO V (n:Int) 0 d).2=0∧d.length≤8960∧(∃ r,WroS m 0 d V (getR V (n:Int)) r∧(writeO V (n:Int) 0 d).1=putV r.1 n r.2)∧FileS (writeO V (n:Int) 0 d).1 m n (max sz d.length) (wrF 0 d f)
  ∨ (writeO V (n:Int) 0 d).1=[]∧((writeO V (n:Int) 0 d).2=6∧8960<d.length∨(writeO V (n:Int) 0 d).2=10∧wriG noK V m (getR V (n:Int)) 0 d=none):=by
 have hne:d≠[]:=fun e=>by rw [e] at hd;exact absurd hd (by simp)
 unfold writeO
 rw [inoE_zero h.ok.vol h.num1 h.num2,if_neg (by simp),if_neg (by omega)]
 by_cases hb:8960<(0:Int)∨8960<(0:Int)+(d.length:Int)
 ·rw [if_pos hb]
  exact .inr ⟨rfl,.inl ⟨rfl,by omega⟩⟩
 ·rw [if_neg hb,mO_vol h.ok.vol]
  show _∨_
  rw [show (0:Int).toNat=0 from rfl]
  cases hw:wriG noK V m (getR V (n:Int)) 0 d with
  | none=>exact .inr ⟨rfl,.inr ⟨rfl,rfl⟩⟩
  | some r=>
   have ws:=wriG_mv h.ok h.own (by omega) hw
   refine .inl ⟨rfl,by omega,⟨r,ws,by simp⟩,?_⟩
   have hsz:=ws.size
   rw [if_neg hne,h.size,Nat.zero_add] at hsz
   have hs8:=h.small
   refine h.put (ys:=r.1) (l':=r.2) ws.mv ws.ok hsz (fun i hi=>?_)
   rw [ws.byte i (by omega)]
   unfold wrF
   by_cases hi2:0≤i∧i<0+d.length
   ·rw [if_pos hi2,if_pos hi2]
   ·rw [if_neg hi2,if_neg hi2]
    exact h.byte i (by omega)
theorem FileS.cut (h:FileS V m n sz f) (hs:size<sz) :
  (cutO V (n:Int) (size:Int)).2=0∧(∃ r,CutS m size V (getR V (n:Int)) r∧(cutO V (n:Int) (size:Int)).1=putV r.1 n r.2)∧FileS (cutO V (n:Int) (size:Int)).1 m n size f:=by
 have hs8:=h.small
 have cs:=cutG_low h.ok h.own (size:=size) (by omega) (by rw [h.size];exact hs)
 unfold cutO
 rw [inoE_zero h.ok.vol h.num1 h.num2,if_neg (by simp),if_neg (by omega),if_neg (by omega),mO_vol h.ok.vol]
 show _∧_∧_
 rw [show ((size:Nat):Int).toNat=size from rfl]
 refine ⟨rfl,⟨_,cs,by simp⟩,?_⟩
 refine h.put cs.mv cs.ok cs.size (fun i hi=>?_)
 rw [cs.byte i (by omega),if_pos hi]
 exact h.byte i (by omega)
theorem FileS.read (h:FileS V m n sz f):readO V (n:Int) 0 8960=((List.range sz).map f,0):=by
 unfold readO
 rw [inoE_zero h.ok.vol h.num1 h.num2,if_neg (by simp),if_neg (by omega),mO_vol h.ok.vol]
 unfold readX spanX
 have:=h.small
 rw [h.size,show min ((0:Int).toNat+(8960:Int).toNat) sz-(0:Int).toNat=sz by show min (0+8960) _-0=_;omega]
 congr 1
 rw [List.range_eq_range']
 exact List.map_congr_left fun i hi=>h.byte i (by have:=List.mem_range'.1 hi;omega)
structure DirS (V:List ByteArray) (m n:Nat) (E:List EntV):Prop where
 file:FileS V m n (32 * E.length) (fun i=>(bytesE E).getD i 0)
 valid:ValidE E
theorem range_getD (l:List UInt8):(List.range l.length).map (fun i=>l.getD i 0)=l:=by
 apply List.ext_getElem?
 intro i
 by_cases hi:i<l.length
 ·rw [List.getElem?_map,List.getElem?_range hi,Option.map_some,List.getD_eq_getElem?_getD,List.getElem?_eq_getElem hi];rfl
 ·rw [List.getElem?_eq_none (by simp;omega),List.getElem?_eq_none (by omega)]
theorem DirS.list {E:List EntV} (h:DirS V m n E):listO V (n:Int)=(E,0):=by
 unfold listO
 rw [inoE_zero h.file.ok.vol h.file.num1 h.file.num2,if_neg (by simp),if_neg (by rw [h.file.kind];simp),h.file.read]
 have hl:=bytesE_len h.valid.ok
 have:(List.range (32 * E.length)).map (fun i=>(bytesE E).getD i 0)=bytesE E:=by rw [← hl];exact range_getD _
 dsimp only
 rw [this,entsO_bytesE h.valid]
theorem DirS.more {E E':List EntV} (h:DirS V m n E) (hv:ValidE E') (hl:E.length≤E'.length) (h0:0<E'.length) :
  (writeO V (n:Int) 0 (bytesE E')).2=0∧(∃ r,WroS m 0 (bytesE E') V (getR V (n:Int)) r∧(writeO V (n:Int) 0 (bytesE E')).1=putV r.1 n r.2)∧DirS (writeO V (n:Int) 0 (bytesE E')).1 m n E'
  ∨ (writeO V (n:Int) 0 (bytesE E')).1=[]∧((writeO V (n:Int) 0 (bytesE E')).2=6∧8960<(bytesE E').length∨(writeO V (n:Int) 0 (bytesE E')).2=10∧wriG noK V m (getR V (n:Int)) 0 (bytesE E')=none):=by
 have hb:=bytesE_len hv.ok
 rcases h.file.write (d:=bytesE E') (by omega) with ⟨a,b,c,g⟩ | g
 ·refine .inl ⟨a,c,?_,hv⟩
  rw [hb,show max (32 * E.length) (32 * E'.length)=32 * E'.length by omega] at g
  refine ⟨g.num1,g.num2,g.ok,g.own,g.kind,g.size,fun i hi=>(g.byte i hi).trans ?_⟩
  unfold wrF
  rw [if_pos (by omega)]
  rfl
 ·exact .inr g
theorem DirS.less {E E':List EntV} (h:DirS V m n E) (hv:ValidE E') (hl:E'.length<E.length) (h0:0<E'.length) (hw:(writeO V (n:Int) 0 (bytesE E')).2=0) :
  (cutO (writeO V (n:Int) 0 (bytesE E')).1 (n:Int) ((32 * E'.length:Nat):Int)).2=0∧DirS (cutO (writeO V (n:Int) 0 (bytesE E')).1 (n:Int) ((32 * E'.length:Nat):Int)).1 m n E':=by
 have hb:=bytesE_len hv.ok
 rcases h.file.write (d:=bytesE E') (by omega) with ⟨a,b,c,g⟩ | g
 ·rw [hb,show max (32 * E.length) (32 * E'.length)=32 * E.length by omega] at g
  have k:=g.cut (size:=32 * E'.length) (by omega)
  refine ⟨k.1,⟨⟨k.2.2.num1,k.2.2.num2,k.2.2.ok,k.2.2.own,k.2.2.kind,k.2.2.size,fun i hi=>(k.2.2.byte i hi).trans ?_⟩,hv⟩⟩
  unfold wrF
  rw [if_pos (by omega)]
  rfl
 ·rcases g.2 with g | g
  ·exact absurd (g.1.symm.trans hw) (by decide)
  ·exact absurd (g.1.symm.trans hw) (by decide)
theorem DirS.none {E:List EntV} (h:DirS V m n E) (hl:0<E.length):(cutO V (n:Int) 0).2=0∧DirS (cutO V (n:Int) 0).1 m n []:=by
 have k:=h.file.cut (size:=0) (by omega)
 exact ⟨k.1,⟨⟨k.2.2.num1,k.2.2.num2,k.2.2.ok,k.2.2.own,k.2.2.kind,k.2.2.size,fun i hi=>absurd hi (by simp)⟩,⟨fun x hx=>by simp at hx,List.Pairwise.nil⟩⟩⟩
end
section
variable {xs:List ByteArray} {m off n sz:Nat} {l:List Nat} {d:List UInt8}
theorem takX_room (hv:IsVol xs m) (h:1≤roomR xs):∃ i,freeR xs m=some i∧takX xs m=some (takeV xs i,i):=by
 cases hf:freeR xs m with
 | none=>rw [room_full hv hf] at h;omega
 | some i=>exact ⟨i,rfl,by unfold takX;rw [hf];rfl⟩
theorem pla_some (h:OkS xs.length m (xs,l)) {k:Nat} (hk:atX xs m l k≠0∨2≤roomR xs):∃ r,plaG noK xs m l k=some r:=by
 unfold plaG
 by_cases h0:atX xs m l k≠0
 ·rw [if_pos h0];exact ⟨_,rfl⟩
 ·rw [if_neg h0]
  have hr:=hk.resolve_left h0
  have hv:IsVol xs m:=h.vol
  obtain ⟨i,hi,ht⟩:=takX_room hv (by omega)
  unfold indG
  by_cases hc:k<6∨datB xs m (l.getD 10 0)=true
  ·rw [if_pos hc,Option.bind_some,ht]
   exact ⟨_,rfl⟩
  ·rw [if_neg hc,ht,Option.map_some,Option.bind_some]
   obtain ⟨f1,f2,_,_,_⟩:=free_facts hv hi
   have hv2:IsVol (takeV xs i) m:=hv.take f1 f2
   have hr2:=room_take hv hi
   obtain ⟨i2,hi2,ht2⟩:=takX_room hv2 (by omega)
   show ∃ r,(takX (noK (takeV xs i) (l.set 10 i)) m).map _=some r
   rw [show noK (takeV xs i) (l.set 10 i)=takeV xs i from rfl,ht2]
   exact ⟨_,rfl⟩
theorem cntS_le {B:Nat} (hB:∀ s,s<70→atX xs m l s≠0→s<B):cntS xs m l≤B+1:=by
 unfold cntS
 have h1:((List.range 71).filter fun s=>slotX xs m l s != 0).length≤((List.range 71).filter fun s=>decide (s<B) || decide (s=70)).length:=by
  rw [← List.countP_eq_length_filter,← List.countP_eq_length_filter]
  refine List.countP_mono_left fun s hs he=>?_
  have hs:=List.mem_range.1 hs
  by_cases h70:s=70
  ·simp [h70]
  ·have:=hB s (by omega) (by rw [slotX_lt (by omega)] at he;simpa using he)
   simp [this]
 refine Nat.le_trans h1 ?_
 have h2:∀ N,((List.range N).filter fun s=>decide (s<B) || decide (s=70)).length≤min N B+(if 70<N then 1 else 0):=fun N=>by
  induction N with
  | zero=>simp
  | succ N ih=>
   rw [List.range_succ,List.filter_append,List.length_append]
   by_cases h1:N<B
   ·have:(List.filter (fun s=>decide (s<B) || decide (s=70)) [N]).length=1:=by simp [h1]
    rw [this]
    split at ih <;> split <;> omega
   ·by_cases h2:N=70
    ·have:(List.filter (fun s=>decide (s<B) || decide (s=70)) [N]).length=1:=by simp [h2]
     rw [this]
     split at ih <;> split <;> omega
    ·have:(List.filter (fun s=>decide (s<B) || decide (s=70)) [N]).length=0:=by simp [h1,h2]
     rw [this]
     split at ih <;> split <;> omega
 have:=h2 71
 rw [if_pos (by omega)] at this
 omega
theorem wri_room {B:Nat} (h:OkS xs.length m (xs,l)) (o:OwnS xs m l) (hB:∀ s,s<70→atX xs m l s≠0→s<B) (hb:B≤70) (hr:B+3≤roomR xs+cntS xs m l):∀ (j:Nat),off / 128+j≤B→∃ r,wriN noK m off d (xs,l) j=some r
 | 0,_=>⟨_,rfl⟩
 | j+1,hj=>by
  obtain ⟨q,hq⟩:=wri_room h o hB hb hr j (by omega)
  have p:=wriN_mv h o j (by omega) hq
  obtain ⟨qx,ql⟩:=q
  have hc:cntS qx m ql≤B+1:=cntS_le fun s hs h0=>by
   rcases (p.at_ s hs).1 h0 with h1 | h1
   ·exact hB s hs h1
   ·omega
  have hm:=p.mv.room
  dsimp only at hm
  obtain ⟨t,ht⟩:=pla_some (xs:=qx) (l:=ql) ⟨p.ok.vol,rfl,p.ok.fit⟩ (k:=off / 128+j) (.inr (by omega))
  rw [wriN,hq,Option.bind_some]
  unfold wriK
  rw [ht]
  exact ⟨_,rfl⟩
theorem wriG_some (h:∃ r,wriN noK m off d (xs,l) (fallN off d.length)=some r):wriG noK xs m l off d≠none:=by
 obtain ⟨r,hr⟩:=h
 unfold wriG
 split
 ·simp
 ·rw [hr];simp
end
theorem DirS.add {V:List ByteArray} {m n:Nat} {E:List EntV} (h:DirS V m n E) {nm:ByteArray} {ino:Int} (hk:okE ⟨nm,ino⟩=true) (hh:hasE E nm=false) :
  addO V (n:Int) nm ino=writeO V (n:Int) 0 (bytesE (insE E ⟨nm,ino⟩)) ∧
  ((addO V (n:Int) nm ino).2=0∧(∃ r,WroS m 0 (bytesE (insE E ⟨nm,ino⟩)) V (getR V (n:Int)) r∧(addO V (n:Int) nm ino).1=putV r.1 n r.2)∧DirS (addO V (n:Int) nm ino).1 m n (insE E ⟨nm,ino⟩)
  ∨ (addO V (n:Int) nm ino).1=[]∧((addO V (n:Int) nm ino).2=6∧8960<(bytesE (insE E ⟨nm,ino⟩)).length∨(addO V (n:Int) nm ino).2=10∧wriG noK V m (getR V (n:Int)) 0 (bytesE (insE E ⟨nm,ino⟩))=Option.none)):=by
 obtain ⟨hm,_,_,h1,h2⟩:=okE_ok hk
 have hl:=h.list
 have e:addO V (n:Int) nm ino=writeO V (n:Int) 0 (bytesE (insE E ⟨nm,ino⟩)):=by
  unfold addO
  rw [if_neg (by rw [hm];simp),if_neg (by dsimp only at h1 h2;omega),hl]
  dsimp only
  rw [if_neg (by simp),if_neg (by rw [hh];simp)]
 refine ⟨e,?_⟩
 rw [e]
 have hlen:=insE_len E ⟨nm,ino⟩
 exact h.more (insE_valid h.valid hk hh) (by omega) (by omega)
def trimP (l:List UInt8):List UInt8:=Lib.trimPrefix l [47]
def endP (t:List UInt8):Nat:=if Lib.indexByte t 47<0 then t.length else (Lib.indexByte t 47).toNat
theorem index_lt:∀ (t:List UInt8) (c:UInt8),Lib.indexByte t c<t.length ∧ -1≤Lib.indexByte t c∧(0≤Lib.indexByte t c→t[(Lib.indexByte t c).toNat]?=some c∧c ∉ t.take (Lib.indexByte t c).toNat)∧(Lib.indexByte t c<0→c ∉ t)
 | [],c=>by unfold Lib.indexByte;simp
 | b::l,c=>by
  obtain ⟨h1,h2,h3,h4⟩:=index_lt l c
  unfold Lib.indexByte
  by_cases hb:(b == c)=true
  ·rw [if_pos hb]
   have e:=beq_iff_eq.1 hb
   subst e
   refine ⟨by simp,by omega,fun _=>⟨rfl,by simp⟩,fun h=>by omega⟩
  ·rw [if_neg hb]
   have hne:¬ b=c:=fun e=>hb (beq_iff_eq.2 e)
   by_cases hi:(Lib.indexByte l c == -1)=true
   ·rw [if_pos hi]
    have e:=beq_iff_eq.1 hi
    refine ⟨by simp;omega,by omega,fun h=>by omega,fun _=>?_⟩
    rw [List.mem_cons]
    rintro (h | h)
    ·exact hne h.symm
    ·exact h4 (by omega) h
   ·rw [if_neg hi]
    have hp:0≤Lib.indexByte l c:=by
     rcases Int.lt_or_le (Lib.indexByte l c) 0 with h | h
     ·exact absurd (beq_iff_eq.2 (show Lib.indexByte l c = -1 by omega)) hi
     ·exact h
    have e:(Lib.indexByte l c+1).toNat=(Lib.indexByte l c).toNat+1:=by omega
    refine ⟨by simp;omega,by omega,fun _=>?_,fun h=>by omega⟩
    rw [e,List.getElem?_cons_succ,List.take_succ_cons]
    refine ⟨(h3 hp).1,?_⟩
    rw [List.mem_cons]
    rintro (h | h)
    ·exact hne h.symm
    ·exact (h3 hp).2 h
theorem endP_le (t:List UInt8):endP t≤t.length:=by
 unfold endP
 have:=(index_lt t 47).1
 split <;> omega
theorem trimP_le (l:List UInt8):(trimP l).length≤l.length:=by
 unfold trimP Lib.trimPrefix
 split
 ·rw [List.length_drop];omega
 ·exact Nat.le_refl _
def restP (l:List UInt8):List UInt8:=(trimP l).drop (endP (trimP l))
def headP (l:List UInt8):List UInt8:=(trimP l).take (endP (trimP l))
theorem restP_lt {l:List UInt8} (h:l≠[]):(restP l).length<l.length:=by
 unfold restP
 rw [List.length_drop]
 have h1:=trimP_le l
 cases l with
 | nil=>exact absurd rfl h
 | cons b l=>
  by_cases hb:b=47
  ·subst hb
   have e:trimP (47::l)=l:=by unfold trimP Lib.trimPrefix Lib.hasPrefix;simp
   rw [e,List.length_cons]
   omega
  ·have e:trimP (b::l)=b::l:=by
    unfold trimP Lib.trimPrefix Lib.hasPrefix
    rw [if_neg]
    simp only [List.isPrefixOf,Bool.and_true,beq_iff_eq]
    exact fun e=>hb e.symm
   rw [e]
   have h0:0<endP (b::l):=by
    unfold endP Lib.indexByte
    rw [if_neg (show ¬ (b == 47)=true from fun e=>hb (beq_iff_eq.1 e))]
    obtain ⟨q1,q2,_⟩:=index_lt l 47
    by_cases hi:(Lib.indexByte l 47 == -1)=true
    ·rw [if_pos hi,if_pos (by omega)];simp
    ·rw [if_neg hi]
     have:¬ Lib.indexByte l 47 = -1:=fun e=>hi (beq_iff_eq.2 e)
     rw [if_neg (by omega)]
     omega
   rw [List.length_cons]
   omega
def namesK:Nat→List UInt8→List (List UInt8)
 | 0,_=>[]
 | k+1,l=>if l=[] then [] else headP l::namesK k (restP l)
theorem namesK_fuel:∀ (k:Nat) (l:List UInt8),l.length≤k→namesK k l=namesK l.length l
 | 0,l,h=>by
  have e:l=[]:=List.eq_nil_of_length_eq_zero (by omega)
  subst e;rfl
 | k+1,l,h=>by
  by_cases e:l=[]
  ·subst e;rfl
  ·obtain ⟨n,hn⟩:∃ n,l.length=n+1:=⟨l.length-1,by have:=List.length_pos_iff.2 e;omega⟩
   have:=restP_lt e
   rw [hn,namesK,namesK,if_neg e,if_neg e,namesK_fuel k _ (by omega),namesK_fuel n _ (by omega)]
 termination_by k=>k
def namesL (l:List UInt8):List (List UInt8):=namesK l.length l
theorem namesL_nil:namesL []=[]:=rfl
theorem namesL_cons {l:List UInt8} (h:l≠[]):namesL l=headP l::namesL (restP l):=by
 obtain ⟨n,hn⟩:∃ n,l.length=n+1:=⟨l.length-1,by have:=List.length_pos_iff.2 h;omega⟩
 have:=restP_lt h
 unfold namesL
 rw [hn,namesK,if_neg h,namesK_fuel n _ (by omega)]
theorem namesL_len:∀ (n:Nat) (l:List UInt8),l.length≤n→(namesL l).length≤l.length
 | 0,l,h=>by
  have e:l=[]:=List.eq_nil_of_length_eq_zero (by omega)
  subst e;exact Nat.zero_le _
 | n+1,l,h=>by
  by_cases e:l=[]
  ·subst e;exact Nat.zero_le _
  ·have h1:=restP_lt e
   rw [namesL_cons e,List.length_cons]
   have:=namesL_len n (restP l) (by omega)
   omega
def namesP (p:List UInt8):List (List UInt8):=if p=[47] then [] else namesL p
theorem namesP_len (p:List UInt8):(namesP p).length≤p.length:=by
 unfold namesP
 split
 ·exact Nat.zero_le _
 ·exact namesL_len _ p (Nat.le_refl _)
def mayP (p:List UInt8):Bool:=Lib.hasPrefix p [47] && decide (p.length≤200) && (namesP p).all mayB && decide ((namesP p).length≤8)
def goO (xs:List ByteArray) (n:Int):List (List UInt8)→Int × Int
 | []=>(n,0)
 | x::r=>if (findO xs n ⟨x.toArray⟩).2≠0 then (0,(findO xs n ⟨x.toArray⟩).2) else goO xs (findO xs n ⟨x.toArray⟩).1 r
def pathO (xs:List ByteArray) (p:List UInt8):Int × Int:=if mayP p=false then (0,7) else goO xs 1 (namesP p)
theorem goO_append (xs:List ByteArray):∀ (a:List (List UInt8)) (n:Int) (b:List (List UInt8)),goO xs n (a++b)=if (goO xs n a).2≠0 then (0,(goO xs n a).2) else goO xs (goO xs n a).1 b
 | [],n,b=>by simp [goO]
 | x::a,n,b=>by
  rw [List.cons_append,goO,goO]
  by_cases h:(findO xs n ⟨x.toArray⟩).2≠0
  ·rw [if_pos h,if_pos h,if_pos h]
  ·rw [if_neg h,if_neg h,goO_append xs a]
theorem goO_snoc (xs:List ByteArray) (n:Int) (a:List (List UInt8)) (x:List UInt8) (h:(goO xs n a).2=0):goO xs n (a++[x])=if (findO xs (goO xs n a).1 ⟨x.toArray⟩).2≠0 then (0,(findO xs (goO xs n a).1 ⟨x.toArray⟩).2) else ((findO xs (goO xs n a).1 ⟨x.toArray⟩).1,0):=by
 rw [goO_append,if_neg (by rw [h];simp)]
 rfl
theorem goO_stop (xs:List ByteArray) (n:Int) (a b:List (List UInt8)) (h:(goO xs n a).2≠0):goO xs n (a++b)=(0,(goO xs n a).2):=by
 rw [goO_append,if_pos h]
open Go.RowKit
section
variable {B:Nat} {g m n:Nat} {V:List ByteArray} {l:List Nat}
set_option maxHeartbeats 1000000 in
theorem is_any (k:Nat) (w:World) (h:FileX B w g m n V l):Calls Tryz.prog 58 #[.pointer (some ⟨g,0,none⟩),.int .i64 k] w fun e w'=>e=.returned (.bool (datB V m k))∧w=w':=by
 obtain ⟨gv,c,h⟩:=h
 have hc1:=h.c1
 have hc6:=h.c6
 have HD:Hid (datB V m k=decide (dataN m≤k∧k<V.length)):=rfl
 clear h
 generalize dataN m=d at *
 generalize V.length=q at *
 by_cases h1:d≤k
 ·by_cases h2:k<q
  ·go_enter Tryz.func58,Tryz.ntmps58
   go_wp2
   go_ret
   exact ⟨ret_bool (by rw [HD.out];simp [h1,h2]),rfl⟩
  ·go_enter Tryz.func58,Tryz.ntmps58
   go_wp2
   go_ret
   exact ⟨ret_bool (by rw [HD.out];simp [h1,h2]),rfl⟩
 ·go_enter Tryz.func58,Tryz.ntmps58
  go_wp2
  go_ret
  exact ⟨ret_bool (by rw [HD.out];simp [h1]),rfl⟩
set_option maxHeartbeats 1000000 in
theorem size_any (w:World) (h:FileX B w g m n V l):Calls Tryz.prog 99 #[.pointer (some ⟨g,0,none⟩)] w fun e w'=>e=.returned (.int .i64 (sizeX l:Nat))∧w=w':=by
 obtain ⟨gv,c,h⟩:=h
 have hc3:w.cell? ⟨g,11,none⟩=some (.int .i64 ((l.getD 3 0:Nat):Int)):=h.ino 3 (by omega)
 have hl:=fit_lt h.fit 3
 have HS:Hid (sizeX l=min (l.getD 3 0) 8960):=rfl
 clear h
 generalize l.getD 3 0=s at *
 go_enter Tryz.func99,Tryz.ntmps99
 go_wp2
 go_ret
 exact ⟨ret_int (by rw [HS.out];omega),rfl⟩
theorem two_sub (s:ByteArray) (p:Nat):leN ((s.extract p (p+2)).data.toList.take 8)=numAt s.data.toList p 2:=by
 unfold numAt
 rw [Lib.extract_data,Nat.add_sub_cancel_left,List.take_take]
 rfl
set_option maxHeartbeats 2000000 in
theorem at_any (k:Nat) (w:World) (hk:k<70) (h:FileX B w g m n V l):Calls Tryz.prog 175 #[.pointer (some ⟨g,0,none⟩),.int .i64 k] w fun e w'=>e=.returned (.int .i64 (atI (atX V m l k)))∧Below w.heap.size w w':=by
 have HX:=Lib.hid h
 obtain ⟨gv,c,h⟩:=h
 have HI:=Lib.hid (fun (k:Nat) (w:World) (h:FileX B w g m n V l)=>is_any k w h)
 have HA:Hid (∀ r,rawX V m l k=r→atI (atX V m l k)=if datB V m r=true then (r:Int) else -1):=fun r hr=>by
  unfold atX
  rw [hr]
  by_cases hd:datB V m r=true
  ·rw [if_pos hd,if_pos hd]
   have:=datB_pos hd
   unfold atI
   rw [if_neg (by omega)]
  ·rw [if_neg hd,if_neg hd];rfl
 have hsm:=h.small
 by_cases h6:k<6
 ·have hcell:w.cell? ⟨g,8+(4+k),none⟩=some (.int .i64 ((l.getD (4+k) 0:Nat):Int)):=h.ino (4+k) (by omega)
  have HR:Hid (rawX V m l k=l.getD (4+k) 0):=by show _=_;unfold rawX;rw [if_pos h6]
  have k1:(k:Int)<6:=by omega
  have k2:(0:Int)≤(k:Int):=by omega
  rw [show 8+(4+k)=12+k by omega] at hcell
  clear h
  generalize l.getD (4+k) 0=r at *
  have HF:=Lib.hid (HA.out r HR.out)
  cases hd:datB V m r with
  | true=>
   go_enter Tryz.func175,Tryz.ntmps175
   go_wp2_with fail
   refine (HI.out r _ HX.out).mono ?_
   rw [hd]
   rintro e w' ⟨rfl,rfl⟩
   go_wp2
   go_ret
   exact ⟨ret_int (by rw [HF.out,hd,if_pos rfl]),Below.refl _ _⟩
  | false=>
   go_enter Tryz.func175,Tryz.ntmps175
   go_wp2_with fail
   refine (HI.out r _ HX.out).mono ?_
   rw [hd]
   rintro e w' ⟨rfl,rfl⟩
   go_wp2
   go_ret
   exact ⟨ret_int (by rw [HF.out,hd];rfl),Below.refl _ _⟩
 ·have hcell:w.cell? ⟨g,18,none⟩=some (.int .i64 ((l.getD 10 0:Nat):Int)):=h.ino 10 (by omega)
  have h0:=h.c0
  have HR:Hid (rawX V m l k=if datB V m (l.getD 10 0)=true then numAt (blkL V (l.getD 10 0)) (2 * (k-6)) 2 else 0):=by show _=_;unfold rawX;rw [if_neg h6]
  have k1:¬ (k:Int)<6:=by omega
  have HS:Hid (∀ i,i<V.length→w.cell? ⟨gv,i,none⟩=some (.string (V.getD i ⟨#[]⟩))):=fun i hi=>h.str i hi
  have HZ:Hid (∀ i,i<V.length→(V.getD i ⟨#[]⟩).size=128):=fun i hi=>h.vol.size i hi
  have hli:=fit_lt h.fit 10
  clear h
  generalize l.getD 10 0=i at *
  cases hd:datB V m i with
  | false=>
   have HF:=Lib.hid (HA.out 0 (by rw [HR.out,hd];rfl))
   have hz:=datB_zero V m
   go_enter Tryz.func175,Tryz.ntmps175
   go_wp2_with fail
   refine (HI.out i _ HX.out).mono ?_
   rw [hd]
   rintro e w' ⟨rfl,rfl⟩
   go_wp2_with fail
   refine (HI.out 0 _ HX.out).mono ?_
   rw [hz]
   rintro e w' ⟨rfl,rfl⟩
   go_wp2
   go_ret
   exact ⟨ret_int (by rw [HF.out,hz];rfl),Below.refl _ _⟩
  | true=>
   have hlt:=(datB_iff.1 hd).2
   have hstr:=HS.out i hlt
   have hsz:=HZ.out i hlt
   obtain ⟨r,hr⟩:∃ r,numAt (blkL V i) (2 * (k-6)) 2=r:=⟨_,rfl⟩
   have HF:=Lib.hid (HA.out r (by rw [HR.out,hd,if_pos rfl,hr]))
   have hrl:r<65536:=by rw [← hr];exact numAt_lt _ _ 2
   unfold blkL at hr
   generalize V.getD i ⟨#[]⟩=s at *
   obtain ⟨p,hp⟩:∃ p,2 * (k-6)=p:=⟨_,rfl⟩
   rw [hp] at hr
   have p1:(2:Int) * ((k:Int)-6)=(p:Int):=by omega
   have p2:p+2≤128:=by omega
   have CG:Hid (∀ u:Ext w,Calls Tryz.prog 52 #[.string (s.extract p (p+2))] u.val fun e w'=>e=.returned (.int .u64 (r:Int))∧u.val=w'):=fun u=>by
    have:=get_any (s.extract p (p+2)) u.val (by rw [ByteArray.size_extract];omega)
    rw [two_sub,hr] at this
    exact this
   have u0:∀ u:Ext w,u.val.cell? ⟨g,0,none⟩=some (.slice (some ⟨gv,0,none⟩) V.length c):=fun u=>u.cell h0
   have u1:∀ u:Ext w,u.val.cell? ⟨g,18,none⟩=some (.int .i64 (i:Int)):=fun u=>u.cell hcell
   have u2:∀ u:Ext w,u.val.cell? ⟨gv,i,none⟩=some (.string s):=fun u=>u.cell hstr
   have s1:IntKind.i64.wrap ((p:Int)+2)=(p:Int)+2:=IntWalk.i64_in _ (by omega)
   have s2:(0:Int)≤(p:Int)+2:=by omega
   have s3:((p:Int)+2).toNat=p+2:=by omega
   have s4:IntKind.i64.wrap (r:Int)=(r:Int):=IntWalk.i64_in _ (by omega)
   have s5:(i:Int)<(V.length:Int):=by omega
   have s6:(0:Int)≤(i:Int):=by omega
   have s7:(0:Int)≤(p:Int):=by omega
   have s8:(p:Int)≤(p:Int)+2:=by omega
   have s9:(p:Int)+2≤(s.size:Int):=by omega
   have q1:IntKind.i64.wrap ((k:Int)-6)=(k:Int)-6:=IntWalk.i64_in _ (by omega)
   have q2:IntKind.i64.wrap ((2:Int) * ((k:Int)-6))=(p:Int):=by rw [p1];exact IntWalk.i64_in _ (by omega)
   have HK:=Lib.hid hr
   clear hr p1
   go_enter Tryz.func175,Tryz.ntmps175
   go_wp2_with fail
   refine (HI.out i _ HX.out).mono ?_
   rw [hd]
   rintro e w' ⟨rfl,rfl⟩
   go_wp2_with fail
   refine wp_region_ext (by kernel_rfl) (by kernel_rfl) ?_
   repeat (go_big_quiet_step (first
    | (go_at_call 52;with_reducible exact Ext.call_same (CG.out _))))
   refine wpQuiet_nil ?_
   rintro _ ⟨u,rfl⟩
   have UB:=Lib.hid u.below
   have HX2:=Lib.hid (HX.out.below u.below)
   generalize u.val=W2 at *
   clear u0 u1 u2 CG
   cases hd2:datB V m r with
   | true=>
    go_wp2_with fail
    refine (HI.out r _ HX2.out).mono ?_
    rw [hd2]
    rintro e w' ⟨rfl,rfl⟩
    go_wp2
    go_ret
    exact ⟨ret_int (by rw [HF.out,hd2,if_pos rfl]),UB.out⟩
   | false=>
    go_wp2_with fail
    refine (HI.out r _ HX2.out).mono ?_
    rw [hd2]
    rintro e w' ⟨rfl,rfl⟩
    go_wp2
    go_ret
    exact ⟨ret_int (by rw [HF.out,hd2];rfl),UB.out⟩
end
end Go.Proofs.YtdldlendppkknaaGreatDoor
