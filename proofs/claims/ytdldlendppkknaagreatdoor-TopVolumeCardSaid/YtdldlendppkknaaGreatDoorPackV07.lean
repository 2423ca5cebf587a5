/-
  Contracts and plain laws: ExtPl.
-/
import Derived.Test.YtdldlendppkknaaGreatDoorPackV06
namespace Go.Proofs.YtdldlendppkknaaGreatDoor
set_option linter.unusedVariables false
set_option linter.unusedSimpArgs false
def datB (xs:List ByteArray) (m k:Nat):Bool:=decide (dataN m≤k∧k<xs.length)
def rawX (xs:List ByteArray) (m:Nat) (l:List Nat) (k:Nat):Nat:=
 if k<6 then l.getD (4+k) 0 else if datB xs m (l.getD 10 0)=true then numAt (blkL xs (l.getD 10 0)) (2 * (k-6)) 2 else 0
def atX (xs:List ByteArray) (m:Nat) (l:List Nat) (k:Nat):Nat:=if datB xs m (rawX xs m l k)=true then rawX xs m l k else 0
def atI (k:Nat):Int:=if k=0 then -1 else k
def sizeX (l:List Nat):Nat:=min (l.getD 3 0) 8960
def needN (n:Nat):Nat:=(n+127) / 128
def manyX (xs:List ByteArray) (m:Nat) (l:List Nat) (n:Nat):Nat:=((List.range n).filter fun k=>atX xs m l k != 0).length
def countX (xs:List ByteArray) (m:Nat) (l:List Nat):Nat:=manyX xs m l 70+(if datB xs m (l.getD 10 0)=true then 1 else 0)+(if datB xs m (l.getD 11 0)=true then 1 else 0)
def byteX (xs:List ByteArray) (m:Nat) (l:List Nat) (i:Nat):UInt8:=if atX xs m l (i / 128)=0 then 0 else (blkL xs (atX xs m l (i / 128))).getD (i % 128) 0
def spanX (xs:List ByteArray) (m:Nat) (l:List Nat) (off en:Nat):List UInt8:=(List.range' off (en-off)).map (byteX xs m l)
def readX (xs:List ByteArray) (m:Nat) (l:List Nat) (off size:Nat):List UInt8:=spanX xs m l off (min (off+size) (sizeX l))
theorem datB_iff {xs:List ByteArray} {m k:Nat}:datB xs m k=true↔dataN m≤k∧k<xs.length:=by unfold datB;simp
theorem datB_pos {xs:List ByteArray} {m k:Nat} (h:datB xs m k=true):3≤k:=by
 have:=(datB_iff.1 h).1
 unfold dataN at this
 omega
theorem datB_len {xs ys:List ByteArray} (m k:Nat) (h:xs.length=ys.length):datB xs m k=datB ys m k:=by unfold datB;rw [h]
theorem datB_zero (xs:List ByteArray) (m:Nat):datB xs m 0=false:=by
 cases h:datB xs m 0 with
 | false=>rfl
 | true=>have:=datB_pos h;omega
theorem atX_cases (xs:List ByteArray) (m:Nat) (l:List Nat) (k:Nat):atX xs m l k=0∨(datB xs m (atX xs m l k)=true∧atX xs m l k=rawX xs m l k):=by
 unfold atX
 by_cases h:datB xs m (rawX xs m l k)=true
 ·rw [if_pos h];exact .inr ⟨h,rfl⟩
 ·rw [if_neg h];exact .inl rfl
theorem atX_dat {xs:List ByteArray} {m:Nat} {l:List Nat} {k:Nat} (h:atX xs m l k≠0):datB xs m (atX xs m l k)=true:=((atX_cases xs m l k).resolve_left h).1
theorem manyX_le (xs:List ByteArray) (m:Nat) (l:List Nat) (n:Nat):manyX xs m l n≤n:=by
 unfold manyX
 exact Nat.le_trans (List.length_filter_le _ _) (by simp)
theorem needN_le {n:Nat} (h:n≤8960):needN n≤70:=by unfold needN;omega
theorem sizeX_le (l:List Nat):sizeX l≤8960:=Nat.min_le_right _ _
theorem spanX_step (xs:List ByteArray) (m:Nat) (l:List Nat) (off en k:Nat) :
  spanX xs m l off (min en (128 * (k+1)))=spanX xs m l off (min en (128 * k))++(List.range' (max off (128 * k)) (min en (128 * (k+1))-max off (128 * k))).map (byteX xs m l):=by
 unfold spanX
 rw [← List.map_append]
 congr 1
 by_cases h:off≤min en (128 * k)
 ·by_cases h2:128 * k≤en
  ·rw [Nat.max_eq_right (by omega),Nat.min_eq_right h2]
   have e:min en (128 * (k+1))-off=(128 * k-off)+(min en (128 * (k+1))-128 * k):=by omega
   rw [e,← List.range'_append]
   congr 2
   omega
  ·rw [show min en (128 * (k+1))-max off (128 * k)=0 by omega,List.range'_zero,List.append_nil]
   congr 1
   omega
 ·rw [show min en (128 * k)-off=0 by omega,List.range'_zero,List.nil_append]
  by_cases h2:128 * k≤off
  ·rw [Nat.max_eq_left h2]
  ·rw [show min en (128 * (k+1))-off=0 by omega,show min en (128 * (k+1))-max off (128 * k)=0 by omega,List.range'_zero,List.range'_zero]
theorem span_piece (xs:List ByteArray) (m:Nat) (l:List Nat) (k p q:Nat) (hq:q≤128) (hz:atX xs m l k≠0→(blkL xs (atX xs m l k)).length=128) :
  (List.range' (128 * k+p) (q-p)).map (byteX xs m l)=if atX xs m l k=0 then List.replicate (q-p) 0 else ((blkL xs (atX xs m l k)).take q).drop p:=by
 apply List.ext_getElem?
 intro i
 by_cases hi:i<q-p
 ·have e1:(128 * k+p+i) / 128=k:=by omega
  have e2:(128 * k+p+i) % 128=p+i:=by omega
  rw [List.getElem?_map,List.getElem?_range' hi,Option.map_some]
  unfold byteX
  simp only [Nat.one_mul,e1,e2]
  by_cases h0:atX xs m l k=0
  ·rw [if_pos h0,if_pos h0,List.getElem?_replicate,if_pos hi]
  ·rw [if_neg h0,if_neg h0,List.getElem?_drop,List.getElem?_take,if_pos (by omega),List.getD_eq_getElem?_getD]
   have:=hz h0
   rw [List.getElem?_eq_getElem (by omega)];rfl
 ·rw [List.getElem?_eq_none (by simp;omega)]
  split
  ·rw [List.getElem?_eq_none (by simp;omega)]
  ·rename_i h0
   have:=hz h0
   rw [List.getElem?_eq_none (by simp;omega)]
def takX (xs:List ByteArray) (m:Nat):Option (List ByteArray × Nat):=(freeR xs m).map fun i=>(takeV xs i,i)
def giveV (xs:List ByteArray) (m b:Nat):List ByteArray:=if datB xs m b=true∧bitL (blkL xs 2) b=true then turnV xs b else xs
def layB (s:ByteArray) (p:Nat) (d:List UInt8):ByteArray:=⟨(s.data.toList.take p++d++s.data.toList.drop (p+d.length)).toArray⟩
def layX (xs:List ByteArray) (b p:Nat) (d:List UInt8):List ByteArray:=xs.set b (layB (xs.getD b ⟨#[]⟩) p d)
abbrev Kp:=List ByteArray→List Nat→List ByteArray
def noK:Kp:=fun xs _=>xs
def putK (n:Nat):Kp:=fun xs l=>putV xs n l
def nameG (kp:Kp) (xs:List ByteArray) (m:Nat) (l:List Nat) (k b:Nat):List ByteArray × List Nat:=
 if k<6 then (kp xs (l.set (4+k) b),l.set (4+k) b) else if datB xs m (l.getD 10 0)=true then (layX xs (l.getD 10 0) (2 * (k-6)) (putL b 2),l) else (xs,l)
def indG (kp:Kp) (xs:List ByteArray) (m:Nat) (l:List Nat) (k:Nat):Option (List ByteArray × List Nat):=
 if k<6∨datB xs m (l.getD 10 0)=true then some (xs,l) else (takX xs m).map fun r=>(kp r.1 (l.set 10 r.2),l.set 10 r.2)
def plaG (kp:Kp) (xs:List ByteArray) (m:Nat) (l:List Nat) (k:Nat):Option ((List ByteArray × List Nat) × Nat):=
 if atX xs m l k≠0 then some ((xs,l),atX xs m l k) else (indG kp xs m l k).bind fun s=>(takX s.1 m).map fun r=>(nameG kp r.1 m s.2 k r.2,r.2)
def wriK (kp:Kp) (m off:Nat) (d:List UInt8) (k:Nat) (s:List ByteArray × List Nat):Option (List ByteArray × List Nat):=
 (plaG kp s.1 m s.2 k).map fun r=>(layX r.1.1 r.2 (off-128 * k) ((d.drop (128 * k-off)).take (128-(off-128 * k))),r.1.2)
def wriN (kp:Kp) (m off:Nat) (d:List UInt8) (s:List ByteArray × List Nat):Nat→Option (List ByteArray × List Nat)
 | 0=>some s
 | j+1=>(wriN kp m off d s j).bind (wriK kp m off d (off / 128+j))
def fallN (off n:Nat):Nat:=if n=0 then 0 else (off+n-1) / 128+1-off / 128
def growG (kp:Kp) (en:Nat) (s:List ByteArray × List Nat):List ByteArray × List Nat:=if sizeX s.2<en then (kp s.1 (s.2.set 3 en),s.2.set 3 en) else s
def wriG (kp:Kp) (xs:List ByteArray) (m:Nat) (l:List Nat) (off:Nat) (d:List UInt8):Option (List ByteArray × List Nat):=
 if d=[] then some (xs,l) else (wriN kp m off d (xs,l) (fallN off d.length)).map (growG kp (off+d.length))
def dropK (kp:Kp) (m k:Nat) (s:List ByteArray × List Nat):List ByteArray × List Nat:=nameG kp (giveV s.1 m (atX s.1 m s.2 k)) m s.2 k 0
def dropN (kp:Kp) (m k0:Nat) (s:List ByteArray × List Nat):Nat→List ByteArray × List Nat
 | 0=>s
 | j+1=>dropK kp m (k0+j) (dropN kp m k0 s j)
def dropI (kp:Kp) (m size:Nat) (s:List ByteArray × List Nat):List ByteArray × List Nat:=
 if size≤768 then (kp (giveV s.1 m (s.2.getD 10 0)) (s.2.set 10 0),s.2.set 10 0) else s
def tailZ (m size:Nat) (s:List ByteArray × List Nat):List ByteArray × List Nat:=
 if size % 128≠0∧atX s.1 m s.2 (size / 128)≠0 then (layX s.1 (atX s.1 m s.2 (size / 128)) (size % 128) (List.replicate (128-size % 128) 0),s.2) else s
def shortG (kp:Kp) (m size:Nat) (s:List ByteArray × List Nat):List ByteArray × List Nat:=tailZ m size (dropI kp m size (dropN kp m (needN size) s (70-needN size)))
def cutG (kp:Kp) (xs:List ByteArray) (m:Nat) (l:List Nat) (size:Nat):List ByteArray × List Nat:=
 if size<sizeX l then shortG kp m size (kp xs (l.set 3 size),l.set 3 size) else (kp xs (l.set 3 size),l.set 3 size)
def mO (xs:List ByteArray):Nat:=(ofR xs).getD 0
theorem mO_vol {xs:List ByteArray} {m:Nat} (h:IsVol xs m):mO xs=m:=by unfold mO;rw [ofR_some.2 h];rfl
def countO (xs:List ByteArray) (n:Int):Nat:=if inoE xs n≠0 then 0 else countX xs (mO xs) (getR xs n)
def readO (xs:List ByteArray) (n off size:Int):List UInt8 × Int:=
 if inoE xs n≠0 then ([],inoE xs n) else if off<0∨size<0 then ([],1) else (readX xs (mO xs) (getR xs n) off.toNat size.toNat,0)
def writeO (xs:List ByteArray) (n off:Int) (d:List UInt8):List ByteArray × Int:=
 if inoE xs n≠0 then ([],inoE xs n) else if off<0 then ([],1) else if 8960<off∨8960<off+d.length then ([],6)
 else match wriG noK xs (mO xs) (getR xs n) off.toNat d with
  | none=>([],10)
  | some s=>(putV s.1 n.toNat s.2,0)
def cutO (xs:List ByteArray) (n size:Int):List ByteArray × Int:=
 if inoE xs n≠0 then ([],inoE xs n) else if size<0 then ([],1) else if 8960<size then ([],6)
 else (putV (cutG noK xs (mO xs) (getR xs n) size.toNat).1 n.toNat (cutG noK xs (mO xs) (getR xs n) size.toNat).2,0)
section
variable {xs:List ByteArray} {m n:Nat}
theorem datB_put (xs:List ByteArray) (m n:Nat) (l:List Nat) (k:Nat):datB (putV xs n l) m k=datB xs m k:=datB_len m k (putV_length xs n l)
theorem datB_ne (h1:1≤n) (h2:n≤m) {k:Nat} (hk:datB xs m k=true):k≠blkN n:=by
 have:=(blk_at h1 h2).2
 have:=(datB_iff.1 hk).1
 omega
theorem putV_dat (hv:IsVol xs m) (h1:1≤n) (h2:n≤m) (l:List Nat) {k:Nat} (hk:datB xs m k=true):blkL (putV xs n l) k=blkL xs k:=by
 rw [putV_blk hv h1 h2,if_neg (fun e=>datB_ne h1 h2 hk e.symm)]
theorem rawX_put (hv:IsVol xs m) (h1:1≤n) (h2:n≤m) (l l':List Nat) (k:Nat):rawX (putV xs n l) m l' k=rawX xs m l' k:=by
 unfold rawX
 rw [datB_put]
 by_cases h6:k<6
 ·rw [if_pos h6,if_pos h6]
 ·rw [if_neg h6,if_neg h6]
  by_cases hd:datB xs m (l'.getD 10 0)=true
  ·rw [if_pos hd,if_pos hd,putV_dat hv h1 h2 l hd]
  ·rw [if_neg hd,if_neg hd]
theorem atX_put (hv:IsVol xs m) (h1:1≤n) (h2:n≤m) (l l':List Nat) (k:Nat):atX (putV xs n l) m l' k=atX xs m l' k:=by
 unfold atX
 rw [rawX_put hv h1 h2,datB_put]
theorem blkL_two (hv:IsVol xs m) (h1:1≤n) (h2:n≤m) (l:List Nat):blkL (putV xs n l) 2=blkL xs 2:=by
 rw [putV_blk hv h1 h2,if_neg (fun e=>by have:=(blk_at h1 h2).1;omega)]
theorem freeR_put (hv:IsVol xs m) (h1:1≤n) (h2:n≤m) (l:List Nat):freeR (putV xs n l) m=freeR xs m:=by
 unfold freeR
 rw [putV_length,blkL_two hv h1 h2]
theorem set_putV (i:Nat) (s:ByteArray) (l:List Nat) (hi:i≠blkN n):(putV xs n l).set i s=putV (xs.set i s) n l:=by
 unfold putV
 have e:(xs.set i s).getD (blkN n) ⟨#[]⟩=xs.getD (blkN n) ⟨#[]⟩:=by
  simp only [List.getD_eq_getElem?_getD,List.getElem?_set_ne hi]
 rw [e,List.set_comm _ _ (Ne.symm hi)]
theorem turnV_put (hv:IsVol xs m) (h1:1≤n) (h2:n≤m) (l:List Nat) (i:Nat):turnV (putV xs n l) i=putV (turnV xs i) n l:=by
 have h3:=(blk_at h1 h2).1
 unfold turnV
 rw [putV_getD hv h1 h2 l 2 (by omega),set_putV _ _ _ (by omega)]
theorem takeV_put (hv:IsVol xs m) (h1:1≤n) (h2:n≤m) (l:List Nat) {i:Nat} (hi:dataN m≤i):takeV (putV xs n l) i=putV (takeV xs i) n l:=by
 have h3:=(blk_at h1 h2).2
 unfold takeV
 rw [turnV_put hv h1 h2,set_putV _ _ _ (by omega)]
theorem giveV_put (hv:IsVol xs m) (h1:1≤n) (h2:n≤m) (l:List Nat) (i:Nat):giveV (putV xs n l) m i=putV (giveV xs m i) n l:=by
 unfold giveV
 rw [datB_put,blkL_two hv h1 h2]
 by_cases h:datB xs m i=true∧bitL (blkL xs 2) i=true
 ·rw [if_pos h,if_pos h,turnV_put hv h1 h2]
 ·rw [if_neg h,if_neg h]
theorem layX_put (hv:IsVol xs m) (h1:1≤n) (h2:n≤m) (l:List Nat) {b:Nat} (hb:datB xs m b=true) (p:Nat) (d:List UInt8):layX (putV xs n l) b p d=putV (layX xs b p d) n l:=by
 unfold layX
 rw [putV_getD hv h1 h2 l b (datB_ne h1 h2 hb),set_putV _ _ _ (datB_ne h1 h2 hb)]
theorem putInoL_twice {bs:List UInt8} {p:Nat} {l l':List Nat} (h:p+24≤bs.length):putInoL (putInoL bs p l) p l'=putInoL bs p l':=by
 apply List.ext_getElem?
 intro i
 rw [putInoL_get _ _ _ (by rw [putInoL_len _ _ _ h];exact h),putInoL_get _ _ _ h,putInoL_get _ _ _ h]
 by_cases hi:p≤i∧i<p+24
 ·rw [if_pos hi,if_pos hi]
 ·rw [if_neg hi,if_neg hi,if_neg hi]
theorem putV_twice (hv:IsVol xs m) (h1:1≤n) (h2:n≤m) (l l':List Nat):putV (putV xs n l) n l'=putV xs n l':=by
 have hb:=blk_at h1 h2
 have hl:=hv.len
 have hz:=hv.blk (blkN n) (by omega)
 have ha:=atN_le n
 unfold putV
 rw [List.set_set]
 congr 1
 apply bytes_set_self
 rw [putInoB_list,putInoB_list]
 have e:((xs.set (blkN n) (putInoB (xs.getD (blkN n) ⟨#[]⟩) (atN n) l)).getD (blkN n) ⟨#[]⟩).data.toList=putInoL (blkL xs (blkN n)) (atN n) l:=by
  rw [getD_set' _ _ _ _ (by omega),if_pos rfl,putInoB_list];rfl
 rw [e]
 exact putInoL_twice (by rw [hz];omega)
theorem FitN.set {l:List Nat} (h:FitN l) (i:Fin 12) {v:Nat} (hv:v<256 ^ fsz i):FitN (l.set (fof i) v):=by
 refine ⟨by rw [List.length_set];exact h.1,fun j=>?_⟩
 have hl:=h.1
 have hi:=fof_lt i
 rw [getD_set _ _ _ _ _ (by omega)]
 by_cases e:fof i=fof j
 ·have key:∀ i j:Fin 12,fof i=fof j→i=j:=by decide
  rw [if_pos e,← key i j e];exact hv
 ·rw [if_neg e];exact h.2 j
theorem FitN.direct {l:List Nat} (h:FitN l) {k v:Nat} (hk:k<6) (hv:v<65536):FitN (l.set (4+k) v):=by
 have key:k=0∨k=1∨k=2∨k=3∨k=4∨k=5:=by omega
 rcases key with rfl | rfl | rfl | rfl | rfl | rfl
 ·exact h.set 4 hv
 ·exact h.set 5 hv
 ·exact h.set 6 hv
 ·exact h.set 7 hv
 ·exact h.set 8 hv
 ·exact h.set 9 hv
theorem FitN.ind {l:List Nat} (h:FitN l) {v:Nat} (hv:v<65536):FitN (l.set 10 v):=h.set 10 hv
theorem FitN.size {l:List Nat} (h:FitN l) {v:Nat} (hv:v<4294967296):FitN (l.set 3 v):=h.set 3 hv
theorem takX_ok (hv:IsVol xs m) {r:List ByteArray × Nat} (h:takX xs m=some r):IsVol r.1 m∧r.1.length=xs.length∧datB xs m r.2=true∧freeR xs m=some r.2∧r.1=takeV xs r.2:=by
 unfold takX at h
 cases hf:freeR xs m with
 | none=>rw [hf] at h;cases h
 | some i=>
  rw [hf] at h
  obtain rfl:=Option.some.inj h
  have hl:=hv.len
  have:=(freeR_some (by omega)).1 hf
  exact ⟨hv.take this.1 this.2.1,takeV_length _ _,datB_iff.2 ⟨this.1,this.2.1⟩,rfl,rfl⟩
theorem giveV_ok (hv:IsVol xs m) (b:Nat):IsVol (giveV xs m b) m∧(giveV xs m b).length=xs.length:=by
 unfold giveV
 by_cases h:datB xs m b=true∧bitL (blkL xs 2) b=true
 ·rw [if_pos h]
  have:=datB_iff.1 h.1
  exact ⟨hv.turn this.1 this.2,turnV_length _ _⟩
 ·rw [if_neg h];exact ⟨hv,rfl⟩
theorem layB_list (s:ByteArray) (p:Nat) (d:List UInt8):(layB s p d).data.toList=s.data.toList.take p++d++s.data.toList.drop (p+d.length):=by unfold layB;simp
theorem layB_size (s:ByteArray) (p:Nat) (d:List UInt8) (h:p+d.length≤s.size):(layB s p d).size=s.size:=by
 have e:(layB s p d).size=(layB s p d).data.toList.length:=by rw [Array.length_toList];rfl
 have e2:s.data.toList.length=s.size:=by rw [Array.length_toList];rfl
 rw [e,layB_list]
 simp only [List.length_append,List.length_take,List.length_drop,e2]
 omega
theorem layX_length (xs:List ByteArray) (b p:Nat) (d:List UInt8):(layX xs b p d).length=xs.length:=by unfold layX;simp
theorem layX_ok (hv:IsVol xs m) {b p:Nat} {d:List UInt8} (hb:datB xs m b=true) (hp:p+d.length≤128):IsVol (layX xs b p d) m:=by
 have:=datB_iff.1 hb
 exact hv.set (datB_pos hb) (by rw [layB_size _ _ _ (by rw [hv.size b this.2];exact hp),hv.size b this.2])
theorem layX_blk (b p:Nat) (d:List UInt8) (hb:b<xs.length) (i:Nat):blkL (layX xs b p d) i=if b=i then (blkL xs b).take p++d++(blkL xs b).drop (p+d.length) else blkL xs i:=by
 unfold layX
 rw [blkL_set _ _ _ _ hb,layB_list];rfl
def KpOk (kp:Kp) (m:Nat):Prop:=∀ xs l,IsVol xs m→IsVol (kp xs l) m∧(kp xs l).length=xs.length
theorem noK_ok (m:Nat):KpOk noK m:=fun xs l h=>⟨h,rfl⟩
theorem putK_ok (h1:1≤n) (h2:n≤m):KpOk (putK n) m:=fun xs l h=>⟨h.putI h1 h2 l,putV_length _ _ _⟩
structure OkS (len m:Nat) (s:List ByteArray × List Nat):Prop where
 vol:IsVol s.1 m
 len:s.1.length=len
 fit:FitN s.2
variable {kp:Kp} {len:Nat}
theorem OkS.small {s:List ByteArray × List Nat} (h:OkS len m s):len≤223:=by have:=h.vol.len;have:=h.len;omega
theorem nameG_ok (hk:KpOk kp m) {l:List Nat} (h:OkS len m (xs,l)) {k b:Nat} (h70:k<70) (hb:b<65536):OkS len m (nameG kp xs m l k b):=by
 unfold nameG
 by_cases h6:k<6
 ·rw [if_pos h6]
  have:=hk xs (l.set (4+k) b) h.vol
  exact ⟨this.1,this.2.trans h.len,h.fit.direct h6 hb⟩
 ·rw [if_neg h6]
  by_cases hd:datB xs m (l.getD 10 0)=true
  ·rw [if_pos hd]
   exact ⟨layX_ok h.vol hd (by rw [putL_length];omega),(layX_length _ _ _ _).trans h.len,h.fit⟩
  ·rw [if_neg hd];exact h
theorem indG_ok (hk:KpOk kp m) {l:List Nat} (h:OkS len m (xs,l)) {k:Nat} {s:List ByteArray × List Nat} (e:indG kp xs m l k=some s):OkS len m s:=by
 unfold indG at e
 by_cases hc:k<6∨datB xs m (l.getD 10 0)=true
 ·rw [if_pos hc] at e
  obtain rfl:=Option.some.inj e
  exact h
 ·rw [if_neg hc] at e
  cases ht:takX xs m with
  | none=>rw [ht] at e;cases e
  | some r=>
   rw [ht] at e
   obtain rfl:=Option.some.inj e
   obtain ⟨a,b,c,_⟩:=takX_ok h.vol ht
   have:=hk r.1 (l.set 10 r.2) a
   have hs:=h.small
   have hl:xs.length=len:=h.len
   have hd:r.2<xs.length:=(datB_iff.1 c).2
   exact ⟨this.1,this.2.trans (b.trans h.len),h.fit.ind (by first | omega | (show r.2<65536;omega))⟩
theorem plaG_ok (hk:KpOk kp m) {l:List Nat} (h:OkS len m (xs,l)) {k:Nat} (h70:k<70) {r:(List ByteArray × List Nat) × Nat} (e:plaG kp xs m l k=some r):OkS len m r.1∧datB xs m r.2=true:=by
 unfold plaG at e
 by_cases hc:atX xs m l k≠0
 ·rw [if_pos hc] at e
  obtain rfl:=Option.some.inj e
  exact ⟨h,atX_dat hc⟩
 ·rw [if_neg hc] at e
  cases hi:indG kp xs m l k with
  | none=>rw [hi] at e;cases e
  | some s=>
   rw [hi,Option.bind_some] at e
   have hs:=indG_ok hk h hi
   cases ht:takX s.1 m with
   | none=>rw [ht] at e;cases e
   | some q=>
    rw [ht] at e
    obtain rfl:=Option.some.inj e
    obtain ⟨a,b,c,_⟩:=takX_ok hs.vol ht
    have hsm:=h.small
    have hd:=(datB_iff.1 c).2
    have hl:=hs.len
    refine ⟨nameG_ok hk ⟨a,b.trans hs.len,hs.fit⟩ h70 (by show q.2<65536;omega),?_⟩
    rw [← datB_len (xs:=s.1) m q.2 (hl.trans h.len.symm)];exact c
theorem piece_len (off k:Nat) (d:List UInt8) (hk:off / 128≤k):off-128 * k+((d.drop (128 * k-off)).take (128-(off-128 * k))).length≤128:=by
 rw [List.length_take]
 omega
theorem wriK_ok (hk:KpOk kp m) {s:List ByteArray × List Nat} (h:OkS len m s) {off k:Nat} {d:List UInt8} (h70:k<70) (hl:off / 128≤k) {r:List ByteArray × List Nat} (e:wriK kp m off d k s=some r):OkS len m r:=by
 unfold wriK at e
 cases hp:plaG kp s.1 m s.2 k with
 | none=>rw [hp] at e;cases e
 | some q=>
  rw [hp] at e
  obtain rfl:=Option.some.inj e
  obtain ⟨a,b⟩:=plaG_ok hk h h70 hp
  have hb:datB q.1.1 m q.2=true:=by rw [datB_len (ys:=s.1) m q.2 (a.len.trans h.len.symm)];exact b
  exact ⟨layX_ok a.vol hb (piece_len off k d hl),(layX_length _ _ _ _).trans a.len,a.fit⟩
theorem wriN_ok (hk:KpOk kp m) {s:List ByteArray × List Nat} (h:OkS len m s) {off:Nat} {d:List UInt8}:∀ (j:Nat),off / 128+j≤70→∀ {r:List ByteArray × List Nat},wriN kp m off d s j=some r→OkS len m r
 | 0,_,r,e=>by obtain rfl:=Option.some.inj e;exact h
 | j+1,hj,r,e=>by
  rw [wriN] at e
  cases hp:wriN kp m off d s j with
  | none=>rw [hp] at e;cases e
  | some q=>
   rw [hp,Option.bind_some] at e
   exact wriK_ok hk (wriN_ok hk h j (by omega) hp) (by omega) (by omega) e
theorem growG_ok (hk:KpOk kp m) {s:List ByteArray × List Nat} (h:OkS len m s) {en:Nat} (he:en≤8960):OkS len m (growG kp en s):=by
 unfold growG
 split
 ·have:=hk s.1 (s.2.set 3 en) h.vol
  exact ⟨this.1,this.2.trans h.len,h.fit.size (by omega)⟩
 ·exact h
theorem dropK_ok (hk:KpOk kp m) {s:List ByteArray × List Nat} (h:OkS len m s) {k:Nat} (h70:k<70):OkS len m (dropK kp m k s):=by
 obtain ⟨a,b⟩:=giveV_ok h.vol (atX s.1 m s.2 k)
 exact nameG_ok hk ⟨a,b.trans h.len,h.fit⟩ h70 (by omega)
theorem dropN_ok (hk:KpOk kp m) {s:List ByteArray × List Nat} (h:OkS len m s) {k0:Nat}:∀ j,k0+j≤70→OkS len m (dropN kp m k0 s j)
 | 0,_=>h
 | j+1,hj=>dropK_ok hk (dropN_ok hk h j (by omega)) (by omega)
theorem dropI_ok (hk:KpOk kp m) {s:List ByteArray × List Nat} (h:OkS len m s) (size:Nat):OkS len m (dropI kp m size s):=by
 unfold dropI
 split
 ·obtain ⟨a,b⟩:=giveV_ok h.vol (s.2.getD 10 0)
  have:=hk _ (s.2.set 10 0) a
  exact ⟨this.1,this.2.trans (b.trans h.len),h.fit.ind (by first | omega | (show r.2<65536;omega))⟩
 ·exact h
theorem tailZ_ok {s:List ByteArray × List Nat} (h:OkS len m s) (size:Nat):OkS len m (tailZ m size s):=by
 unfold tailZ
 split
 ·rename_i hc
  exact ⟨layX_ok h.vol (atX_dat hc.2) (by rw [List.length_replicate];omega),(layX_length _ _ _ _).trans h.len,h.fit⟩
 ·exact h
theorem shortG_ok (hk:KpOk kp m) {s:List ByteArray × List Nat} (h:OkS len m s) {size:Nat} (hs:size≤8960):OkS len m (shortG kp m size s):=
 tailZ_ok (dropI_ok hk (dropN_ok hk h _ (by have:=needN_le hs;omega)) _) _
theorem cutG_ok (hk:KpOk kp m) {l:List Nat} (h:OkS len m (xs,l)) {size:Nat} (hs:size≤8960):OkS len m (cutG kp xs m l size):=by
 have:=hk xs (l.set 3 size) h.vol
 have h0:OkS len m (kp xs (l.set 3 size),l.set 3 size):=⟨this.1,this.2.trans h.len,h.fit.size (by omega)⟩
 unfold cutG
 split
 ·exact shortG_ok hk h0 hs
 ·exact h0
theorem wriG_ok (hk:KpOk kp m) {l:List Nat} (h:OkS len m (xs,l)) {off:Nat} {d:List UInt8} (hl:off+d.length≤8960) {r:List ByteArray × List Nat} (e:wriG kp xs m l off d=some r):OkS len m r:=by
 unfold wriG at e
 by_cases hd:d=[]
 ·rw [if_pos hd] at e
  obtain rfl:=Option.some.inj e
  exact h
 ·rw [if_neg hd] at e
  cases hw:wriN kp m off d (xs,l) (fallN off d.length) with
  | none=>rw [hw] at e;cases e
  | some q=>
   rw [hw] at e
   obtain rfl:=Option.some.inj e
   have hdl:d.length≠0:=by simpa using hd
   exact growG_ok hk (wriN_ok hk h _ (by unfold fallN;rw [if_neg hdl];omega) hw) hl
def withP (n:Nat) (s:List ByteArray × List Nat):List ByteArray × List Nat:=(putV s.1 n s.2,s.2)
theorem nameG_put (h1:1≤n) (h2:n≤m) (hv:IsVol xs m) (l:List Nat) (k b:Nat):nameG (putK n) (putV xs n l) m l k b=withP n (nameG noK xs m l k b):=by
 unfold nameG withP
 rw [datB_put]
 by_cases h6:k<6
 ·rw [if_pos h6,if_pos h6]
  unfold putK noK
  rw [putV_twice hv h1 h2]
 ·rw [if_neg h6,if_neg h6]
  by_cases hd:datB xs m (l.getD 10 0)=true
  ·rw [if_pos hd,if_pos hd,layX_put hv h1 h2 l hd]
  ·rw [if_neg hd,if_neg hd]
theorem takX_put (h1:1≤n) (h2:n≤m) (hv:IsVol xs m) (l:List Nat):takX (putV xs n l) m=(takX xs m).map fun r=>(putV r.1 n l,r.2):=by
 unfold takX
 rw [freeR_put hv h1 h2]
 cases hf:freeR xs m with
 | none=>rfl
 | some i=>
  have hl:=hv.len
  have:=(freeR_some (by omega)).1 hf
  simp only [Option.map_some]
  rw [takeV_put hv h1 h2 l this.1]
theorem indG_put (h1:1≤n) (h2:n≤m) (hv:IsVol xs m) (l:List Nat) (k:Nat):indG (putK n) (putV xs n l) m l k=(indG noK xs m l k).map (withP n):=by
 unfold indG
 rw [datB_put]
 by_cases hc:k<6∨datB xs m (l.getD 10 0)=true
 ·rw [if_pos hc,if_pos hc];rfl
 ·rw [if_neg hc,if_neg hc,takX_put h1 h2 hv]
  cases ht:takX xs m with
  | none=>rfl
  | some r=>
   obtain ⟨a,_⟩:=takX_ok hv ht
   simp only [Option.map_some]
   unfold withP putK noK
   rw [putV_twice a h1 h2]
theorem plaG_put (h1:1≤n) (h2:n≤m) {l:List Nat} (h:OkS len m (xs,l)) (k:Nat):plaG (putK n) (putV xs n l) m l k=(plaG noK xs m l k).map fun r=>(withP n r.1,r.2):=by
 have hv:IsVol xs m:=h.vol
 unfold plaG
 rw [atX_put hv h1 h2]
 by_cases hc:atX xs m l k≠0
 ·rw [if_pos hc,if_pos hc];rfl
 ·rw [if_neg hc,if_neg hc,indG_put h1 h2 hv]
  cases hi:indG noK xs m l k with
  | none=>rfl
  | some s=>
   have hs:=indG_ok (noK_ok m) h hi
   simp only [Option.map_some,Option.bind_some]
   unfold withP
   rw [takX_put h1 h2 hs.vol]
   cases ht:takX s.1 m with
   | none=>rfl
   | some q=>
    obtain ⟨a,_⟩:=takX_ok hs.vol ht
    simp only [Option.map_some]
    rw [nameG_put h1 h2 a];rfl
theorem wriK_put (h1:1≤n) (h2:n≤m) {s:List ByteArray × List Nat} (h:OkS len m s) {k:Nat} (h70:k<70) (off:Nat) (d:List UInt8):wriK (putK n) m off d k (withP n s)=(wriK noK m off d k s).map (withP n):=by
 unfold wriK
 have:=plaG_put h1 h2 (xs:=s.1) (l:=s.2) h k
 unfold withP at this ⊢
 rw [this]
 cases hp:plaG noK s.1 m s.2 k with
 | none=>rfl
 | some q=>
  obtain ⟨a,b⟩:=plaG_ok (noK_ok m) h h70 hp
  have hb:datB q.1.1 m q.2=true:=by rw [datB_len (ys:=s.1) m q.2 (a.len.trans h.len.symm)];exact b
  simp only [Option.map_some]
  rw [layX_put a.vol h1 h2 _ hb]
theorem wriN_put (h1:1≤n) (h2:n≤m) {s:List ByteArray × List Nat} (h:OkS len m s) {off:Nat} {d:List UInt8}:∀ (j:Nat),off / 128+j≤70→wriN (putK n) m off d (withP n s) j=(wriN noK m off d s j).map (withP n)
 | 0,_=>rfl
 | j+1,hj=>by
  rw [wriN,wriN,wriN_put h1 h2 h j (by omega)]
  cases hp:wriN noK m off d s j with
  | none=>rfl
  | some q=>
   simp only [Option.map_some,Option.bind_some]
   exact wriK_put h1 h2 (wriN_ok (noK_ok m) h j (by omega) hp) (by omega) off d
theorem growG_put (h1:1≤n) (h2:n≤m) {s:List ByteArray × List Nat} (h:OkS len m s) (en:Nat):growG (putK n) en (withP n s)=withP n (growG noK en s):=by
 unfold growG withP
 by_cases hc:sizeX s.2<en
 ·rw [if_pos hc,if_pos hc]
  unfold putK noK
  rw [putV_twice h.vol h1 h2]
 ·rw [if_neg hc,if_neg hc]
theorem wriG_put (h1:1≤n) (h2:n≤m) {l:List Nat} (h:OkS len m (xs,l)) {off:Nat} {d:List UInt8} (hl:off+d.length≤8960):wriG (putK n) (putV xs n l) m l off d=(wriG noK xs m l off d).map (withP n):=by
 unfold wriG
 by_cases hd:d=[]
 ·rw [if_pos hd,if_pos hd];rfl
 ·rw [if_neg hd,if_neg hd]
  have hdl:d.length≠0:=by simpa using hd
  have h70:off / 128+fallN off d.length≤70:=by unfold fallN;rw [if_neg hdl];omega
  have:=wriN_put h1 h2 h (off:=off) (d:=d) (fallN off d.length) h70
  unfold withP at this
  rw [this]
  cases hp:wriN noK m off d (xs,l) (fallN off d.length) with
  | none=>rfl
  | some q=>
   simp only [Option.map_some]
   rw [← growG_put h1 h2 (wriN_ok (noK_ok m) h _ h70 hp)];rfl
theorem dropK_put (h1:1≤n) (h2:n≤m) {s:List ByteArray × List Nat} (h:OkS len m s) (k:Nat):dropK (putK n) m k (withP n s)=withP n (dropK noK m k s):=by
 unfold dropK
 show nameG (putK n) (giveV (putV s.1 n s.2) m (atX (putV s.1 n s.2) m s.2 k)) m s.2 k 0=_
 rw [atX_put h.vol h1 h2,giveV_put h.vol h1 h2,nameG_put h1 h2 (giveV_ok h.vol _).1]
theorem dropN_put (h1:1≤n) (h2:n≤m) {s:List ByteArray × List Nat} (h:OkS len m s) {k0:Nat}:∀ j,k0+j≤70→dropN (putK n) m k0 (withP n s) j=withP n (dropN noK m k0 s j)
 | 0,_=>rfl
 | j+1,hj=>by
  rw [dropN,dropN,dropN_put h1 h2 h j (by omega),dropK_put h1 h2 (dropN_ok (noK_ok m) h j (by omega))]
theorem dropI_put (h1:1≤n) (h2:n≤m) {s:List ByteArray × List Nat} (h:OkS len m s) (size:Nat):dropI (putK n) m size (withP n s)=withP n (dropI noK m size s):=by
 unfold dropI
 by_cases hc:size≤768
 ·rw [if_pos hc,if_pos hc]
  unfold withP putK noK
  simp only
  rw [giveV_put h.vol h1 h2,putV_twice (giveV_ok h.vol _).1 h1 h2]
 ·rw [if_neg hc,if_neg hc]
theorem tailZ_put (h1:1≤n) (h2:n≤m) {s:List ByteArray × List Nat} (h:OkS len m s) (size:Nat):tailZ m size (withP n s)=withP n (tailZ m size s):=by
 unfold tailZ
 have e:atX (withP n s).1 m (withP n s).2 (size / 128)=atX s.1 m s.2 (size / 128):=atX_put h.vol h1 h2 _ _ _
 rw [e]
 by_cases hc:size % 128≠0∧atX s.1 m s.2 (size / 128)≠0
 ·rw [if_pos hc,if_pos hc]
  unfold withP
  simp only
  rw [layX_put h.vol h1 h2 _ (atX_dat hc.2)]
 ·rw [if_neg hc,if_neg hc]
theorem cutG_put (h1:1≤n) (h2:n≤m) {l:List Nat} (h:OkS len m (xs,l)) {size:Nat} (hs:size≤8960):cutG (putK n) (putV xs n l) m l size=withP n (cutG noK xs m l size):=by
 have h0:OkS len m (xs,l.set 3 size):=⟨h.vol,h.len,h.fit.size (by omega)⟩
 have hn:=needN_le hs
 have e0:((putK n) (putV xs n l) (l.set 3 size),l.set 3 size)=withP n (xs,l.set 3 size):=by
  unfold withP putK
  rw [putV_twice h.vol h1 h2]
 unfold cutG
 rw [e0]
 by_cases hc:size<sizeX l
 ·rw [if_pos hc,if_pos hc]
  unfold shortG
  have a:=dropN_ok (noK_ok m) h0 (k0:=needN size) (70-needN size) (by omega)
  rw [dropN_put h1 h2 h0 _ (by omega),dropI_put h1 h2 a,tailZ_put h1 h2 (dropI_ok (noK_ok m) a _)];rfl
 ·rw [if_neg hc,if_neg hc];rfl
end
open Go.RowKit
def fileL (sl:Value) (b m n:Nat) (l:List Nat):List Value:=
 sl::.int .i64 (b:Int)::.int .i64 (m:Int)::.int .i64 1::.int .i64 2::.int .i64 3::.int .i64 (dataN m:Int)::.int .i64 (n:Int)::l.map fun k:Nat=>Value.int .i64 (k:Int)
def fileC (sl:Value) (b m n:Nat) (l:List Nat):Array Value:=(fileL sl b m n l).toArray
theorem fileC_size (sl:Value) (b m n:Nat) (l:List Nat) (h:l.length=12):(fileC sl b m n l).size=20:=by unfold fileC fileL;simp [h]
theorem fileC_ino (sl:Value) (b m n:Nat) (l:List Nat) (i:Nat) (h:i<l.length):(fileC sl b m n l)[8+i]?=some (.int .i64 ((l.getD i 0:Nat):Int)):=by
 unfold fileC fileL
 rw [List.getElem?_toArray,show 8+i=i+1+1+1+1+1+1+1+1 by omega]
 simp only [List.getElem?_cons_succ]
 simp [h]
theorem fileC_set (sl:Value) (b m n:Nat) (l:List Nat) (i k:Nat):(fileC sl b m n l).setIfInBounds (8+i) (.int .i64 (k:Int))=fileC sl b m n (l.set i k):=by
 unfold fileC fileL
 rw [List.setIfInBounds_toArray,show 8+i=i+1+1+1+1+1+1+1+1 by omega]
 simp
theorem fileC_set0 (sl sl':Value) (b m n:Nat) (l:List Nat):(fileC sl b m n l).setIfInBounds 0 sl'=fileC sl' b m n l:=by
 unfold fileC fileL
 simp
theorem own_set {w:World} {base:Nat} {e:TypeId} {g n c:Nat} {xs:List Value} (h:w.ownsRow base e 1 (.slice (some ⟨g,0,none⟩) n c) n xs) (i:Nat) (u:Value) (hi:i<n):(w.setCell ⟨g,i,none⟩ u).ownsRow base e 1 (.slice (some ⟨g,0,none⟩) n c) n (xs.set i u):=by
 obtain ⟨h1,h2⟩:=h
 refine ⟨by rw [List.length_set];exact h1,.inr ?_⟩
 rcases h2 with ⟨hv,_⟩ | ⟨g',cap,cur,hv,hg,hh,hnc,hm,hsz,ht⟩
 ·cases hv
 ·cases hv
  refine ⟨g,c,cur.setIfInBounds i u,rfl,hg,?_,hnc,hm,by simpa using hsz,?_⟩
  ·simp [World.setCell,Array.getElem?_modify,hh]
  ·rw [← ht]
   simp only [Array.toList_setIfInBounds]
   rw [List.take_set]
structure FileW (B:Nat) (w:World) (g m n:Nat) (V:List ByteArray) (l:List Nat) (gv c:Nat):Prop where
 low:B≤g
 blk:Blk w g 112 (fileC (.slice (some ⟨gv,0,none⟩) V.length c) V.length m n l)
 own:w.ownsRow B 9 1 (.slice (some ⟨gv,0,none⟩) V.length c) V.length (V.map .string)
 vol:IsVol V m
 fit:FitN l
 one:1≤n
 top:n≤m
def FileX (B:Nat) (w:World) (g m n:Nat) (V:List ByteArray) (l:List Nat):Prop:=∃ gv c,FileW B w g m n V l gv c
section
variable {B:Nat} {w w':World} {g m n:Nat} {V:List ByteArray} {l:List Nat} {gv c:Nat}
theorem FileW.row (h:FileW B w g m n V l gv c):RowAt w w.heap.size (some ⟨gv,0,none⟩) (V.map .string):=RowAt.of_own h.own
theorem FileW.below (h:FileW B w g m n V l gv c) (hb:Below w.heap.size w w'):FileW B w' g m n V l gv c:=
 ⟨h.low,h.blk.below hb h.blk.lt,own_below h.own hb,h.vol,h.fit,h.one,h.top⟩
theorem FileX.below (h:FileX B w g m n V l) (hb:Below w.heap.size w w'):FileX B w' g m n V l:=by
 obtain ⟨gv,c,h⟩:=h
 exact ⟨gv,c,h.below hb⟩
theorem FileW.gv_low (h:FileW B w g m n V l gv c):B≤gv:=own_row h.own gv rfl
theorem FileW.ne (h:FileW B w g m n V l gv c):g≠gv:=by
 intro e
 have:=own_ne h.own h.blk (by decide)
 exact this (by rw [e];rfl)
theorem FileW.ino (h:FileW B w g m n V l gv c) (i:Nat) (hi:i<12):w.cell? ⟨g,8+i,none⟩=some (.int .i64 ((l.getD i 0:Nat):Int)):=
 h.blk.cell (8+i) (fileC_ino _ _ _ _ _ _ (by rw [h.fit.1];exact hi))
theorem FileW.c0 (h:FileW B w g m n V l gv c):w.cell? ⟨g,0,none⟩=some (.slice (some ⟨gv,0,none⟩) V.length c):=h.blk.cell 0 rfl
theorem FileW.c1 (h:FileW B w g m n V l gv c):w.cell? ⟨g,1,none⟩=some (.int .i64 (V.length:Int)):=h.blk.cell 1 rfl
theorem FileW.c6 (h:FileW B w g m n V l gv c):w.cell? ⟨g,6,none⟩=some (.int .i64 (dataN m:Int)):=h.blk.cell 6 rfl
theorem FileW.c7 (h:FileW B w g m n V l gv c):w.cell? ⟨g,7,none⟩=some (.int .i64 (n:Int)):=h.blk.cell 7 rfl
theorem FileW.str (h:FileW B w g m n V l gv c) (i:Nat) (hi:i<V.length):w.cell? ⟨gv,i,none⟩=some (.string (V.getD i ⟨#[]⟩)):=by
 obtain ⟨b,o,he,hb,hc⟩:=row_get h.row i hi
 cases he
 rw [Nat.zero_add] at hc
 exact hc
theorem FileW.small (h:FileW B w g m n V l gv c):16≤V.length∧V.length≤223:=⟨h.vol.len.1,h.vol.len.2.1⟩
theorem fit_lt {l:List Nat} (h:FitN l) (i:Nat):l.getD i 0<4294967296:=by
 obtain ⟨a0,a1,a2,a3,a4,a5,a6,a7,a8,a9,a10,a11,rfl⟩:=len12 h.1
 by_cases hi:i<12
 ·have key:∀ i,i<12→∃ j:Fin 12,fof j=i:=by decide
  obtain ⟨j,rfl⟩:=key i hi
  exact Nat.lt_of_lt_of_le (h.2 j) (Nat.pow_le_pow_right (n:=256) (by omega) (fsz_le j))
 ·simp only [List.getD_eq_getElem?_getD]
  rw [List.getElem?_eq_none (by simp;omega)]
  simp
theorem FileW.put (h:FileW B w g m n V l gv c) (i k:Nat) (hf:FitN (l.set i k)):FileW B (w.setCell ⟨g,8+i,none⟩ (.int .i64 (k:Int))) g m n V (l.set i k) gv c:=by
 have hne:=h.ne
 refine ⟨h.low,?_,?_,h.vol,hf,h.one,h.top⟩
 ·have:=h.blk.set_ (8+i) (.int .i64 (k:Int))
  rw [fileC_set] at this
  exact this
 ·exact ownsRow_setCell_other h.own (by simp [Value.ownBlock];omega) _
theorem FileW.vol_ {V':List ByteArray} {gv' c':Nat} (h:FileW B w g m n V l gv c) (hl:V'.length=V.length) (hv:IsVol V' m) (ho:w.ownsRow B 9 1 (.slice (some ⟨gv',0,none⟩) V'.length c') V'.length (V'.map .string)) :
  FileW B (w.setCell ⟨g,0,none⟩ (.slice (some ⟨gv',0,none⟩) V'.length c')) g m n V' l gv' c':=by
 have hne:g≠gv':=by
  intro e
  have:=own_ne ho h.blk (by decide)
  exact this (by rw [e];rfl)
 refine ⟨h.low,?_,?_,hv,h.fit,h.one,h.top⟩
 ·have:=h.blk.set_ 0 (.slice (some ⟨gv',0,none⟩) V'.length c')
  rw [fileC_set0,← hl] at this
  exact this
 ·exact ownsRow_setCell_other ho (by simp [Value.ownBlock];omega) _
theorem FileW.lay (h:FileW B w g m n V l gv c) (i:Nat) (s:ByteArray) (hi:i<V.length) (hv:IsVol (V.set i s) m):FileW B (w.setCell ⟨gv,i,none⟩ (.string s)) g m n (V.set i s) l gv c:=by
 have hne:=h.ne
 refine ⟨h.low,?_,?_,hv,h.fit,h.one,h.top⟩
 ·rw [List.length_set];exact h.blk.far (by simpa using hne) _
 ·have:=own_set h.own i (.string s) hi
  rw [List.length_set,List.map_set]
  exact this
end
end Go.Proofs.YtdldlendppkknaaGreatDoor
