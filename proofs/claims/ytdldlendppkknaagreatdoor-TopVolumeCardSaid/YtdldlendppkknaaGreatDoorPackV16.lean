/-
  Contracts and plain laws: TreeC, DirA, AttA, Ents, ExtRdA, DirB.
-/
import Derived.ArgAppend
import Derived.Laws.IdiomStrings
import Derived.Lib.OthersKept
import Derived.Test.YtdldlendppkknaaGreatDoorPackV15
namespace Go.Proofs.YtdldlendppkknaaGreatDoor
set_option linter.unusedVariables false
set_option linter.unusedSimpArgs false
set_option maxRecDepth 100000
section
variable {V W X ys:List ByteArray} {m n k c d:Nat} {l l':List Nat} {E E':List EntV} {δ ε:Nat→Int}
theorem file_ok (hv:IsVol V m) {z:Int} (he:fileO V z=0):∃ n:Nat,z=(n:Int)∧LiveT V m n∧kindR V n=1:=by
 unfold fileO at he
 by_cases h0:inoE V z=0
 ·rw [if_neg (by rw [h0];simp)] at he
  by_cases h1:(getR V z).getD 0 0=1
  ·obtain ⟨m2,k,hv2,rfl,k1,k2,_⟩:=inoE_ok h0
   obtain rfl:m=m2:=by
    have e1:=ofR_some.2 hv
    have e2:=ofR_some.2 hv2
    rw [e1] at e2
    exact Option.some.inj e2
   rw [kind_getT hv k1 k2] at h1
   exact ⟨k,rfl,⟨k1,k2,by omega⟩,h1⟩
  ·rw [if_pos h1] at he;exact absurd he (by decide)
 ·rw [if_pos h0] at he;exact absurd he h0
theorem made_ok {p:ByteArray} {kind owner:Int} (he:(madeO V p kind owner).2.2=0) :
  (vacO V p).2.2=0∧(newO V kind owner).2.2=0∧(addO (newO V kind owner).1 (vacO V p).1 (vacO V p).2.1 (newO V kind owner).2.1).2=0 ∧
  madeO V p kind owner=((addO (newO V kind owner).1 (vacO V p).1 (vacO V p).2.1 (newO V kind owner).2.1).1,(newO V kind owner).2.1,0)∧beyondO V (madeO V p kind owner).1=false:=by
 have hw:(weighO V (madeI V p kind owner)).2=0:=by
  refine Classical.not_not.1 (fun hh=>?_)
  unfold madeO at he
  rw [if_pos hh] at he
  exact hh he
 have hO:madeO V p kind owner=((weighO V (madeI V p kind owner)).1,(newO V kind owner).2.1,0):=by unfold madeO;rw [if_neg (by rw [hw];simp)]
 obtain ⟨hI,hW,hb⟩:=weigh_ok hw
 rw [hO,hW]
 unfold madeI at hI hb ⊢
 by_cases hv:(vacO V p).2.2=0
 ·rw [if_neg (by rw [hv];simp)] at hI hb ⊢
  by_cases hn:(newO V kind owner).2.2=0
  ·rw [if_neg (by rw [hn];simp)] at hI hb ⊢
   exact ⟨hv,hn,hI,rfl,hb⟩
  ·rw [if_pos hn] at hI;exact absurd hI hn
 ·rw [if_pos hv] at hI;exact absurd hI hv
theorem TreeX.made (h:FsT V m) {p:ByteArray} {kind owner:Int} (he:(madeO V p kind owner).2.2=0):FsT (madeO V p kind owner).1 m∧(madeO V p kind owner).1.length=V.length:=by
 obtain ⟨hv,hn,ha,e,_⟩:=made_ok he
 rw [e]
 obtain ⟨n,n0,n1,n2,n3,_,nf,_,_,hT⟩:=TreeX.new h hn
 rw [n0] at ha ⊢
 obtain ⟨a,d,_,_,eT⟩:=hT.add n2 n3 ha
 refine ⟨a.congr fun k _=>?_,eT.far.len.trans nf.len⟩
 unfold atX1
 by_cases ek:k=n
 ·rw [if_pos ek,if_pos rfl];rfl
 ·rw [if_neg ek,if_neg ek]
theorem link_ok (h:FsT V m) {p q:ByteArray} (he:(linkO V p q).2=0):∃ n:Nat,(pathO V p.data.toList).2=0∧(pathO V p.data.toList).1=(n:Int)∧LiveT V m n∧kindR V n=1∧n≠1∧(vacO V q).2.2=0∧linkN V n<65535∧(addO V (vacO V q).1 (vacO V q).2.1 (n:Int)).2=0 ∧
  linkO V p q=putO (addO V (vacO V q).1 (vacO V q).2.1 (n:Int)).1 (n:Int) (intsL ((getR V (n:Int)).set 1 (linkN V n+1)))∧beyondO V (linkO V p q).1=false:=by
 unfold linkO at he ⊢
 by_cases hm:mayP p.data.toList=false∨mayP q.data.toList=false
 ·rw [if_pos hm] at he;exact absurd he (by decide)
 ·rw [if_neg hm] at he ⊢
  obtain ⟨hI,hW,hb⟩:=weigh_ok he
  rw [hW]
  dsimp only
  unfold linkI at hI hb ⊢
  by_cases h1:(pathO V p.data.toList).2=0
  ·rw [if_neg (by rw [h1];simp)] at hI hb ⊢
   obtain ⟨n,e,hn,_⟩:=h.path h1
   rw [e] at hI hb ⊢
   rw [inoE_zero h.vol hn.1 hn.2.1,if_neg (by simp)] at hI hb ⊢
   by_cases h2:(getR V (n:Int)).getD 0 0=1
   ·rw [if_neg (by rw [h2];simp)] at hI hb ⊢
    have hk:kindR V n=1:=by rw [← kind_getT h.vol hn.1 hn.2.1];exact h2
    have n1:n≠1:=fun e=>by subst e;have:=h.rootk;omega
    by_cases h3:(vacO V q).2.2=0
    ·rw [if_neg (by rw [h3];simp)] at hI hb ⊢
     by_cases h4:65535≤(getR V (n:Int)).getD 1 0
     ·rw [if_pos h4] at hI;exact absurd hI (by decide)
     ·rw [if_neg h4] at hI hb ⊢
      by_cases h5:(addO V (vacO V q).1 (vacO V q).2.1 (n:Int)).2=0
      ·rw [if_neg (by rw [h5];simp)] at hI hb ⊢
       refine ⟨n,h1,rfl,hn,hk,n1,h3,by unfold linkN;omega,h5,?_,hb⟩
       show (_,(0:Int))=_
       rw [← hI]
       rfl
      ·rw [if_pos h5] at hI;exact absurd hI h5
    ·rw [if_pos h3] at hI;exact absurd hI h3
   ·rw [if_pos h2] at hI;exact absurd hI (by decide)
  ·rw [if_pos h1] at hI;exact absurd hI h1
theorem TreeX.link (h:FsT V m) {p q:ByteArray} (he:(linkO V p q).2=0):FsT (linkO V p q).1 m∧(linkO V p q).1.length=V.length:=by
 obtain ⟨n,_,_,hn,hk,n1,_,hl,ha,e,_⟩:=link_ok h he
 obtain ⟨a,d,_,_,eT⟩:=TreeX.add h hn n1 ha
 have hnd:n≠d:=fun e=>by
  subst e
  have:=eT.kind
  omega
 have hg:=eT.far.rest n hn.1 hn.2.1 hnd
 have hli:linkN (addO V (vacO V q).1 (vacO V q).2.1 (n:Int)).1 n=linkN V n:=by unfold linkN;rw [hg]
 rw [← hg] at e
 obtain ⟨p1,p2,p3⟩:=a.puts ((eT.liveA h.vol).2 hn) (by rw [eT.kindA h.vol hn.1 hn.2.1];exact hk) (v:=linkN V n+1) (by omega)
 rw [e,p1]
 refine ⟨p2.congr fun k _=>?_,p3.len.trans eT.far.len⟩
 unfold atX1
 by_cases ek:k=n
 ·rw [if_pos ek,if_pos rfl,hli];omega
 ·rw [if_neg ek,if_neg ek]
theorem rename_ok (h:FsT V m) {p q:ByteArray} (he:(renameO V p q).2=0):∃ n:Nat,(pathO V p.data.toList).2=0∧(pathO V p.data.toList).1=(n:Int)∧LiveT V m n∧n≠1∧p.data.toList≠[47]∧(vacO V q).2.2=0∧Lib.hasPrefix q.data.toList (p.data.toList++[47])=false ∧
  (dropO V (pathO V (aboveB p).data.toList).1 (lastB p)).2=0∧(addO (dropO V (pathO V (aboveB p).data.toList).1 (lastB p)).1 (vacO V q).1 (vacO V q).2.1 (n:Int)).2=0 ∧
  renameO V p q=addO (dropO V (pathO V (aboveB p).data.toList).1 (lastB p)).1 (vacO V q).1 (vacO V q).2.1 (n:Int)∧(findO V (pathO V (aboveB p).data.toList).1 (lastB p)).1=(n:Int)∧beyondO V (renameO V p q).1=false:=by
 unfold renameO at he ⊢
 by_cases hm:mayP p.data.toList=false∨mayP q.data.toList=false
 ·rw [if_pos hm] at he;exact absurd he (by decide)
 ·rw [if_neg hm] at he ⊢
  obtain ⟨hI,hW,hb⟩:=weigh_ok he
  rw [hW]
  dsimp only
  unfold renameI at hI hb ⊢
  by_cases h1:(pathO V p.data.toList).2=0
  ·rw [if_neg (by rw [h1];simp)] at hI hb ⊢
   obtain ⟨n,e,hn,hmay,hne⟩:=h.path h1
   by_cases h2:p.data.toList=[47]
   ·rw [if_pos h2] at hI;exact absurd hI (by decide)
   ·rw [if_neg h2] at hI hb ⊢
    have hf:=(path_of_parts (V:=V) hmay h2 h1).2.2
    rw [e] at hI hb hf ⊢
    by_cases h3:(vacO V q).2.2=0
    ·rw [if_neg (by rw [h3];simp)] at hI hb ⊢
     by_cases h4:Lib.hasPrefix q.data.toList (p.data.toList++[47])=true
     ·rw [if_pos h4] at hI;exact absurd hI (by decide)
     ·rw [if_neg h4] at hI hb ⊢
      by_cases h5:(pathO V (aboveB p).data.toList).2=0
      ·rw [if_neg (by rw [h5];simp)] at hI hb ⊢
       by_cases h6:(dropO V (pathO V (aboveB p).data.toList).1 (lastB p)).2=0
       ·rw [if_neg (by rw [h6];simp)] at hI hb ⊢
        refine ⟨n,h1,rfl,hn,hne h2,h2,h3,by simpa using h4,h6,hI,?_,hf.symm,hb⟩
        show (_,(0:Int))=_
        rw [← hI]
       ·rw [if_pos h6] at hI;exact absurd hI h6
      ·rw [if_pos h5] at hI;exact absurd hI h5
    ·rw [if_pos h3] at hI;exact absurd hI h3
  ·rw [if_pos h1] at hI;exact absurd hI h1
theorem TreeX.rename (h:FsT V m) {p q:ByteArray} (he:(renameO V p q).2=0):FsT (renameO V p q).1 m∧(renameO V p q).1.length=V.length:=by
 obtain ⟨n,_,_,hn,n1,_,_,_,hd,ha,e,hf,_⟩:=rename_ok h he
 rw [e]
 obtain ⟨d,j,_,jl,j1,jf,_,hT,eT⟩:=TreeX.drop h hd
 obtain rfl:j=n:=by rw [hf] at jf;omega
 obtain ⟨a,d2,_,_,eT2⟩:=hT.add ((eT.liveA h.vol).2 hn) n1 ha
 refine ⟨a.congr fun k _=>?_,eT2.far.len.trans eT.far.len⟩
 unfold atX1
 by_cases ek:k=j
 ·rw [if_pos ek,if_pos rfl];rfl
 ·rw [if_neg ek,if_neg ek]
theorem remove_ok (h:FsT V m) {p:ByteArray} (he:(removeO V p).2=0):∃ n:Nat,(pathO V p.data.toList).2=0∧(pathO V p.data.toList).1=(n:Int)∧LiveT V m n∧n≠1∧p.data.toList≠[47]∧(kindR V n=2→entD V n=[]) ∧
  (dropO V (pathO V (aboveB p).data.toList).1 (lastB p)).2=0∧(findO V (pathO V (aboveB p).data.toList).1 (lastB p)).1=(n:Int)∧beyondO V (removeO V p).1=false ∧
  ((linkN V n≤1∨kindR V n=2)∧(goneO (dropO V (pathO V (aboveB p).data.toList).1 (lastB p)).1 (n:Int)).2=0∧removeO V p=goneO (dropO V (pathO V (aboveB p).data.toList).1 (lastB p)).1 (n:Int)
   ∨ ¬ (linkN V n≤1∨kindR V n=2)∧removeO V p=putO (dropO V (pathO V (aboveB p).data.toList).1 (lastB p)).1 (n:Int) (intsL ((getR V (n:Int)).set 1 (linkN V n-1)))):=by
 unfold removeO at he ⊢
 obtain ⟨hI,hW,hb⟩:=weigh_ok he
 rw [hW]
 dsimp only
 unfold removeI at hI hb ⊢
 by_cases h1:(pathO V p.data.toList).2=0
 ·rw [if_neg (by rw [h1];simp)] at hI hb ⊢
  obtain ⟨n,e,hn,hmay,hne⟩:=h.path h1
  by_cases h2:p.data.toList=[47]
  ·rw [if_pos h2] at hI;exact absurd hI (by decide)
  ·rw [if_neg h2] at hI hb ⊢
   have hf:=(path_of_parts (V:=V) hmay h2 h1).2.2
   rw [e] at hI hb hf ⊢
   have hi:=inoE_zero h.vol hn.1 hn.2.1
   have hk:=kind_getT h.vol hn.1 hn.2.1
   by_cases h3:(inoE V (n:Int)=0∧(getR V (n:Int)).getD 0 0=2)∧((listO V (n:Int)).2≠0∨(listO V (n:Int)).1≠[])
   ·rw [if_pos h3] at hI;exact absurd hI (by decide)
   ·rw [if_neg h3] at hI hb ⊢
    have hem:kindR V n=2→entD V n=[]:=fun e2=>by
     refine Classical.not_not.1 (fun hx=>h3 ⟨⟨hi,by rw [hk];exact e2⟩,.inr hx⟩)
    by_cases h5:(pathO V (aboveB p).data.toList).2=0
    ·rw [if_neg (by rw [h5];simp)] at hI hb ⊢
     by_cases h6:(dropO V (pathO V (aboveB p).data.toList).1 (lastB p)).2=0
     ·have h7:¬ ((dropO V (pathO V (aboveB p).data.toList).1 (lastB p)).2≠0∨inoE V (n:Int)≠0):=fun hh=>by
       rcases hh with hh | hh
       ·exact hh h6
       ·exact hh hi
      rw [if_neg h7] at hI hb ⊢
      refine ⟨n,h1,rfl,hn,hne h2,h2,hem,h6,hf.symm,hb,?_⟩
      rw [hk] at hI ⊢
      by_cases h8:(getR V (n:Int)).getD 1 0≤1∨kindR V n=2
      ·left
       rw [if_pos h8] at hI ⊢
       refine ⟨h8,hI,?_⟩
       show (_,(0:Int))=_
       rw [← hI]
      ·right
       rw [if_neg h8] at hI ⊢
       refine ⟨h8,?_⟩
       show (_,(0:Int))=_
       rw [← hI]
       rfl
     ·have h7:(dropO V (pathO V (aboveB p).data.toList).1 (lastB p)).2≠0∨inoE V (n:Int)≠0:=.inl h6
      rw [if_pos h7] at hI
      exact absurd hI h6
    ·rw [if_pos h5] at hI;exact absurd hI h5
 ·rw [if_pos h1] at hI;exact absurd hI h1
theorem TreeX.remove (h:FsT V m) {p:ByteArray} (he:(removeO V p).2=0):FsT (removeO V p).1 m∧(removeO V p).1.length=V.length:=by
 obtain ⟨n,_,_,hn,n1,_,hem,hd,hf,_,hcase⟩:=remove_ok h he
 obtain ⟨d,j,_,jl,j1,jf,jm,hT,eT⟩:=TreeX.drop h hd
 obtain rfl:j=n:=by rw [hf] at jf;omega
 have hjd:kindR V j=2→j≠d:=fun e2 ed=>by
  subst ed
  rw [hem e2] at jm
  cases jm
 have hg2:∀ e:j≠d,getR (dropO V (pathO V (aboveB p).data.toList).1 (lastB p)).1 (j:Int)=getR V (j:Int):=fun e=>eT.far.rest j hn.1 hn.2.1 e
 have hnd:j≠d:=fun e=>by
  subst e
  exact hjd eT.kind rfl
 have hg:=hg2 hnd
 have hli:linkN (dropO V (pathO V (aboveB p).data.toList).1 (lastB p)).1 j=linkN V j:=by unfold linkN;rw [hg]
 have hlw:=(eT.liveA h.vol (k:=j)).2 hn
 have hkw:=eT.kindA h.vol hn.1 hn.2.1
 have h0:=h.links j hn
 rw [if_neg n1] at h0
 have h1:=hT.links j hlw
 rw [if_neg n1,hli] at h1
 unfold atX1 at h1
 rw [if_pos rfl] at h1
 rcases hcase with ⟨hc,hz,e⟩ | ⟨hc,e⟩
 ·have hle:linkN V j≤1:=by
   rcases hc with hc | hc
   ·exact hc
   ·rw [h.dlink j hn hc];exact Nat.le_refl _
  rw [e]
  obtain ⟨a,b,_,_⟩:=hT.gone hlw n1 (by omega) (fun e2=>by
   rw [hkw] at e2
   rw [eT.rest j hn e2 hnd];exact hem e2) hz
  refine ⟨a.congr fun k hk=>?_,b.len.trans eT.far.len⟩
  unfold atX1
  by_cases ek:k=j
  ·exfalso
   subst ek
   have:=hT.gone hlw n1 (by omega) (fun e2=>by
    rw [hkw] at e2
    rw [eT.rest k hn e2 hnd];exact hem e2) hz
   exact hk.2.2 this.2.2.1
  ·rw [if_neg ek]
 ·rw [← hg] at e
  have hv:linkN V j<65536:=(h.dir.inv.good j hn).ok.fit.2 2
  obtain ⟨p1,p2,p3⟩:=hT.puts hlw (by
   rcases h.dir.kind j hn with a | a
   ·rw [hkw];exact a
   ·exact absurd (.inr a) hc) (v:=linkN V j-1) (by omega)
  rw [e,p1]
  refine ⟨p2.congr fun k _=>?_,p3.len.trans eT.far.len⟩
  unfold atX1
  by_cases ek:k=j
  ·rw [if_pos ek,if_pos rfl,hli]
   have:¬ linkN V j≤1:=fun h=>hc (.inl h)
   omega
  ·rw [if_neg ek,if_neg ek]
theorem TreeX.write (h:FsT V m) {z off:Int} {b:List UInt8} (he:(writeF V z off b).2=0):FsT (writeF V z off b).1 m∧(writeF V z off b).1.length=V.length:=by
 unfold writeF at he ⊢
 by_cases h0:fileO V z=0
 ·rw [if_neg (by rw [h0];simp)] at he ⊢
  obtain ⟨n,rfl,hn,hk⟩:=file_ok h.vol h0
  obtain ⟨hw,hW,_⟩:=weigh_ok he
  rw [hW]
  obtain ⟨f,_,kp,kb⟩:=h.dir.inv.write_one hn hw
  refine ⟨TreeX.filed h f hn.1 hn.2.1 hk ?_ (kp 1 (by omega)) ((h.dir.att n hn).move (kp 11 (.inr rfl)) kb),f.len⟩
  rw [← kind_getT f.inv.vol hn.1 hn.2.1,kp 0 (by omega),kind_getT h.vol hn.1 hn.2.1];exact hk
 ·rw [if_pos h0] at he;exact absurd he h0
theorem TreeX.cut (h:FsT V m) {z size:Int} (he:(cutF V z size).2=0):FsT (cutF V z size).1 m∧(cutF V z size).1.length=V.length:=by
 unfold cutF at he ⊢
 by_cases h0:fileO V z=0
 ·rw [if_neg (by rw [h0];simp)] at he ⊢
  obtain ⟨n,rfl,hn,hk⟩:=file_ok h.vol h0
  obtain ⟨hw,hW,_⟩:=weigh_ok he
  rw [hW]
  obtain ⟨f,_,kp,kb⟩:=h.dir.inv.cut_one hn hw
  refine ⟨TreeX.filed h f hn.1 hn.2.1 hk ?_ (kp 1 (by omega)) ((h.dir.att n hn).move (kp 11 (.inr rfl)) kb),f.len⟩
  rw [← kind_getT f.inv.vol hn.1 hn.2.1,kp 0 (by omega),kind_getT h.vol hn.1 hn.2.1];exact hk
 ·rw [if_pos h0] at he;exact absurd he h0
theorem TreeX.limit (h:TreeX V m δ) {o q:Int} (he:(setO V o q).2=0):TreeX (setO V o q).1 m δ∧SameT V (setO V o q).1 m:=by
 unfold setO at he ⊢
 by_cases h0:quoE V o=0
 ·have ho:¬ (o<0∨16≤o):=fun hh=>by
   unfold quoE at h0
   rw [ofR_some.2 h.vol] at h0
   dsimp only at h0
   rw [if_pos hh] at h0
   exact absurd h0 (by decide)
  rw [if_neg (by rw [h0];simp)] at he ⊢
  by_cases h1:q<0∨65535<q
  ·rw [if_pos h1] at he;exact absurd he (by decide)
  ·rw [if_neg h1] at he ⊢
   by_cases h2:overB V o q=true
   ·rw [if_pos h2] at he;exact absurd he (by decide)
   ·rw [if_neg h2]
    have s:=h.dir.inv.limit (p:=2 * o.toNat) (d:=putL q.toNat 2) (by rw [putL_length];omega)
    refine ⟨h.same s (fun k hk h0=>one_blkT h.vol ?_),s⟩
    have:=(datB_iff.1 (h.dir.inv.ext k hk h0).1).1
    unfold dataN at this
    omega
 ·rw [if_pos h0] at he;exact absurd he h0
end
open Go.RowKit
theorem str_data (s:ByteArray):s.toList=s.data.toList:=Lib.toList_data s
theorem may_out {l:List UInt8} (h:l=[]∨24<l.length∨l=[46]∨l=[46,46]):mayB l=false:=by
 unfold mayB
 rw [decide_eq_false,Bool.false_and]
 rintro ⟨h1,h2,h3,h4⟩
 rcases h with h | h | h | h
 ·exact h1 h
 ·omega
 ·exact h3 h
 ·exact h4 h
theorem may_in {l:List UInt8} (h1:¬ l=[]) (h2:l.length≤24) (h3:¬ l=[46]) (h4:¬ l=[46,46]):mayB l=l.all mayC:=by
 unfold mayB
 rw [decide_eq_true ⟨h1,h2,h3,h4⟩,Bool.true_and]
theorem all_out {l:List UInt8} {k:Nat} (hk:k<l.length) (h:mayC (l.getD k 0)=false):l.all mayC=false:=by
 rw [List.all_eq_false]
 refine ⟨l[k],List.getElem_mem hk,?_⟩
 rw [List.getD_eq_getElem?_getD,List.getElem?_eq_getElem hk] at h
 simpa using h
theorem all_step {l:List UInt8} {k:Nat} (hk:k<l.length) (h:(l.take k).all mayC=true) (hc:mayC (l.getD k 0)=true):(l.take (k+1)).all mayC=true:=by
 rw [List.getD_eq_getElem?_getD,List.getElem?_eq_getElem hk] at hc
 rw [List.take_succ_eq_append_getElem hk,List.all_append,h]
 simpa using hc
set_option maxHeartbeats 8000000 in
theorem may_any (s:ByteArray) (w:World) (hs:s.size≤140737488355328):Calls Tryz.prog 94 #[.string s] w fun e w'=>e=.returned (.bool (mayB s.data.toList))∧Below w.heap.size w w':=by
 have hl:s.data.toList.length=s.size:=by rw [Array.length_toList];rfl
 obtain ⟨r,hr⟩:∃ r,mayB s.data.toList=r:=⟨_,rfl⟩
 rw [hr]
 by_cases h24:s.size≤24
 ·have e24:¬ (24:Int)<(s.size:Int):=by omega
  by_cases h0:s.data.toList=[]
  ·have HW:=Lib.hid (hr.symm.trans <| may_out (.inl h0))
   have q1:s.toList=[]:=(str_data s).trans h0
   have q2:s.toList.isEmpty=true:=by rw [q1];rfl
   clear hr
   go_enter Tryz.func94,Tryz.ntmps94
   go_wp2
   go_ret
   exact ⟨ret_bool HW.out.symm,Below.refl _ _⟩
  have q1:¬ s.toList=[]:=by rw [str_data];exact h0
  have q2:s.toList.isEmpty=false:=by cases h:s.toList <;> simp_all
  by_cases h1:s.data.toList=[46]
  ·have HW:=Lib.hid (hr.symm.trans <| may_out (.inr (.inr (.inl h1))))
   have q3:s.toList=[46]:=(str_data s).trans h1
   have q4:(s.toList == [46])=true:=by rw [q3];rfl
   clear hr
   go_enter Tryz.func94,Tryz.ntmps94
   go_wp2
   go_ret
   exact ⟨ret_bool HW.out.symm,Below.refl _ _⟩
  have q3:¬ s.toList=[46]:=by rw [str_data];exact h1
  have q4:(s.toList == [46])=false:=by simp [q3]
  by_cases h2:s.data.toList=[46,46]
  ·have HW:=Lib.hid (hr.symm.trans <| may_out (.inr (.inr (.inr h2))))
   have q5:s.toList=[46,46]:=(str_data s).trans h2
   have q6:(s.toList == [46,46])=true:=by rw [q5];rfl
   clear hr
   go_enter Tryz.func94,Tryz.ntmps94
   go_wp2
   go_ret
   exact ⟨ret_bool HW.out.symm,Below.refl _ _⟩
  have q5:¬ s.toList=[46,46]:=by rw [str_data];exact h2
  have q6:(s.toList == [46,46])=false:=by simp [q5]
  have HW:=Lib.hid (hr.symm.trans (may_in h0 (by omega) h1 h2))
  have HL:=Lib.hid hl
  clear h0 h1 h2 hl hr
  go_enter Tryz.func94,Tryz.ntmps94
  go_wp2_with (refine bytes_of_str 9 44 (.tmp 20) 5 s rfl rfl rfl Tryz.underlying9 Tryz.underlying44 Tryz.underlying5 ?_;intro w2 cp hcl hb2;have HCL:=Lib.hid hcl;have B2:=Lib.hid hb2;clear hcl hb2)
  clear q1 q2 q3 q4 q5 q6
  go_loopw [23] (fun j wr=>∃ k:Nat,k≤s.size∧j=.int .i64 (k:Int)∧wr=w2∧Hid ((s.data.toList.take k).all mayC=true)) (fun j _=>s.size-(intOf j).toNat)
  case atStart=>exact ⟨0,Nat.zero_le _,rfl,rfl,rfl⟩
  case round=>
   obtain ⟨k,hk,rfl,rfl,HA⟩:=hrel
   by_cases hlt:k<s.size
   ·have i1:(k:Int)<(s.size:Int):=by omega
    have i2:(0:Int)≤(k:Int):=by omega
    have cb:=HCL.out k hlt
    have HO:=Lib.hid (fun h=>all_out (l:=s.data.toList) (k:=k) (by rw [HL.out];exact hlt) h)
    have HI:=Lib.hid (fun h=>all_step (l:=s.data.toList) (k:=k) (by rw [HL.out];exact hlt) HA.out h)
    have hc:(s.data.toList.getD k 0).toNat<256:=UInt8.toNat_lt _
    have HM:Hid (mayC (s.data.toList.getD k 0)=decide _):=rfl
    generalize mayC (s.data.toList.getD k 0)=mc at *
    generalize (s.data.toList.getD k 0).toNat=c at *
    clear HA
    go_wp2
    all_goals (try simp only [beq_eq_false_iff_ne,beq_iff_eq,ne_eq] at *)
    all_goals first
     | (go_ret
        refine ⟨ret_bool (HW.out.trans (HO.out (HM.out.trans (decide_eq_false (by omega))))).symm,B2.out⟩)
     | (refine ⟨⟨k+1,by omega,rfl,trivial,HI.out (HM.out.trans (decide_eq_true (by omega)))⟩,?_⟩
        simp [intOf];omega)
   ·obtain rfl:k=s.size:=by omega
    go_wp2
    go_ret
    refine ⟨ret_bool ?_,B2.out⟩
    have:=HA.out
    rw [← HL.out,List.take_length] at this
    exact this.symm.trans HW.out.symm
 ·have e24:(24:Int)<(s.size:Int):=by omega
  have HW:=Lib.hid (hr.symm.trans <| may_out (.inr (.inl (by omega:24<s.data.toList.length))))
  by_cases h0:s.data.toList=[]
  ·rw [h0] at hl;simp at hl;omega
  have q1:¬ s.toList=[]:=by rw [str_data];exact h0
  have q2:s.toList.isEmpty=false:=by cases h:s.toList <;> simp_all
  go_enter Tryz.func94,Tryz.ntmps94
  go_wp2
  go_ret
  exact ⟨ret_bool HW.out.symm,Below.refl _ _⟩
theorem maya_out {l:List UInt8} (h:l=[]∨24<l.length):mayA l=false:=by
 unfold mayA
 rw [decide_eq_false,Bool.false_and]
 rintro ⟨h1,h2⟩
 rcases h with h | h
 ·exact h1 h
 ·omega
theorem maya_in {l:List UInt8} (h1:¬ l=[]) (h2:l.length≤24):mayA l=l.all mayD:=by
 unfold mayA
 rw [decide_eq_true ⟨h1,h2⟩,Bool.true_and]
theorem alla_out {l:List UInt8} {k:Nat} (hk:k<l.length) (h:mayD (l.getD k 0)=false):l.all mayD=false:=by
 rw [List.all_eq_false]
 refine ⟨l[k],List.getElem_mem hk,?_⟩
 rw [List.getD_eq_getElem?_getD,List.getElem?_eq_getElem hk] at h
 simpa using h
theorem alla_step {l:List UInt8} {k:Nat} (hk:k<l.length) (h:(l.take k).all mayD=true) (hc:mayD (l.getD k 0)=true):(l.take (k+1)).all mayD=true:=by
 rw [List.getD_eq_getElem?_getD,List.getElem?_eq_getElem hk] at hc
 rw [List.take_succ_eq_append_getElem hk,List.all_append,h]
 simpa using hc
set_option maxHeartbeats 8000000 in
theorem amay_any (s:ByteArray) (w:World) (hs:s.size≤140737488355328):Calls Tryz.prog 109 #[.string s] w fun e w'=>e=.returned (.bool (mayA s.data.toList))∧Below w.heap.size w w':=by
 have hl:s.data.toList.length=s.size:=by rw [Array.length_toList];rfl
 obtain ⟨r,hr⟩:∃ r,mayA s.data.toList=r:=⟨_,rfl⟩
 rw [hr]
 by_cases h24:s.size≤24
 ·have e24:¬ (24:Int)<(s.size:Int):=by omega
  by_cases h0:s.data.toList=[]
  ·have HW:=Lib.hid (hr.symm.trans <| maya_out (.inl h0))
   have q1:s.toList=[]:=(str_data s).trans h0
   have q2:s.toList.isEmpty=true:=by rw [q1];rfl
   clear hr
   go_enter Tryz.func109,Tryz.ntmps109
   go_wp2
   go_ret
   exact ⟨ret_bool HW.out.symm,Below.refl _ _⟩
  have q1:¬ s.toList=[]:=by rw [str_data];exact h0
  have q2:s.toList.isEmpty=false:=by cases h:s.toList <;> simp_all
  have HW:=Lib.hid (hr.symm.trans (maya_in h0 (by omega)))
  have HL:=Lib.hid hl
  clear h0 hl hr
  go_enter Tryz.func109,Tryz.ntmps109
  go_wp2_with (refine bytes_of_str 9 44 (.tmp 12) 5 s rfl rfl rfl Tryz.underlying9 Tryz.underlying44 Tryz.underlying5 ?_;intro w2 cp hcl hb2;have HCL:=Lib.hid hcl;have B2:=Lib.hid hb2;clear hcl hb2)
  clear q1 q2
  go_loopw [15] (fun j wr=>∃ k:Nat,k≤s.size∧j=.int .i64 (k:Int)∧wr=w2∧Hid ((s.data.toList.take k).all mayD=true)) (fun j _=>s.size-(intOf j).toNat)
  case atStart=>exact ⟨0,Nat.zero_le _,rfl,rfl,rfl⟩
  case round=>
   obtain ⟨k,hk,rfl,rfl,HA⟩:=hrel
   by_cases hlt:k<s.size
   ·have i1:(k:Int)<(s.size:Int):=by omega
    have i2:(0:Int)≤(k:Int):=by omega
    have cb:=HCL.out k hlt
    have HO:=Lib.hid (fun h=>alla_out (l:=s.data.toList) (k:=k) (by rw [HL.out];exact hlt) h)
    have HI:=Lib.hid (fun h=>alla_step (l:=s.data.toList) (k:=k) (by rw [HL.out];exact hlt) HA.out h)
    have hc:(s.data.toList.getD k 0).toNat<256:=UInt8.toNat_lt _
    have HM:Hid (mayD (s.data.toList.getD k 0)=decide _):=rfl
    generalize mayD (s.data.toList.getD k 0)=mc at *
    generalize (s.data.toList.getD k 0).toNat=c at *
    clear HA
    go_wp2
    all_goals (try simp only [beq_eq_false_iff_ne,beq_iff_eq,ne_eq] at *)
    all_goals first
     | (go_ret
        refine ⟨ret_bool (HW.out.trans (HO.out (HM.out.trans (decide_eq_false (by omega))))).symm,B2.out⟩)
     | (refine ⟨⟨k+1,by omega,rfl,trivial,HI.out (HM.out.trans (decide_eq_true (by omega)))⟩,?_⟩
        simp [intOf];omega)
   ·obtain rfl:k=s.size:=by omega
    go_wp2
    go_ret
    refine ⟨ret_bool ?_,B2.out⟩
    have:=HA.out
    rw [← HL.out,List.take_length] at this
    exact this.symm.trans HW.out.symm
 ·have e24:(24:Int)<(s.size:Int):=by omega
  have HW:=Lib.hid (hr.symm.trans <| maya_out (.inr (by omega:24<s.data.toList.length)))
  by_cases h0:s.data.toList=[]
  ·rw [h0] at hl;simp at hl;omega
  have q1:¬ s.toList=[]:=by rw [str_data];exact h0
  have q2:s.toList.isEmpty=false:=by cases h:s.toList <;> simp_all
  go_enter Tryz.func109,Tryz.ntmps109
  go_wp2
  go_ret
  exact ⟨ret_bool HW.out.symm,Below.refl _ _⟩
theorem RowAt.of_own_k {w:World} {base k:Nat} {e:TypeId} {A:Option Addr} {n c:Nat} {xs:List Value} (h:w.ownsRow base e k (.slice A n c) n xs):RowAt w w.heap.size A xs:=by
 obtain ⟨h1,h2⟩:=h
 rcases h2 with ⟨_,rfl⟩ | ⟨g,cap,cur,hv,hg,hh,hnc,hm,hsz,ht⟩
 ·exact .inl (List.eq_nil_of_length_eq_zero (by simpa using h1))
 ·injection hv with hA
  refine .inr ⟨g,0,hA,?_,fun j u hu=>?_⟩
  ·rcases Nat.lt_or_ge g w.heap.size with hlt | hge
   ·exact hlt
   ·rw [Array.getElem?_eq_none hge] at hh;cases hh
  ·have:cur[j]?=some u:=by
    rw [← ht,List.getElem?_take] at hu
    split at hu
    ·simpa using hu
    ·cases hu
   simp [World.cell?,hh,this]
theorem entC_app (k l:List EntV):entC (k++l)=entC k++entC l:=by unfold entC;simp
theorem entC_get:∀ {l:List EntV} {k:Nat} (hk:k<l.length),(entC l)[k * 2]?=some (.string l[k].name)∧(entC l)[k * 2+1]?=some (.int .i64 l[k].ino)
 | [],k,hk=>absurd hk (Nat.not_lt_zero _)
 | x::l,0,_=>⟨rfl,rfl⟩
 | x::l,k+1,hk=>by
  have e:entC (x::l)=.string x.name::.int .i64 x.ino::entC l:=rfl
  have:=entC_get (l:=l) (k:=k) (by simpa using hk)
  rw [e,show (k+1) * 2=k * 2+1+1 by omega]
  exact this
theorem entC_take:∀ (l:List EntV) (k:Nat),(entC l).take (k * 2)=entC (l.take k)
 | _,0=>by simp [entC]
 | [],k+1=>by simp [entC]
 | x::l,k+1=>by
  show (Value.string x.name::Value.int .i64 x.ino::entC l).take ((k+1) * 2)=Value.string x.name::Value.int .i64 x.ino::entC (l.take k)
  rw [show (k+1) * 2=k * 2+1+1 by omega,List.take_succ_cons,List.take_succ_cons,entC_take l k]
theorem entC_drop:∀ (l:List EntV) (k:Nat),(entC l).drop (k * 2)=entC (l.drop k)
 | _,0=>by simp
 | [],k+1=>by simp [entC]
 | x::l,k+1=>by
  show (Value.string x.name::Value.int .i64 x.ino::entC l).drop ((k+1) * 2)=entC (l.drop k)
  rw [show (k+1) * 2=k * 2+1+1 by omega,List.drop_succ_cons,List.drop_succ_cons,entC_drop l k]
theorem entC_one (l:List EntV):∀ u ∈ entC l,u.oneCell'=true:=fun u hu=>by
 unfold entC at hu
 obtain ⟨x,_,hx⟩:=List.mem_flatMap.1 hu
 rcases List.mem_cons.1 hx with rfl | hx
 ·rfl
 ·rcases List.mem_cons.1 hx with rfl | hx
  ·rfl
  ·cases hx
def EntsAt (w:World) (B:Nat) (A:Option Addr) (l:List EntV):Prop:=RowAt w B A (entC l)
theorem EntsAt.below {w w':World} {B:Nat} {A:Option Addr} {l:List EntV} (h:EntsAt w B A l) (hb:Below B w w'):EntsAt w' B A l:=RowAt.below h hb
theorem EntsAt.mono {w:World} {B B':Nat} {A:Option Addr} {l:List EntV} (h:EntsAt w B A l) (hB:B≤B'):EntsAt w B' A l:=RowAt.mono h hB
theorem EntsAt.get {w:World} {B:Nat} {A:Option Addr} {l:List EntV} (h:EntsAt w B A l) {k:Nat} (hk:k<l.length) :
  ∃ b o,A=some ⟨b,o,none⟩∧b<B∧w.rangeAt b (o+k * 2) [.string l[k].name,.int .i64 l[k].ino]:=by
 obtain ⟨b,o,hA,hb,hc⟩:=RowAt.at_ h (by rw [entC_len];omega)
 have g:=entC_get hk
 refine ⟨b,o,hA,hb,fun j u hu=>?_⟩
 match j,hu with
 | 0,hu=>cases hu;rw [Nat.add_zero];exact hc _ _ g.1
 | 1,hu=>cases hu;rw [Nat.add_assoc];exact hc _ _ g.2
 | j+2,hu=>simp at hu
def OwnEnts (l:List EntV) (w:World) (v:Value) (w':World):Prop:=w'.ownsRow w.heap.size 168 2 v l.length (entC l)
theorem OwnEnts.read {l:List EntV} {w w':World} {v:Value} (h:OwnEnts l w v w'):∃ A c,v=.slice A l.length c∧EntsAt w' w'.heap.size A l:=by
 have h2:=h
 obtain ⟨h1,h3⟩:=h2
 rcases h3 with ⟨hv,hn⟩ | ⟨g,cap,cur,hv,hg,hh,hnc,hm,hsz,ht⟩
 ·refine ⟨none,0,by rw [hv,hn],?_⟩
  have:l=[]:=List.eq_nil_of_length_eq_zero hn
  subst this
  exact RowAt.nil
 ·subst hv
  exact ⟨_,_,rfl,RowAt.of_own_k h⟩
theorem ent_info:(Tryz.prog.info? 168).map (fun i=>(i.zero,i.size,i.bytes))=some (some (.agg #[.string ⟨#[]⟩,.int .i64 0]),2,24):=by kernel_rfl
open Go.RowKit Go.Shelf
theorem builderAt_grown {B b:Nat} {p:Value} {bs:List Value} {X Y:World} {row:Option Nat} (h:Lib.BuilderAtF 172 5 B b p bs X) (hg:X.grownBy Y row) (hr:∀ r,row=some r→∃ o:Obj,X.heap[r]?=some o∧o.isCells=false):Lib.BuilderAtF 172 5 B b p bs Y:=by
 obtain ⟨h1,v,h2,h3,h4⟩:=h
 have hlt:b<X.heap.size:=by
  rcases Nat.lt_or_ge b X.heap.size with hlt | hge
  ·exact hlt
  ·rw [Array.getElem?_eq_none hge] at h2;cases h2
 refine ⟨h1,v,(hg.block b hlt ?_).trans h2,h3.kept hg ?_,h4⟩
 ·intro e
  obtain ⟨o,ho,hc⟩:=hr b e.symm
  rw [h2] at ho;cases ho;cases hc
 ·rcases h3.2 with ⟨rfl,_⟩ | ⟨g,cap,cur,fz,rfl,_,hh,_⟩
  ·exact .inl rfl
  ·right
   intro e
   obtain ⟨o,ho,hc⟩:=hr g e.symm
   rw [hh] at ho;cases ho;cases hc
theorem builder_grown {B b:Nat} {bs:List Value} {X Y:World} {row:Option Nat} (h:Lib.IsBuilderF 172 5 B b bs X) (hg:X.grownBy Y row) (hr:∀ r,row=some r→∃ o:Obj,X.heap[r]?=some o∧o.isCells=false):Lib.IsBuilderF 172 5 B b bs Y:=
 h.elim (fun x=>.inl (builderAt_grown x hg hr)) (fun x=>.inr (builderAt_grown x hg hr))
theorem builder_below {B b:Nat} {bs:List Value} {X Y:World} (h:Lib.IsBuilderF 172 5 B b bs X) (hb:Below X.heap.size X Y):Lib.IsBuilderF 172 5 B b bs Y:=
 builder_grown (row:=none) h ⟨hb.os,hb.tape,hb.output,hb.size,fun k hk _=>hb.block k hk⟩ (fun r e=>by cases e)
theorem builder_blk {B b:Nat} {bs:List Value} {X:World} (h:Lib.IsBuilderF 172 5 B b bs X):∃ cs,Blk X b 172 cs:=by
 rcases h with ⟨_,v,h2,_⟩ | ⟨_,v,h2,_⟩ <;> exact ⟨_,h2⟩
theorem Blk.others {b g:Nat} {t:TypeId} {cs:Array Value} {X Y:World} (h:Blk X g t cs) (hk:Lib.OthersKept 5 (some b) X Y) (ht:t≠5) (hne:g≠b):Blk Y g t cs:=
 hk g _ h (by intro e;exact hne (Option.some.inj e)) (fun c fz e=>by cases e;exact ht rfl)
theorem own_others {b:Nat} {e:TypeId} {base n:Nat} {v:Value} {xs:List Value} {X Y:World} (h:X.ownsRow base e 1 v n xs) (hk:Lib.OthersKept 5 (some b) X Y) (he:e≠5) (hne:v.ownBlock≠some b):Y.ownsRow base e 1 v n xs:=by
 obtain ⟨h1,h2⟩:=h
 refine ⟨h1,?_⟩
 rcases h2 with h2 | ⟨g,cap,cur,rfl,hg,hh,r⟩
 ·exact .inl h2
 ·exact .inr ⟨g,cap,cur,rfl,hg,hk g _ hh (by intro e';exact hne e') (fun c fz e'=>by cases e';exact he rfl),r⟩
theorem FileX.others {b B g m n:Nat} {V:List ByteArray} {l:List Nat} {X Y:World} {cs:Array Value} (h:FileX B X g m n V l) (hb:Blk X b 172 cs) (hk:Lib.OthersKept 5 (some b) X Y):FileX B Y g m n V l:=by
 obtain ⟨gv,c,h⟩:=h
 refine ⟨gv,c,h.low,h.blk.others hk (by decide) (h.blk.ne hb (by decide)),own_others h.own hk (by decide) ?_,h.vol,h.fit,h.one,h.top⟩
 intro e
 have e':gv=b:=Option.some.inj e
 obtain ⟨cur,hc⟩:=own_blkT h.own
 exact hc.ne hb (by decide) e'
theorem keeps_others {b:Nat} {X Y:World} {cs:Array Value} (hb:Blk X b 172 cs) (hk:Lib.OthersKept 5 (some b) X Y) (hz:X.heap.size≤Y.heap.size):KeepsOthers X Y:=
 ⟨hz,fun k o ho hc=>hk k o ho (by
  intro e
  have e':k=b:=Option.some.inj e
  subst e'
  unfold Blk at hb
  rw [hb] at ho;cases ho;cases hc) (fun c fz e=>by subst e;cases hc)⟩
theorem quiet_max {P:Program} {C:World→Prop} {K:Act→Prop} {o:Oper} {a:Act} (x y:Operand) (t:TypeId) (p q:Int) (ho:o.op=.call { callee:=.builtin .max,args:=#[x,y],argTypes:=#[t,t] }) (hx:a.eval x=.int .i64 p) (hy:a.eval y=.int .i64 q)
  (hk:K (a.put o.dst (.int .i64 (max p q)))):o.quiet P a C K:=
 ⟨.int .i64 (max p q),fun w hw=>by
  unfold Oper.quietAt execOp
  simp only [ho,resolve,invoke,builtin,Sem.run_bind,Sem.run_pure,Result.andThen_ok,List.map_toArray,List.map_cons,List.map_nil,hx,hy]
  simp [go_sem],hk⟩
theorem quiet_min {P:Program} {C:World→Prop} {K:Act→Prop} {o:Oper} {a:Act} (x y:Operand) (t:TypeId) (p q:Int) (ho:o.op=.call { callee:=.builtin .min,args:=#[x,y],argTypes:=#[t,t] }) (hx:a.eval x=.int .i64 p) (hy:a.eval y=.int .i64 q)
  (hk:K (a.put o.dst (.int .i64 (min p q)))):o.quiet P a C K:=
 ⟨.int .i64 (min p q),fun w hw=>by
  unfold Oper.quietAt execOp
  simp only [ho,resolve,invoke,builtin,Sem.run_bind,Sem.run_pure,Result.andThen_ok,List.map_toArray,List.map_cons,List.map_nil,hx,hy]
  simp [go_sem],hk⟩
theorem builder_new (B:Nat) (w:World) (h:B≤w.heap.size):Lib.IsBuilderF 172 5 B w.heap.size (Lib.byteCells []) (w.alloc (.cells #[.pointer none,.slice none 0 0] 172)):=
 .inl (Lib.BuilderAtF.of ⟨h,.slice none 0 0,Blk.new w _ _,World.ownsRow_nil _ _ _ _,by intro e;cases e⟩)
def pieF (xs:List ByteArray) (m:Nat) (l:List Nat) (off en k:Nat):List UInt8:=(List.range' (max off (128 * k)) (min en (128 * (k+1))-max off (128 * k))).map (byteX xs m l)
def outF (xs:List ByteArray) (m:Nat) (l:List Nat) (off en:Nat) (pre:List (Fin 70)):List UInt8:=pre.flatMap fun x=>pieF xs m l off en x.1
section
variable (xs:List ByteArray) (m:Nat) (l:List Nat) (off en:Nat)
theorem outF_snoc (pre:List (Fin 70)) (x:Fin 70):outF xs m l off en (pre++[x])=outF xs m l off en pre++pieF xs m l off en x.1:=by
 unfold outF
 rw [List.flatMap_append]
 simp
theorem pieF_len (k:Nat):(pieF xs m l off en k).length≤128:=by
 unfold pieF
 rw [List.length_map,List.length_range']
 omega
theorem outF_len:∀ pre:List (Fin 70),(outF xs m l off en pre).length≤128 * pre.length
 | []=>by simp [outF]
 | x::pre=>by
  have ih:=outF_len pre
  have hp:=pieF_len xs m l off en x.1
  unfold outF at ih ⊢
  rw [List.flatMap_cons,List.length_append,List.length_cons]
  omega
theorem outF_all:∀ c,c≤70→outF xs m l off en (upK c)=spanX xs m l off (min en (128 * c))
 | 0,_=>by
  rw [upK_zero]
  unfold outF spanX
  simp
 | c+1,h=>by
  rw [upK_succ c h,outF_snoc,outF_all c (by omega),spanX_step]
  rfl
theorem pieF_none (k:Nat) (h:en≤128 * k∨en≤off∨128 * (k+1)≤off):pieF xs m l off en k=[]:=by
 unfold pieF
 rw [show min en (128 * (k+1))-max off (128 * k)=0 by omega]
 rfl
theorem pieF_some (k p q:Nat) (hp:off-128 * k=p) (hq:min en (128 * (k+1))=128 * k+q) (hq2:q≤128) (hz:atX xs m l k≠0→(blkL xs (atX xs m l k)).length=128) :
  pieF xs m l off en k=if atX xs m l k=0 then List.replicate (q-p) 0 else ((blkL xs (atX xs m l k)).take q).drop p:=by
 rw [← span_piece xs m l k p q hq2 hz]
 unfold pieF
 rw [hq,show max off (128 * k)=128 * k+p by omega,show 128 * k+q-(128 * k+p)=q-p by omega]
theorem byteCells_app (a:List UInt8) (s:ByteArray):Lib.byteCells a++Lib.strCells s=Lib.byteCells (a++s.data.toList):=by
 unfold Lib.byteCells Lib.strCells
 rw [List.map_append]
end
structure RdI (w:World) (bo be gb Bc g m n:Nat) (V:List ByteArray) (l:List Nat) (off en:Nat) (cn:Int) (pre:List (Fin 70)) (W:World):Prop where
 fb:Lib.IsBuilderF 172 5 w.heap.size gb (Lib.byteCells (outF V m l off en pre)) W
 ff:FileX w.heap.size W g m n V l
 fo:Blk W bo 3 #[.int .i64 (off:Int)]
 fe:Blk W be 3 #[.int .i64 (en:Int)]
 fc:Blk W Bc 3 #[.int .i64 cn]
 below:Below w.heap.size w W
theorem RdI.own {w:World} {bo be gb Bc g m n:Nat} {V:List ByteArray} {l:List Nat} {off en:Nat} {cn:Int} {B:Nat} (hB:w.heap.size≤B):OwnFrom B (fun pre W=>RdI w bo be gb Bc g m n V l off en cn pre W):=fun s X Y row hs hg hr=>
 have hr':∀ r,row=some r→∃ o:Obj,X.heap[r]?=some o∧o.isCells=false:=fun r e=>(hr r e).2
 ⟨builder_grown hs.fb hg hr',FileX.own (β:=Unit) (C:=B) () X Y row hs.ff hg hr,Blk.own bo _ (fun (_:Unit)=>_) () X Y row hs.fo hg hr',Blk.own be _ (fun (_:Unit)=>_) () X Y row hs.fe hg hr',Blk.own Bc _ (fun (_:Unit)=>_) () X Y row hs.fc hg hr',ownFrom_below (Nat.le_refl _) hB s X Y row hs.below hg hr⟩
theorem RdI.later {w:World} {bo be gb Bc g m n:Nat} {V:List ByteArray} {l:List Nat} {off en:Nat} {cn:Int} {pre:List (Fin 70)} {X Y:World} (h:RdI w bo be gb Bc g m n V l off en cn pre X) (hb:Below X.heap.size X Y):RdI w bo be gb Bc g m n V l off en cn pre Y:=
 ⟨builder_below h.fb hb,h.ff.below hb,h.fo.below hb h.fo.lt,h.fe.below hb h.fe.lt,h.fc.below hb h.fc.lt,h.below.trans (hb.mono h.below.size)⟩
theorem RdI.wrote {w:World} {bo be gb Bc g m n:Nat} {V:List ByteArray} {l:List Nat} {off en:Nat} {cn:Int} {pre:List (Fin 70)} {X Y:World} {s:ByteArray} {x:Fin 70} (h:RdI w bo be gb Bc g m n V l off en cn pre X)
  (hs:pieF V m l off en x.1=s.data.toList) (hb:Lib.BuilderAtF 172 5 w.heap.size gb (.pointer (some ⟨gb,0,none⟩)) (Lib.byteCells (outF V m l off en pre)++Lib.strCells s) Y) (hw:Below w.heap.size X Y) (hk:Lib.OthersKept 5 (some gb) X Y) :
  RdI w bo be gb Bc g m n V l off en cn (pre++[x]) Y∧KeepsOthers X Y∧KeepB Bc X Y:=by
 obtain ⟨cs,hB⟩:=builder_blk h.fb
 refine ⟨⟨?_,h.ff.others hB hk,h.fo.others hk (by decide) (h.fo.ne hB (by decide)),h.fe.others hk (by decide) (h.fe.ne hB (by decide)),h.fc.others hk (by decide) (h.fc.ne hB (by decide)),h.below.trans hw⟩,keeps_others hB hk hw.size,?_⟩
 ·rw [outF_snoc,hs,← byteCells_app]
  exact .inr hb
 ·intro cs' t hv
  have ht:t=3:=by
   have a:=hv
   have b:=h.fc
   unfold Blk at a b
   rw [a] at b
   cases b
   rfl
  subst ht
  exact hv.others hk (by decide) (hv.ne hB (by decide))
theorem repeat_l0 (z:Nat):Lib.repeatL [0] z=List.replicate z (0:UInt8):=by
 have:=congrArg (·.data.toList) (repeat_zero z)
 simpa [zerosB] using this
set_option maxHeartbeats 4000000 in
theorem entry_any (x:EntV) (w:World) (hn:x.name.size≤28) (hi:0≤x.ino∧x.ino<65536):Calls Tryz.prog 185 #[.agg #[.string x.name,.int .i64 x.ino]] w fun e w'=>e=.returned (.string ⟨(entB x).toArray⟩)∧Below w.heap.size w w':=by
 obtain ⟨s,ino⟩:=x
 dsimp only at *
 obtain ⟨i,rfl⟩:∃ i:Nat,ino=(i:Int):=⟨ino.toNat,by omega⟩
 obtain ⟨p1,hp1,sp1⟩:∃ p,(⟨(putL i 2).toArray⟩:ByteArray)=p∧p.size=2:=⟨_,rfl,by show (putL i 2).toArray.size=2;rw [List.size_toArray,putL_length]⟩
 obtain ⟨p2,hp2,sp2⟩:∃ p,(⟨(putL s.size 1).toArray⟩:ByteArray)=p∧p.size=1:=⟨_,rfl,by show (putL s.size 1).toArray.size=1;rw [List.size_toArray,putL_length]⟩
 obtain ⟨z,hz⟩:∃ z,z=28-s.size:=⟨_,rfl⟩
 obtain ⟨R,hR⟩:∃ R:ByteArray,(⟨(Lib.repeatL (⟨#[0]⟩:ByteArray).data.toList z).toArray⟩:ByteArray)=R:=⟨_,rfl⟩
 have HRs:Hid (R.size=z):=by
  show _=_
  rw [← hR]
  show (Lib.repeatL (⟨#[0]⟩:ByteArray).data.toList z).toArray.size=z
  show (Lib.repeatL [0] z).toArray.size=z
  rw [repeat_l0,List.size_toArray,List.length_replicate]
 have HJ:Hid ((p1++p2++⟨#[0]⟩++s++R:ByteArray)=⟨(entB ⟨s,(i:Int)⟩).toArray⟩):=by
  show _=_
  rw [← hp1,← hp2,← hR]
  unfold entB
  apply WideShapes.bytes_inj
  simp only [ByteArray.data_append,Array.toList_append,List.append_assoc,List.toList_toArray,Int.toNat_natCast,repeat_l0,← hz]
 obtain ⟨q,hq⟩:∃ q,(p1++p2++⟨#[0]⟩++s:ByteArray)=q:=⟨_,rfl⟩
 have k0:(⟨#[0]⟩:ByteArray).size=1:=rfl
 have HQ:Hid (q.size+z=32):=by show _=_;rw [← hq,ByteArray.size_append,ByteArray.size_append,ByteArray.size_append];omega
 have ad1:=fun (w:World)=>run_string_add_sum (P:=Tryz.prog) (w:=w) p1 p2 (by omega)
 have ad2:=fun (w:World)=>run_string_add_sum (P:=Tryz.prog) (w:=w) (p1++p2) ⟨#[0]⟩ (by rw [ByteArray.size_append];omega)
 have ad3:=fun (w:World)=>run_string_add_sum (P:=Tryz.prog) (w:=w) (p1++p2++⟨#[0]⟩) s (by rw [ByteArray.size_append,ByteArray.size_append];omega)
 have ad4:=fun (w:World)=>run_string_add_sum (P:=Tryz.prog) (w:=w) q R (by have:=HQ.out;have:=HRs.out;omega)
 have e1:IntKind.u64.wrap (i:Int)=(i:Int):=IntWalk.u64_in _ (by omega)
 have e2:IntKind.u64.wrap (s.size:Int)=(s.size:Int):=IntWalk.u64_in _ (by omega)
 have e3:IntKind.i64.wrap (32-(q.size:Int))=(z:Int):=by
  have:=HQ.out
  rw [show 32-(q.size:Int)=(z:Int) by omega]
  exact IntWalk.i64_in _ (by omega)
 have C1:Hid (∀ w,Calls Tryz.prog 93 #[.int .u64 i,.int .i64 2] w fun e w'=>e=.returned (.string p1)∧Below w.heap.size w w'):=fun w=>by rw [← hp1];exact put_any i 2 w (by omega) (by omega)
 have C2:Hid (∀ w,Calls Tryz.prog 93 #[.int .u64 (s.size:Int),.int .i64 1] w fun e w'=>e=.returned (.string p2)∧Below w.heap.size w w'):=fun w=>by rw [← hp2];exact put_any s.size 1 w (by omega) (by omega)
 have C3:Hid (∀ w,Calls Tryz.prog 101 #[.string ⟨#[0]⟩,.int .i64 z] w fun e w'=>e=.returned (.string R)∧Below w.heap.size w w'):=fun w=>by rw [← hR];exact Tryz.strings_Repeat ⟨#[0]⟩ z w (by omega) (by show 1 * z≤_;omega)
 have HQ2:=Lib.hid hq
 rw [← HJ.out]
 clear HJ HRs HQ hR hp1 hp2 hn hi hz sp1 sp2 k0 hq
 go_enter Tryz.func185,Tryz.ntmps185
 go_wp2
 generalize hw1:w.alloc _=w1
 have G:Hid (Blk w1 w.heap.size 168 #[.string s,.int .i64 i]):=hw1▸Blk.new _ _ _
 have B:Hid (Below w.heap.size w w1):=hw1▸(Below.refl _ _).alloc (Nat.le_refl _) _
 clear hw1
 have u0:∀ u:Ext w1,u.val.cell? ⟨w.heap.size,0,none⟩=some (.string s):=fun u=>u.cell (G.out.cell 0 rfl)
 have u1:∀ u:Ext w1,u.val.cell? ⟨w.heap.size,1,none⟩=some (.int .i64 i):=fun u=>u.cell (G.out.cell 1 rfl)
 refine wp_region_ext (by kernel_rfl) (by kernel_rfl) ?_
 repeat (go_big_quiet_step (first
  | (go_at_call 93;with_reducible exact Ext.call (C1.out _))
  | (go_at_call 93;with_reducible exact Ext.call (C2.out _))))
 refine wpQuiet_nil ?_
 rintro _ ⟨u,rfl⟩
 have B:=Lib.hid (B.out.trans (u.below.mono B.out.size))
 generalize u.val=w2 at B
 rw [HQ2.out]
 clear u0 u1 G C1 C2
 go_wp2_with fail
 refine (C3.out _).mono ?_
 rintro e w3 ⟨rfl,hb3⟩
 have B:=Lib.hid (B.out.trans (hb3.mono B.out.size))
 clear hb3
 go_wp2
 go_ret
 exact ⟨by rw [HQ2.out];rfl,B.out⟩
theorem string_l (B b:Nat) (l:List UInt8) (w:World) (h:Lib.IsBuilderF 172 5 B b (Lib.byteCells l) w) (hBw:B≤w.heap.size) :
  Calls Tryz.prog 102 #[.pointer (some ⟨b,0,none⟩)] w fun e w'=>e=.returned (.string ⟨l.toArray⟩)∧Below B w w':=
 (Tryz.Builder_String_any_f B b l w h hBw).mono fun _ _ h=>⟨h.1,h.2.2⟩
theorem cells_snoc (l:List EntV) (k:Nat) (hk:k<l.length):Lib.byteCells (bytesE (l.take k))++Lib.strCells ⟨(entB l[k]).toArray⟩=Lib.byteCells (bytesE (l.take (k+1))):=by
 rw [List.take_succ_eq_append_getElem hk,bytesE_app,Lib.byteCells_append]
 congr 1
 show Lib.byteCells (entB l[k])=Lib.byteCells (entB l[k]++[])
 rw [List.append_nil]
theorem bytes_le:∀ (l:List EntV),(∀ x ∈ l,x.name.size≤28)→(bytesE l).length=32 * l.length
 | [],_=>rfl
 | x::l,h=>by
  rw [bytesE_cons,List.length_append,entB_len (h x (by simp)),bytes_le l (fun y hy=>h y (by simp [hy]))]
  simp;omega
set_option maxHeartbeats 4000000 in
theorem bytes_any (A:Option Addr) (c:Nat) (l:List EntV) (w:World) (hl:l.length≤1000) (hn:∀ x ∈ l,x.name.size≤28∧0≤x.ino∧x.ino<65536) (h:EntsAt w w.heap.size A l) :
  Calls Tryz.prog 125 #[.slice A l.length c] w fun e w'=>e=.returned (.string ⟨(bytesE l).toArray⟩)∧Below w.heap.size w w':=by
 have B0:=Lib.hid ((Below.refl w.heap.size w).alloc (Nat.le_refl _) (.cells #[.pointer none,.slice none 0 0] 172))
 have F0:=Lib.hid (builder_new w.heap.size w (Nat.le_refl _))
 have R0:=Lib.hid ((h.below B0.out))
 have HN:=Lib.hid hn
 have HB:Hid (∀ k,(Lib.byteCells (bytesE (l.take k))).length≤32 * 1000):=fun k=>by
  rw [Lib.byteCells_length,bytes_le _ (fun x hx=>(hn x (List.mem_of_mem_take hx)).1),List.length_take]
  omega
 clear h hn
 go_enter Tryz.func125,Tryz.ntmps125
 go_wp2
 generalize w.alloc _=w0 at *
 go_loopw [5,8] (fun _ i wr=>∃ k:Nat,k≤l.length∧i=.int .i64 (k:Int)∧Hid (Lib.IsBuilderF 172 5 w.heap.size w.heap.size (Lib.byteCells (bytesE (l.take k))) wr)∧Hid (EntsAt wr w.heap.size A l)∧Hid (Below w.heap.size w wr)) (fun _ i _=>l.length-(intOf i).toNat)
 case atStart=>exact ⟨0,Nat.zero_le _,rfl,F0,R0,B0⟩
 case round=>
  clear F0 R0 B0
  obtain ⟨k,hk,rfl,F,R,B⟩:=hrel
  by_cases hlt:k<l.length
  ·obtain ⟨bA,oA,rfl,hbA,hrA⟩:=R.out.get hlt
   obtain ⟨n1,n2,n3⟩:=HN.out _ (List.getElem_mem hlt)
   have HS:=Lib.hid (cells_snoc l k hlt)
   have HL:=Lib.hid (HB.out k)
   have HE:=Lib.hid (entB_len n1)
   generalize l[k]=x at *
   have CE:=Lib.hid (fun w=>entry_any x w n1 ⟨n2,n3⟩)
   obtain ⟨nm,ino⟩:=x
   dsimp only at *
   have HR:Hid (wr.rangeAt bA (oA+k * 2) [.string nm,.int .i64 ino]):=hrA
   have GA:=Lib.hid (Blk.new wr 168 #[.string nm,.int .i64 ino])
   have b4:Below wr.heap.size wr (wr.alloc (.cells #[.string nm,.int .i64 ino] 168)):=(Below.refl _ _).alloc (Nat.le_refl _) _
   have F4:=Lib.hid (builder_below F.out b4)
   have R4:=Lib.hid (R.out.below (b4.mono B.out.size))
   have B4:=Lib.hid (B.out.trans (b4.mono B.out.size))
   have i2:(k:Int)<(l.length:Int):=by omega
   have i3:(0:Int)≤(k:Int):=by omega
   clear hrA b4 R B F
   go_wp2_with (first
    | (refine wpList_load_mid rfl 168 (.tmp 10) rfl bA (oA+k * 2) rfl _ _ HR.out Tryz.underlying168 rfl (by kernel_rfl) ?_;go_frame)
    | (go_at_call 185;refine (CE.out _).mono ?_;rintro e w5 ⟨rfl,hb5⟩;have F5:=Lib.hid (builder_below F4.out hb5);have R5:=Lib.hid (R4.out.below (hb5.mono B4.out.size));have B5:=Lib.hid (B4.out.trans (hb5.mono B4.out.size));clear hb5 F4 R4 B4)
    | (go_at_call 100;refine (Tryz.Builder_WriteString_k w.heap.size w.heap.size _ _ _ F5.out (by have:=HL.out;have:=HE.out;show _+(entB ⟨nm,ino⟩).toArray.size≤_;rw [List.size_toArray];omega) B5.out.size).mono ?_;rintro e w6 ⟨rfl,hba,hb6,hok⟩;have F6:Hid (Lib.IsBuilderF 172 5 w.heap.size w.heap.size (Lib.byteCells (bytesE (l.take (k+1)))) w6):=.inr (HS.out▸hba);have R6:=Lib.hid (R5.out.below hb6);have B6:=Lib.hid (B5.out.trans hb6);clear hba hb6 hok F5 R5 B5))
   go_roundw
   case rel=>exact ⟨k+1,by omega,by go_num,F6,R6,B6⟩
   case measure=>simp [intOf];omega
  ·obtain rfl:k=l.length:=by omega
   have HT:Hid (l.take l.length=l):=List.take_length
   rw [HT.out] at F
   go_wp2_with fail
   refine (string_l w.heap.size w.heap.size _ _ F.out B.out.size).mono ?_
   rintro e w7 ⟨rfl,hb7⟩
   have B7:=Lib.hid (B.out.trans hb7)
   clear hb7
   go_wp2
   go_ret
   exact ⟨rfl,B7.out⟩
end Go.Proofs.YtdldlendppkknaaGreatDoor
