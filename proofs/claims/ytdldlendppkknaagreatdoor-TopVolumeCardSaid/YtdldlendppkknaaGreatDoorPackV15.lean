/-
  Contracts and plain laws: TreeA, EntPl, PathJ, TreeB.
-/
import Derived.Test.YtdldlendppkknaaGreatDoorPackV09
import Derived.Test.YtdldlendppkknaaGreatDoorPackV14
namespace Go.Proofs.YtdldlendppkknaaGreatDoor
set_option linter.unusedVariables false
set_option linter.unusedSimpArgs false
set_option maxRecDepth 100000
section
variable {V W X ys:List ByteArray} {m n k c d:Nat} {l l':List Nat} {E E':List EntV}
def entD (V:List ByteArray) (n:Nat):List EntV:=(listO V (n:Int)).1
def linkN (V:List ByteArray) (n:Nat):Nat:=(getR V (n:Int)).getD 1 0
structure FarT (V W:List ByteArray) (m n:Nat):Prop where
 inv:InvT W m
 len:W.length=V.length
 rest:∀ k,1≤k→k≤m→k≠n→getR W (k:Int)=getR V (k:Int)
 live:∀ k,k≠n→(LiveT W m k↔LiveT V m k)
 byte:∀ k,LiveT V m k→k≠n→∀ i,i<8960→byteX W m (getR V (k:Int)) i=byteX V m (getR V (k:Int)) i
 att:∀ k,LiveT V m k→k≠n→extL (getR V (k:Int))≠0→blkL W (extL (getR V (k:Int)))=blkL V (extL (getR V (k:Int)))
 one:blkL W 1=blkL V 1
theorem FarT.trans (h:FarT V W m n) (g:FarT W X m n):FarT V X m n:=
 ⟨g.inv,g.len.trans h.len,fun k a b c=>(g.rest k a b c).trans (h.rest k a b c),fun k c=>(g.live k c).trans (h.live k c),fun k hk c i hi=>by
  have:=g.byte k ((h.live k c).2 hk) c i hi
  rw [h.rest k hk.1 hk.2.1 c] at this
  rw [this,h.byte k hk c i hi],fun k hk c h0=>by
  have:=g.att k ((h.live k c).2 hk) c (by rw [h.rest k hk.1 hk.2.1 c];exact h0)
  rw [h.rest k hk.1 hk.2.1 c] at this
  rw [this,h.att k hk c h0],g.one.trans h.one⟩
theorem FarT.kind (hv:IsVol V m) (h:FarT V W m n) (h1:1≤k) (h2:k≤m) (hne:k≠n):kindR W k=kindR V k:=by
 rw [← kind_getT h.inv.vol h1 h2,← kind_getT hv h1 h2,h.rest k h1 h2 hne]
theorem FarT.link (h:FarT V W m n) (h1:1≤k) (h2:k≤m) (hne:k≠n):linkN W k=linkN V k:=by
 unfold linkN;rw [h.rest k h1 h2 hne]
theorem MovedT.far (h:MovedT V m n l' ys W):FarT V W m n:=⟨h.inv,h.len,h.rest,fun k _=>h.live k,h.other,fun k hk _=>h.ext k hk,h.one⟩
theorem PutsT.far (hI:InvT V m) (h:PutsT V m n l' W):FarT V W m n:=⟨h.inv,h.len,h.rest,h.live,fun k _ _ i _=>h.byte _ i,fun k hk _ h0=>h.dat _ (hI.ext k hk h0).1,h.one⟩
theorem PutsT.farR (h:PutsT ys m n l' W) (r:RestT V ys m n) (hl:ys.length=V.length) (hb:∀ k,LiveT V m k→k≠n→extL (getR V (k:Int))≠0→blkL ys (extL (getR V (k:Int)))=blkL V (extL (getR V (k:Int)))∧datB ys m (extL (getR V (k:Int)))=true) (h1:blkL ys 1=blkL V 1):FarT V W m n:=
 ⟨h.inv,h.len.trans hl,fun k a b c=>(h.rest k a b c).trans (r.rest k a b),fun k c=>(h.live k c).trans (r.live k),fun k hk c i hi=>by rw [h.byte];exact r.byte k hk c i hi,fun k hk c h0=>by rw [h.dat _ (hb k hk c h0).2];exact (hb k hk c h0).1,h.one.trans h1⟩
theorem SameT.far (h:SameT V W m) (hb:∀ k,LiveT V m k→k≠n→extL (getR V (k:Int))≠0→blkL W (extL (getR V (k:Int)))=blkL V (extL (getR V (k:Int)))) (h1:blkL W 1=blkL V 1):FarT V W m n:=⟨h.inv,h.len,fun k a b _=>h.rest k a b,fun k _=>h.live k,fun k hk _=>h.byte k hk,hb,h1⟩
def SaysV (V:List ByteArray) (n:Nat):Prop:=extL (getR V (n:Int))≠0→∃ l:List AttV,l≠[]∧ValidA l∧blkL V (extL (getR V (n:Int)))=blockL (rowA l)
theorem SaysV.move (h:SaysV V n) (he:extL (getR W (n:Int))=extL (getR V (n:Int))) (hb:extL (getR V (n:Int))≠0→blkL W (extL (getR V (n:Int)))=blkL V (extL (getR V (n:Int)))):SaysV W n:=fun h0=>by
 rw [he] at h0 ⊢
 rw [hb h0]
 exact h h0
structure DirT (V:List ByteArray) (m:Nat):Prop where
 inv:InvT V m
 kind:∀ n,LiveT V m n→kindR V n=1∨kindR V n=2
 dir:∀ n,LiveT V m n→kindR V n=2→DirS V m n (entD V n)
 att:∀ n,LiveT V m n→SaysV V n
theorem DirS.ent (h:DirS V m n E):entD V n=E:=by unfold entD;rw [h.list]
theorem DirS.same (h:DirS V m k E) (hI:InvT W m) (hl:LiveT W m k) (h0:∀ i,i≠1→i<11→(getR W (k:Int)).getD i 0=(getR V (k:Int)).getD i 0) (hb:∀ i,i<8960→byteX W m (getR V (k:Int)) i=byteX V m (getR V (k:Int)) i):DirS W m k E:=by
 have g:=hI.good k hl
 have hs:∀ i,3≤i→i<11→(getR W (k:Int)).getD i 0=(getR V (k:Int)).getD i 0:=fun i a b=>h0 i (by omega) b
 refine ⟨⟨hl.1,hl.2.1,g.ok,g.own,by rw [h0 0 (by omega) (by omega)];exact h.file.kind,by rw [size_same hs];exact h.file.size,fun i hi=>?_⟩,h.valid⟩
 have:=h.file.small
 rw [byte_same hs,hb i (by omega)]
 exact h.file.byte i hi
theorem DirT.far (h:DirT V m) (f:FarT V W m n) (hn:LiveT W m n→(kindR W n=1∨kindR W n=2∧∃ E',DirS W m n E')∧SaysV W n) :
  DirT W m∧∀ k,LiveT V m k→kindR V k=2→k≠n→entD W k=entD V k:=by
 have key:∀ k,LiveT V m k→kindR V k=2→k≠n→DirS W m k (entD V k):=fun k hk h2 hne=>
  (h.dir k hk h2).same f.inv ((f.live k hne).2 hk) (fun i _ _=>by rw [f.rest k hk.1 hk.2.1 hne]) (f.byte k hk hne)
 refine ⟨⟨f.inv,fun k hk=>?_,fun k hk h2=>?_,fun k hk=>?_⟩,fun k hk h2 hne=>(key k hk h2 hne).ent⟩
 ·by_cases e:k=n
  ·subst e
   rcases (hn hk).1 with a | a
   ·exact .inl a
   ·exact .inr a.1
  ·rw [f.kind h.inv.vol hk.1 hk.2.1 e]
   exact h.kind k ((f.live k e).1 hk)
 ·by_cases e:k=n
  ·subst e
   rcases (hn hk).1 with a | ⟨_,E',a⟩
   ·omega
   ·rw [a.ent];exact a
  ·have hk':=(f.live k e).1 hk
   have:=key k hk' (by rw [← f.kind h.inv.vol hk.1 hk.2.1 e];exact h2) e
   rw [this.ent];exact this
 ·by_cases e:k=n
  ·subst e;exact (hn hk).2
  ·have hk':=(f.live k e).1 hk
   exact (h.att k hk').move (by rw [f.rest k hk.1 hk.2.1 e]) (f.att k hk' e)
theorem DirT.same (h:DirT V m) (s:SameT V W m) (hb:∀ k,LiveT V m k→extL (getR V (k:Int))≠0→blkL W (extL (getR V (k:Int)))=blkL V (extL (getR V (k:Int)))):DirT W m∧∀ k,LiveT V m k→kindR V k=2→entD W k=entD V k:=by
 have hk:∀ k,1≤k→k≤m→kindR W k=kindR V k:=fun k a b=>by
  rw [← kind_getT s.inv.vol a b,← kind_getT h.inv.vol a b,s.rest k a b]
 have key:∀ k,LiveT V m k→kindR V k=2→DirS W m k (entD V k):=fun k h1 h2=>
  (h.dir k h1 h2).same s.inv ((s.live k).2 h1) (fun i _ _=>by rw [s.rest k h1.1 h1.2.1]) (s.byte k h1)
 refine ⟨⟨s.inv,fun k h1=>by rw [hk k h1.1 h1.2.1];exact h.kind k ((s.live k).1 h1),fun k h1 h2=>?_,fun k h1=>(h.att k ((s.live k).1 h1)).move (by rw [s.rest k h1.1 h1.2.1]) (hb k ((s.live k).1 h1))⟩,fun k h1 h2=>(key k h1 h2).ent⟩
 have:=key k ((s.live k).1 h1) (by rw [← hk k h1.1 h1.2.1];exact h2)
 rw [this.ent];exact this
theorem list_live {z:Int} (hv:IsVol V m) (hl:(listO V z).2=0):∃ d:Nat,z=(d:Int)∧LiveT V m d∧kindR V d=2:=by
 have h0:inoE V z=0:=by
  refine Classical.not_not.1 (fun h=>?_)
  unfold listO at hl
  rw [if_pos h] at hl
  exact h hl
 obtain ⟨m2,k,hv2,rfl,h1,h2,_⟩:=inoE_ok h0
 obtain rfl:m=m2:=by
  have e1:=ofR_some.2 hv
  have e2:=ofR_some.2 hv2
  rw [e1] at e2
  exact Option.some.inj e2
 have hk:(getR V (k:Int)).getD 0 0=2:=by
  refine Classical.not_not.1 (fun h=>?_)
  unfold listO at hl
  rw [if_neg (by rw [h0];simp),if_pos h] at hl
  exact absurd hl (by decide)
 rw [kind_getT hv h1 h2] at hk
 exact ⟨k,rfl,⟨h1,h2,by omega⟩,hk⟩
theorem add_facts {z ino:Int} {nm:ByteArray} (ha:(addO V z nm ino).2=0):mayB nm.data.toList=true∧1≤ino∧ino≤64∧(listO V z).2=0∧hasE (listO V z).1 nm=false:=by
 have hm:mayB nm.data.toList=true:=by
  cases h:mayB nm.data.toList with
  | true=>rfl
  | false=>unfold addO at ha;rw [if_pos h] at ha;exact absurd ha (by decide)
 have hi:¬ (ino<1∨64<ino):=fun h=>by
  unfold addO at ha
  rw [if_neg (by rw [hm];simp),if_pos h] at ha
  exact absurd ha (by decide)
 have hl:(listO V z).2=0:=by
  refine Classical.not_not.1 (fun h=>?_)
  unfold addO at ha
  rw [if_neg (by rw [hm];simp),if_neg hi,if_pos h] at ha
  exact h ha
 refine ⟨hm,by omega,by omega,hl,?_⟩
 cases h:hasE (listO V z).1 nm with
 | false=>rfl
 | true=>
  unfold addO at ha
  rw [if_neg (by rw [hm];simp),if_neg hi,if_neg (by rw [hl];simp),if_pos h] at ha
  exact absurd ha (by decide)
theorem drop_facts {z:Int} {nm:ByteArray} (ha:(dropO V z nm).2=0):mayB nm.data.toList=true∧(listO V z).2=0∧hasE (listO V z).1 nm=true:=by
 have hm:mayB nm.data.toList=true:=by
  cases h:mayB nm.data.toList with
  | true=>rfl
  | false=>unfold dropO at ha;rw [if_pos h] at ha;exact absurd ha (by decide)
 have hl:(listO V z).2=0:=by
  refine Classical.not_not.1 (fun h=>?_)
  unfold dropO at ha
  rw [if_neg (by rw [hm];simp),if_pos h] at ha
  exact h ha
 refine ⟨hm,hl,?_⟩
 cases h:hasE (listO V z).1 nm with
 | true=>rfl
 | false=>
  unfold dropO at ha
  rw [if_neg (by rw [hm];simp),if_neg (by rw [hl];simp),if_pos h] at ha
  exact absurd ha (by decide)
theorem InvT.write_one (h:InvT V m) (hn:LiveT V m n) {off:Int} {b:List UInt8} (he:(writeO V (n:Int) off b).2=0) :
  FarT V (writeO V (n:Int) off b).1 m n∧LiveT (writeO V (n:Int) off b).1 m n∧(∀ i,i<3∨i=11→(getR (writeO V (n:Int) off b).1 (n:Int)).getD i 0=(getR V (n:Int)).getD i 0)∧(extL (getR V (n:Int))≠0→blkL (writeO V (n:Int) off b).1 (extL (getR V (n:Int)))=blkL V (extL (getR V (n:Int)))):=by
 obtain ⟨_,_,r,ws,hw,mv⟩:=h.write hn he
 exact ⟨mv.far,(mv.live n).2 hn,fun i hi=>by rw [mv.get];exact ws.mv.keep i hi,mv.ext n hn⟩
theorem InvT.cut_one (h:InvT V m) (hn:LiveT V m n) {size:Int} (he:(cutO V (n:Int) size).2=0) :
  FarT V (cutO V (n:Int) size).1 m n∧LiveT (cutO V (n:Int) size).1 m n∧(∀ i,i<3∨i=11→(getR (cutO V (n:Int) size).1 (n:Int)).getD i 0=(getR V (n:Int)).getD i 0)∧(extL (getR V (n:Int))≠0→blkL (cutO V (n:Int) size).1 (extL (getR V (n:Int)))=blkL V (extL (getR V (n:Int)))):=by
 obtain ⟨_,_,r,cs,hw,mv⟩:=h.cut hn he
 exact ⟨mv.far,(mv.live n).2 hn,fun i hi=>by rw [mv.get];exact cs.mv.keep i hi,mv.ext n hn⟩
structure EntT (V W:List ByteArray) (m d:Nat) (E':List EntV):Prop where
 live:LiveT V m d
 kind:kindR V d=2
 far:FarT V W m d
 dir:DirT W m
 here:LiveT W m d
 keep:∀ i,i<3∨i=11→(getR W (d:Int)).getD i 0=(getR V (d:Int)).getD i 0
 ent:entD W d=E'
 rest:∀ k,LiveT V m k→kindR V k=2→k≠d→entD W k=entD V k
theorem EntT.kindA (h:EntT V W m d E') (hv:IsVol V m) (h1:1≤k) (h2:k≤m):kindR W k=kindR V k:=by
 by_cases e:k=d
 ·subst e
  rw [← kind_getT h.dir.inv.vol h1 h2,← kind_getT hv h1 h2]
  exact h.keep 0 (by omega)
 ·exact h.far.kind hv h1 h2 e
theorem EntT.linkA (h:EntT V W m d E') (h1:1≤k) (h2:k≤m):linkN W k=linkN V k:=by
 by_cases e:k=d
 ·subst e
  exact h.keep 1 (by omega)
 ·exact h.far.link h1 h2 e
theorem EntT.liveA (h:EntT V W m d E') (hv:IsVol V m):LiveT W m k↔LiveT V m k:=by
 unfold LiveT
 constructor
 ·rintro ⟨a,b,c⟩;exact ⟨a,b,by rw [← h.kindA hv a b];exact c⟩
 ·rintro ⟨a,b,c⟩;exact ⟨a,b,by rw [h.kindA hv a b];exact c⟩
theorem DirT.ent_of (h:DirT V m) (hl:LiveT V m d) (hk:kindR V d=2) (f:FarT V W m d) (hw:LiveT W m d) (hkeep:∀ i,i<3∨i=11→(getR W (d:Int)).getD i 0=(getR V (d:Int)).getD i 0) (hb:extL (getR V (d:Int))≠0→blkL W (extL (getR V (d:Int)))=blkL V (extL (getR V (d:Int)))) (hD:DirS W m d E'):EntT V W m d E':=by
 have hk2:kindR W d=2:=by
  rw [← kind_getT f.inv.vol hl.1 hl.2.1,hkeep 0 (by omega),kind_getT h.inv.vol hl.1 hl.2.1];exact hk
 obtain ⟨a,b⟩:=h.far f (fun _=>⟨.inr ⟨hk2,E',hD⟩,(h.att d hl).move (hkeep 11 (.inr rfl)) hb⟩)
 exact ⟨hl,hk,f,a,hw,hkeep,hD.ent,b⟩
theorem DirT.add (h:DirT V m) {z ino:Int} {nm:ByteArray} (ha:(addO V z nm ino).2=0) :
  ∃ d:Nat,z=(d:Int)∧mayB nm.data.toList=true∧1≤ino∧ino≤64∧hasE (entD V d) nm=false∧EntT V (addO V z nm ino).1 m d (insE (entD V d) ⟨nm,ino⟩):=by
 obtain ⟨hm,h1,h2,hl,hh⟩:=add_facts ha
 obtain ⟨d,rfl,hd,hk⟩:=list_live h.inv.vol hl
 have hD:=h.dir d hd hk
 have hok:okE ⟨nm,ino⟩=true:=by
  unfold okE
  dsimp only
  rw [hm,Bool.true_and,decide_eq_true_iff]
  omega
 obtain ⟨e1,e2⟩:=hD.add hok hh
 have hw:(writeO V (d:Int) 0 (bytesE (insE (entD V d) ⟨nm,ino⟩))).2=0:=by rw [← e1];exact ha
 obtain ⟨f,lw,kp,kb⟩:=h.inv.write_one hd hw
 rw [← e1] at f lw kp kb
 refine ⟨d,rfl,hm,h1,h2,hh,?_⟩
 rcases e2 with ⟨_,_,hS⟩ | ⟨_,g⟩
 ·exact h.ent_of hd hk f lw kp kb hS
 ·rcases g with g | g
  ·rw [g.1] at ha;exact absurd ha (by decide)
  ·rw [g.1] at ha;exact absurd ha (by decide)
theorem DirT.drop (h:DirT V m) {z:Int} {nm:ByteArray} (ha:(dropO V z nm).2=0) :
  ∃ d:Nat,z=(d:Int)∧mayB nm.data.toList=true∧hasE (entD V d) nm=true∧EntT V (dropO V z nm).1 m d (outE (entD V d) nm):=by
 obtain ⟨hm,hl,hh⟩:=drop_facts ha
 obtain ⟨d,rfl,hd,hk⟩:=list_live h.inv.vol hl
 have hD:=h.dir d hd hk
 refine ⟨d,rfl,hm,hh,?_⟩
 have hlt:(outE (entD V d) nm).length<(entD V d).length:=by
  obtain ⟨hk,e⟩:=(at_has hD.valid.rise).1 hh
  rw [at_out hD.valid.rise hk e,List.length_append,List.length_take,List.length_drop]
  omega
 change (entD V d).length>_ at hlt
 have hE:(listO V (d:Int)).1=entD V d:=rfl
 unfold dropO at ha ⊢
 rw [if_neg (by rw [hm];simp),if_neg (by rw [hl];simp),hE,if_neg (by rw [show hasE (entD V d) nm=true from hh];simp)] at ha ⊢
 by_cases h0:outE (entD V d) nm=[]
 ·rw [if_pos h0] at ha ⊢
  obtain ⟨f,lw,kp,kb⟩:=h.inv.cut_one hd ha
  rw [h0]
  exact h.ent_of hd hk f lw kp kb (hD.none (by omega)).2
 ·rw [if_neg h0] at ha ⊢
  by_cases hw:(writeO V (d:Int) 0 (bytesE (outE (entD V d) nm))).2=0
  ·rw [if_neg (by rw [hw];simp)] at ha ⊢
   obtain ⟨f1,l1,k1,b1⟩:=h.inv.write_one hd hw
   obtain ⟨f2,l2,k2,b2⟩:=f1.inv.cut_one l1 ha
   have hx:extL (getR (writeO V (d:Int) 0 (bytesE (outE (entD V d) nm))).1 (d:Int))=extL (getR V (d:Int)):=k1 11 (.inr rfl)
   rw [hx] at b2
   have hpos:0<(outE (entD V d) nm).length:=by
    cases hx:outE (entD V d) nm with
    | nil=>exact absurd hx h0
    | cons _ _=>simp
   exact h.ent_of hd hk (f1.trans f2) l2 (fun i hi=>(k2 i hi).trans (k1 i hi)) (fun h0=>(b2 h0).trans (b1 h0)) (hD.less (outE_valid hD.valid nm) hlt hpos hw).2
  ·rw [if_pos hw] at ha
   exact absurd ha hw
theorem dirS_new (hI:InvT W m) {owner:Nat} (h1:1≤n) (h2:n≤m) (hg:getR W (n:Int)=newL 2 owner):DirS W m n []:=by
 have hk:kindR W n=2:=by rw [← kind_getT hI.vol h1 h2,hg];rfl
 have g:=hI.good n ⟨h1,h2,by omega⟩
 exact ⟨⟨h1,h2,g.ok,g.own,by rw [hg];rfl,by rw [hg];rfl,fun i hi=>absurd hi (by simp)⟩,⟨fun x hx=>by simp at hx,List.Pairwise.nil⟩⟩
theorem DirT.new (h:DirT V m) {kind owner:Int} (he:(newO V kind owner).2.2=0) :
  ∃ n:Nat,1≤n∧n≤m∧kindR V n=0∧(kind=1∨kind=2)∧(newO V kind owner).2.1=(n:Int)∧FarT V (newO V kind owner).1 m n∧DirT (newO V kind owner).1 m∧LiveT (newO V kind owner).1 m n∧kindR (newO V kind owner).1 n=kind.toNat∧linkN (newO V kind owner).1 n=1∧(kind=2→entD (newO V kind owner).1 n=[])∧∀ k,LiveT V m k→kindR V k=2→entD (newO V kind owner).1 k=entD V k:=by
 obtain ⟨n,h1,h2,h3,h4,h5,h6,h7⟩:=h.inv.new he
 rw [h6]
 have hk:kindR (putV V n (newL kind.toNat owner.toNat)) n=kind.toNat:=by
  rw [← kind_getT h7.inv.vol h1 h2,h7.get];rfl
 have hD:kind=2→DirS (putV V n (newL kind.toNat owner.toNat)) m n []:=fun e=>by
  subst e
  exact dirS_new h7.inv h1 h2 h7.get
 obtain ⟨a,b⟩:=h.far (h7.far h.inv) (fun _=>⟨by
  rcases h4 with e | e
  ·left;rw [hk,e];rfl
  ·right;exact ⟨by rw [hk,e];rfl,[],hD e⟩,fun h0=>by
   rw [h7.get] at h0
   exact absurd rfl h0⟩)
 refine ⟨n,h1,h2,h3,h4,h5,h7.far h.inv,a,⟨h1,h2,by rw [hk];rcases h4 with e | e <;> rw [e] <;> decide⟩,hk,by unfold linkN;rw [h7.get];rfl,fun e=>(hD e).ent,fun k k1 k2=>b k k1 k2 (fun e=>?_)⟩
 subst e
 omega
theorem fit_set1 (h:FitN l) {v:Nat} (hv:v<65536):FitN (l.set 1 v):=h.set 2 hv
theorem DirT.links (h:DirT V m) (hn:LiveT V m n) {v:Nat} (hv:v<65536) :
  putO V (n:Int) (intsL ((getR V (n:Int)).set 1 v))=(putV V n ((getR V (n:Int)).set 1 v),0)∧FarT V (putV V n ((getR V (n:Int)).set 1 v)) m n∧DirT (putV V n ((getR V (n:Int)).set 1 v)) m∧(∀ k,LiveT (putV V n ((getR V (n:Int)).set 1 v)) m k↔LiveT V m k) ∧
  (∀ k,1≤k→k≤m→kindR (putV V n ((getR V (n:Int)).set 1 v)) k=kindR V k)∧linkN (putV V n ((getR V (n:Int)).set 1 v)) n=v∧getR (putV V n ((getR V (n:Int)).set 1 v)) (n:Int)=(getR V (n:Int)).set 1 v∧∀ k,LiveT V m k→kindR V k=2→entD (putV V n ((getR V (n:Int)).set 1 v)) k=entD V k:=by
 have hfit:FitN (getR V (n:Int)):=(h.inv.good n hn).ok.fit
 have hf:=fit_set1 hfit hv
 have h12:(getR V (n:Int)).length=12:=hfit.1
 have hne:∀ i,i≠1→((getR V (n:Int)).set 1 v).getD i 0=(getR V (n:Int)).getD i 0:=fun i hi=>getD_set_ne _ _ _ _ (by omega)
 have hp:=h.inv.links hn hf (by rw [hne 0 (by omega),kind_getT h.inv.vol hn.1 hn.2.1];exact hn.2.2) (fun i hi=>hne i (by omega))
 have hkn:kindR (putV V n ((getR V (n:Int)).set 1 v)) n=kindR V n:=by
  rw [← kind_getT hp.inv.vol hn.1 hn.2.1,← kind_getT h.inv.vol hn.1 hn.2.1,hp.get,hne 0 (by omega)]
 have hka:∀ k,1≤k→k≤m→kindR (putV V n ((getR V (n:Int)).set 1 v)) k=kindR V k:=fun k a b=>by
  by_cases e:k=n
  ·rw [e,hkn]
  ·exact (hp.far h.inv).kind h.inv.vol a b e
 have hla:∀ k,LiveT (putV V n ((getR V (n:Int)).set 1 v)) m k↔LiveT V m k:=fun k=>by
  unfold LiveT
  constructor
  ·rintro ⟨a,b,c⟩;exact ⟨a,b,by rw [← hka k a b];exact c⟩
  ·rintro ⟨a,b,c⟩;exact ⟨a,b,by rw [hka k a b];exact c⟩
 have hD:kindR V n=2→DirS (putV V n ((getR V (n:Int)).set 1 v)) m n (entD V n):=fun e=>
  (h.dir n hn e).same hp.inv ((hla n).2 hn) (fun i hi _=>by rw [hp.get];exact hne i hi) (fun i _=>hp.byte _ i)
 obtain ⟨a,b⟩:=h.far (hp.far h.inv) (fun _=>⟨by
  rcases h.kind n hn with e | e
  ·left;rw [hkn,e]
  ·right;exact ⟨by rw [hkn,e],_,hD e⟩,(h.att n hn).move (by rw [hp.get];exact hne 11 (by omega)) (fun h0=>hp.dat _ (h.inv.ext n hn h0).1)⟩)
 refine ⟨putO_ok h.inv.vol hn.1 hn.2.1 hf,hp.far h.inv,a,hla,hka,?_,hp.get,fun k k1 k2=>?_⟩
 ·unfold linkN
  rw [hp.get,List.getD_eq_getElem?_getD,List.getElem?_set_self (by omega)];rfl
 ·by_cases e:k=n
  ·subst e;exact (hD k2).ent
  ·exact b k k1 k2 e
theorem DirT.gone (h:DirT V m) (hn:LiveT V m n) (he:(goneO V (n:Int)).2=0) :
  FarT V (goneO V (n:Int)).1 m n∧DirT (goneO V (n:Int)).1 m∧kindR (goneO V (n:Int)).1 n=0∧∀ k,LiveT V m k→kindR V k=2→k≠n→entD (goneO V (n:Int)).1 k=entD V k:=by
 have hc:(cutO V (n:Int) 0).2=0:=by
  refine Classical.not_not.1 (fun h=>?_)
  unfold goneO at he
  rw [if_pos h] at he
  exact h he
 obtain ⟨_,_,r,cs,hW,mv⟩:=h.inv.cut hn hc
 have hlw:LiveT (cutO V (n:Int) 0).1 m n:=(mv.live n).2 hn
 have hi:inoE (cutO V (n:Int) 0).1 (n:Int)=0:=inoE_zero mv.inv.vol hn.1 hn.2.1
 have hslot:∀ s,s<71→slotX (cutO V (n:Int) 0).1 m (getR (cutO V (n:Int) 0).1 (n:Int)) s=0:=fun s hs=>by
  rw [mv.get,hW,slotX_put cs.mv.vol hn.1 hn.2.1]
  by_cases h70:s<70
  ·rw [slotX_lt h70,cs.at_ s h70,if_neg (by unfold needN;show ¬ s<((0:Int).toNat+127) / 128;simp)]
  ·obtain rfl:s=70:=by omega
   refine Classical.not_not.1 (fun h0=>?_)
   have:=(cs.ind h0).2
   simp at this
 obtain ⟨g1,g2⟩:=mv.inv.gone hlw hslot
 have hfar:=mv.far
 have hZ:intsL (List.replicate 12 0)=(List.replicate 12 0:List Int):=rfl
 have key:∃ Y,Y.length=(cutO V (n:Int) 0).1.length∧IsVol Y m∧goneV (cutO V (n:Int) 0).1 (n:Int)=Y∧FarT (cutO V (n:Int) 0).1 (putV Y n (List.replicate 12 0)) m n∧getR (putV Y n (List.replicate 12 0)) (n:Int)=List.replicate 12 0:=by
  by_cases h0:extL (getR (cutO V (n:Int) 0).1 (n:Int))=0
  ·have p:=g1 h0
   refine ⟨_,rfl,mv.inv.vol,?_,p.far mv.inv,p.get⟩
   unfold goneV
   rw [if_neg]
   have h0':(getR (cutO V (n:Int) 0).1 (n:Int)).getD 11 0=0:=h0
   rw [h0']
   unfold giveO
   rw [ofR_some.2 mv.inv.vol]
   dsimp only
   rw [if_pos (by left;have:0<dataN m:=by { unfold dataN;omega };omega)]
   decide
  ·obtain ⟨a,b,c,p,rr⟩:=g2 h0
   have hbb:∀ k,LiveT (cutO V (n:Int) 0).1 m k→k≠n→extL (getR (cutO V (n:Int) 0).1 (k:Int))≠0→blkL (turnV (cutO V (n:Int) 0).1 (extL (getR (cutO V (n:Int) 0).1 (n:Int)))) (extL (getR (cutO V (n:Int) 0).1 (k:Int)))=blkL (cutO V (n:Int) 0).1 (extL (getR (cutO V (n:Int) 0).1 (k:Int)))∧datB (turnV (cutO V (n:Int) 0).1 (extL (getR (cutO V (n:Int) 0).1 (n:Int)))) m (extL (getR (cutO V (n:Int) 0).1 (k:Int)))=true:=fun k hk _ hk0=>by
    have hd:=(mv.inv.ext k hk hk0).1
    refine ⟨?_,by rw [datB_len m _ (turnV_length _ _)];exact hd⟩
    have h5:=datB_iff.1 hd
    have hl:=mv.inv.vol.len
    have h5:=h5.1
    unfold dataN at h5
    unfold turnV
    rw [blkL_set _ _ _ _ (by omega),if_neg (by omega)]
   refine ⟨turnV (cutO V (n:Int) 0).1 (extL (getR (cutO V (n:Int) 0).1 (n:Int))),turnV_length _ _,mv.inv.vol.turn a b,?_,p.farR rr (turnV_length _ _) hbb (by
    have:=mv.inv.vol.len
    unfold turnV
    rw [blkL_set _ _ _ _ (by omega),if_neg (by omega)]),p.get⟩
   have hgv:giveO (cutO V (n:Int) 0).1 ((getR (cutO V (n:Int) 0).1 (n:Int)).getD 11 0:Nat)=(turnV (cutO V (n:Int) 0).1 (extL (getR (cutO V (n:Int) 0).1 (n:Int))),0):=by
    unfold extL at a b c ⊢
    unfold giveO
    rw [ofR_some.2 mv.inv.vol]
    dsimp only
    rw [if_neg (by omega),Int.toNat_natCast,if_neg (by rw [c];simp)]
   unfold goneV
   rw [hgv,if_pos rfl]
 obtain ⟨Y,hYl,hYv,hY,hf,hg⟩:=key
 have hgo:goneO V (n:Int)=(putV Y n (List.replicate 12 0),0):=by
  unfold goneO
  rw [if_neg (by rw [hc];simp),if_neg (by rw [hi];simp),hY]
  exact putO_ok (nl:=List.replicate 12 0) hYv hn.1 hn.2.1 ⟨rfl,fun i=>by
   rw [List.getD_eq_getElem?_getD,List.getElem?_replicate]
   split
   ·exact Nat.pow_pos (by decide)
   ·exact Nat.pow_pos (by decide)⟩
 rw [hgo]
 have hk:kindR (putV Y n (List.replicate 12 0)) n=0:=by
  rw [← kind_getT hf.inv.vol hn.1 hn.2.1,hg];rfl
 obtain ⟨a,b⟩:=h.far (hfar.trans hf) (fun hl=>absurd hk hl.2.2)
 exact ⟨hfar.trans hf,a,hk,b⟩
end
section
variable {V:List ByteArray} {m n:Nat} {E:List EntV}
theorem mem_insE {x y:EntV}:y ∈ insE E x↔y=x∨y ∈ E:=by
 unfold insE
 rw [List.mem_append,List.mem_cons]
 have:=List.take_append_drop (atE E x.name) E
 constructor
 ·rintro (h | h | h)
  ·exact .inr (List.mem_of_mem_take h)
  ·exact .inl h
  ·exact .inr (List.mem_of_mem_drop h)
 ·rintro (h | h)
  ·exact .inr (.inl h)
  ·rw [← this] at h
   rcases List.mem_append.1 h with h | h
   ·exact .inl h
   ·exact .inr (.inr h)
theorem get_mem (h:ValidE E) {y:EntV} (hy:y ∈ E):getE E y.name=y.ino:=by
 obtain ⟨k,hk,rfl⟩:=List.mem_iff_getElem.1 hy
 refine getE_at2 hk (fun j hj e=>?_) rfl
 have:=List.pairwise_iff_getElem.1 h.rise j k (by omega) hk hj
 rw [e,ltB_irrefl] at this
 cases this
 where
 getE_at2 {l:List EntV} {nm:ByteArray} {k:Nat} (hk:k<l.length) (h:∀ j (hj:j<k),l[j].name≠nm) (e:l[k].name=nm):getE l nm=l[k].ino:=by
  have hs:l=l.take k++l[k]::l.drop (k+1):=by rw [List.getElem_cons_drop,List.take_append_drop]
  unfold getE
  have hf:(l.take k).find? (fun x=>decide (x.name=nm))=none:=by
   rw [List.find?_eq_none]
   intro x hx
   obtain ⟨j,hj,rfl⟩:=List.mem_iff_getElem.1 hx
   rw [List.length_take] at hj
   rw [List.getElem_take]
   simpa using h j (by omega)
  generalize hz:l[k]=z at *
  rw [hs,List.find?_append,hf,List.find?_cons_of_pos (by simp [e])]
  rfl
theorem find_dir (h:DirS V m n E) {nm:ByteArray} (hm:mayB nm.data.toList=true):findO V (n:Int) nm=if hasE E nm=true then (getE E nm,0) else (0,9):=by
 unfold findO
 rw [if_neg (by rw [hm];simp),h.list]
 dsimp only
 rw [if_neg (by simp)]
theorem has_mem {nm:ByteArray} (hv:ValidE E) (h:hasE E nm=true):(⟨nm,getE E nm⟩:EntV) ∈ E:=by
 unfold hasE at h
 obtain ⟨y,hy,e⟩:=List.any_eq_true.1 h
 obtain rfl:=of_decide_eq_true e
 rw [get_mem hv hy]
 exact hy
theorem mem_has {x:EntV} (h:x ∈ E):hasE E x.name=true:=by
 unfold hasE
 exact List.any_eq_true.2 ⟨x,h,by simp⟩
theorem mem_outE {x:EntV} {nm:ByteArray}:x ∈ outE E nm↔x ∈ E∧x.name≠nm:=by
 unfold outE
 rw [List.mem_filter]
 simp
end
def joinP (xs:List (List UInt8)):List UInt8:=xs.flatMap fun x=>47::x
theorem joinP_nil:joinP []=[]:=rfl
theorem joinP_cons (x:List UInt8) (r:List (List UInt8)):joinP (x::r)=47::(x++joinP r):=by unfold joinP;rw [List.flatMap_cons];rfl
theorem joinP_app (a b:List (List UInt8)):joinP (a++b)=joinP a++joinP b:=by unfold joinP;rw [List.flatMap_append]
theorem joinP_snoc (a:List (List UInt8)) (x:List UInt8):joinP (a++[x])=joinP a++47::x:=by rw [joinP_app,joinP_cons,joinP_nil,List.append_nil]
theorem joinP_head:∀ r:List (List UInt8),joinP r=[]∧r=[]∨∃ t,joinP r=47::t
 | []=>.inl ⟨rfl,rfl⟩
 | x::r=>.inr ⟨_,joinP_cons x r⟩
theorem trimP_slash (t:List UInt8):trimP (47::t)=t:=by unfold trimP Lib.trimPrefix Lib.hasPrefix;simp
theorem endP_join (x:List UInt8) (hx:(47:UInt8) ∉ x) (u:List UInt8) (hu:u=[]∨∃ t,u=47::t):endP (x++u)=x.length:=by
 obtain ⟨h1,h2,h3,h4⟩:=index_lt (x++u) 47
 unfold endP
 by_cases hi:Lib.indexByte (x++u) 47<0
 ·rw [if_pos hi]
  rcases hu with rfl | ⟨t,rfl⟩
  ·rw [List.append_nil]
  ·exact absurd (by simp) (h4 hi)
 ·rw [if_neg hi]
  obtain ⟨a,b⟩:=h3 (by omega)
  generalize (Lib.indexByte (x++u) 47).toNat=i at *
  have g1:¬ i<x.length:=fun hlt=>by
   rw [List.getElem?_append_left hlt] at a
   exact hx (List.mem_of_getElem? a)
  rcases hu with rfl | ⟨t,rfl⟩
  ·rw [List.append_nil] at a
   rw [List.getElem?_eq_none (by omega)] at a
   cases a
  ·by_cases he:i=x.length
   ·exact he
   ·refine absurd ?_ b
    rw [List.take_append,List.mem_append]
    right
    obtain ⟨j,hj⟩:∃ j,i-x.length=j+1:=⟨i-x.length-1,by omega⟩
    rw [hj,List.take_succ_cons]
    simp
theorem names_join:∀ xs:List (List UInt8),(∀ x ∈ xs,(47:UInt8) ∉ x)→namesL (joinP xs)=xs
 | [],_=>rfl
 | x::r,h=>by
  have he:=endP_join x (h x (by simp)) (joinP r) (by
   rcases joinP_head r with a | a
   ·exact .inl a.1
   ·exact .inr a)
  rw [joinP_cons,namesL_cons (by simp)]
  unfold headP restP
  rw [trimP_slash,he,List.take_left,List.drop_left,names_join r (fun y hy=>h y (by simp [hy]))]
theorem join_names:∀ (n:Nat) (l:List UInt8),l.length≤n→(l=[]∨∃ t,l=47::t)→joinP (namesL l)=l∧∀ x ∈ namesL l,(47:UInt8) ∉ x
 | 0,l,h,_=>by
  have e:l=[]:=List.eq_nil_of_length_eq_zero (by omega)
  subst e
  exact ⟨rfl,fun x hx=>by cases hx⟩
 | n+1,l,h,hs=>by
  rcases hs with rfl | ⟨t,rfl⟩
  ·exact ⟨rfl,fun x hx=>by cases hx⟩
  ·have hlt:=restP_lt (l:=47::t) (by simp)
   have hr:restP (47::t)=t.drop (endP t):=by unfold restP;rw [trimP_slash]
   have hh:headP (47::t)=t.take (endP t):=by unfold headP;rw [trimP_slash]
   obtain ⟨h1,h2,h3,h4⟩:=index_lt t 47
   have key:(47:UInt8) ∉ t.take (endP t)∧(t.drop (endP t)=[]∨∃ u,t.drop (endP t)=47::u):=by
    unfold endP
    by_cases hi:Lib.indexByte t 47<0
    ·rw [if_pos hi,List.take_length,List.drop_length]
     exact ⟨h4 hi,.inl rfl⟩
    ·rw [if_neg hi]
     obtain ⟨a,b⟩:=h3 (by omega)
     refine ⟨b,.inr ?_⟩
     obtain ⟨hlt,e⟩:=List.getElem?_eq_some_iff.1 a
     rw [List.drop_eq_getElem_cons hlt,e]
     exact ⟨_,rfl⟩
   rw [hr] at hlt
   obtain ⟨a,b⟩:=join_names n (t.drop (endP t)) (by omega) key.2
   rw [namesL_cons (by simp),hr,hh,joinP_cons,a,List.take_append_drop]
   refine ⟨rfl,fun x hx=>?_⟩
   rcases List.mem_cons.1 hx with rfl | hx
   ·exact key.1
   ·exact b x hx
theorem mayP_facts {p:List UInt8} (h:mayP p=true):(∃ t,p=47::t)∧p.length≤200∧(∀ x ∈ namesP p,mayB x=true)∧(namesP p).length≤8:=by
 unfold mayP at h
 simp only [Bool.and_eq_true,decide_eq_true_eq,List.all_eq_true] at h
 obtain ⟨⟨⟨h1,h2⟩,h3⟩,h4⟩:=h
 refine ⟨?_,h2,h3,h4⟩
 cases p with
 | nil=>cases h1
 | cons b t=>
  unfold Lib.hasPrefix at h1
  simp only [List.isPrefixOf,Bool.and_true,beq_iff_eq] at h1
  exact ⟨t,by rw [← h1]⟩
theorem mayB_noslash {x:List UInt8} (h:mayB x=true):(47:UInt8) ∉ x:=fun hm=>by
 unfold mayB at h
 rw [Bool.and_eq_true,List.all_eq_true] at h
 have:=h.2 47 hm
 exact absurd this (by decide)
theorem path_split {p:List UInt8} (h:mayP p=true) (ht:p≠[47]):∃ xs x,namesP p=xs++[x]∧p=joinP xs++47::x∧((47:UInt8) ∉ x)∧mayB x=true∧(∀ y ∈ xs,mayB y=true)∧xs.length≤7:=by
 obtain ⟨⟨t,rfl⟩,h2,h3,h4⟩:=mayP_facts h
 have hn:namesP (47::t)=namesL (47::t):=by unfold namesP;rw [if_neg ht]
 rw [hn] at h3 h4
 obtain ⟨a,b⟩:=join_names _ (47::t) (Nat.le_refl _) (.inr ⟨t,rfl⟩)
 have hne:namesL (47::t)≠[]:=by rw [namesL_cons (by simp)];simp
 have hs:(namesL (47::t)).dropLast++[(namesL (47::t)).getLast hne]=namesL (47::t):=List.dropLast_concat_getLast hne
 refine ⟨(namesL (47::t)).dropLast,(namesL (47::t)).getLast hne,by rw [hn,hs],?_,b _ (List.getLast_mem hne),h3 _ (List.getLast_mem hne),fun y hy=>h3 y (List.dropLast_subset _ hy),by rw [List.length_dropLast];omega⟩
 rw [← joinP_snoc,hs,a]
theorem join_may {xs:List (List UInt8)} (h:∀ y ∈ xs,mayB y=true):xs=[]∨joinP xs≠[47]∧joinP xs≠[]:=by
 cases xs with
 | nil=>exact .inl rfl
 | cons x r=>
  right
  rw [joinP_cons]
  have h1:=(mayB_len (h x (by simp))).1
  refine ⟨fun e=>?_,by simp⟩
  have:x++joinP r=[]:=by simpa using e
  rw [(List.append_eq_nil_iff.1 this).1] at h1
  simp at h1
theorem last_slash {p:ByteArray} {a x:List UInt8} (hp:p.data.toList=a++47::x) (hx:(47:UInt8) ∉ x):Lib.lastIndexByte p 47=(a.length:Nat):=by
 have hsz:p.size=a.length+1+x.length:=by
  have:p.data.toList.length=p.size:=by rw [Array.length_toList];rfl
  rw [← this,hp];simp;omega
 have hget:∀ j,j<p.size→p.data[j]! = p.data.toList.getD j default:=fun j hj=>by
  rw [List.getD_eq_getElem?_getD,Array.getElem?_toList,Array.getElem!_eq_getD,Array.getD_eq_getD_getElem?]
 have hat:((p.data[a.length]!).toNat:Int)=47:=by
  rw [hget _ (by omega),hp,List.getD_eq_getElem?_getD,List.getElem?_append_right (Nat.le_refl _),Nat.sub_self];rfl
 rcases Lib.lastIndexByte_spec p 47 with ⟨_,h⟩ | ⟨i,hi,e,hc,h⟩
 ·exact absurd hat (h _ (by omega))
 ·rw [e]
  by_cases hlt:i<a.length
  ·exact absurd hat (h _ hlt (by omega))
  ·by_cases he:i=a.length
   ·rw [he]
   ·exfalso
    rw [hget i hi,hp,List.getD_eq_getElem?_getD,List.getElem?_append_right (by omega)] at hc
    obtain ⟨j,hj⟩:∃ j,i-a.length=j+1:=⟨i-a.length-1,by omega⟩
    rw [hj,List.getElem?_cons_succ] at hc
    have hjl:j<x.length:=by omega
    rw [List.getElem?_eq_getElem hjl,Option.getD_some] at hc
    refine hx ?_
    have:x[j]=47:=by apply UInt8.toNat_inj.1;rw [show (47:UInt8).toNat=47 from rfl];omega
    rw [← this]
    exact List.getElem_mem hjl
theorem toB (p:ByteArray) (l:List UInt8) (h:p.data.toList=l):p=⟨l.toArray⟩:=by
 obtain ⟨a⟩:=p
 simp only at h
 rw [← h]
theorem ext_take (p:ByteArray) (a b:Nat):(p.extract a b).data.toList=(p.data.toList.take b).drop a:=by
 rw [ByteArray.data_extract,Array.toList_extract,List.extract_eq_take_drop,List.drop_take]
theorem path_parts {p:ByteArray} (h:mayP p.data.toList=true) (ht:p.data.toList≠[47]) :
  ∃ xs x,namesP p.data.toList=xs++[x]∧p.data.toList=joinP xs++47::x∧(lastB p)=⟨x.toArray⟩∧(aboveB p).data.toList=(if xs=[] then [47] else joinP xs)∧namesP (aboveB p).data.toList=xs∧mayP (aboveB p).data.toList=true∧mayB x=true∧∀ y ∈ xs,mayB y=true:=by
 obtain ⟨xs,x,h1,h2,h3,h4,h5,h6⟩:=path_split h ht
 have hl:=last_slash h2 h3
 have hp2:=(mayP_facts h).2.1
 have hsz:p.size=(joinP xs).length+1+x.length:=by
  have:p.data.toList.length=p.size:=by rw [Array.length_toList];rfl
  rw [← this,h2];simp;omega
 have ha:(aboveB p).data.toList=(if xs=[] then [47] else joinP xs):=by
  unfold aboveB
  rw [ext_take,hl,List.drop_zero,h2]
  by_cases e:xs=[]
  ·rw [if_pos e,e,joinP_nil];rfl
  ·rw [if_neg e]
   have:joinP xs≠[]:=by
    rcases joinP_head xs with a | ⟨t,a⟩
    ·exact absurd a.2 e
    ·rw [a];simp
   have:=List.length_pos_iff.2 this
   rw [show (max ((joinP xs).length:Int) 1).toNat=(joinP xs).length by omega,List.take_left]
 have hb:lastB p=⟨x.toArray⟩:=by
  apply toB
  unfold lastB
  rw [ext_take,hl,h2,hsz,show ((((joinP xs).length:Nat):Int)+1).toNat=(joinP xs).length+1 by omega,List.take_of_length_le (by simp;omega),List.drop_append,List.drop_eq_nil_of_le (by omega),List.nil_append,show (joinP xs).length+1-(joinP xs).length=1 by omega]
  rfl
 have hn:namesP (aboveB p).data.toList=xs:=by
  rw [ha]
  by_cases e:xs=[]
  ·rw [if_pos e,e];rfl
  ·rw [if_neg e]
   unfold namesP
   rw [if_neg]
   ·exact names_join xs fun y hy=>mayB_noslash (h5 y hy)
   ·rcases join_may h5 with a | a
    ·exact absurd a e
    ·exact a.1
 refine ⟨xs,x,h1,h2,hb,ha,hn,?_,h4,h5⟩
 unfold mayP
 rw [hn]
 simp only [Bool.and_eq_true,decide_eq_true_eq,List.all_eq_true]
 refine ⟨⟨⟨?_,?_⟩,h5⟩,by omega⟩
 ·rw [ha]
  by_cases e:xs=[]
  ·rw [if_pos e];rfl
  ·rw [if_neg e]
   rcases joinP_head xs with a | ⟨t,a⟩
   ·exact absurd a.2 e
   ·rw [a];unfold Lib.hasPrefix;simp [List.isPrefixOf]
 ·rw [ha]
  have h7:(p.data.toList).length=(joinP xs).length+1+x.length:=by rw [h2];simp;omega
  split
  ·decide
  ·omega
theorem path_of_parts {V:List ByteArray} {p:ByteArray} (h:mayP p.data.toList=true) (ht:p.data.toList≠[47]) (he:(pathO V p.data.toList).2=0) :
  (pathO V (aboveB p).data.toList).2=0∧(findO V (pathO V (aboveB p).data.toList).1 (lastB p)).2=0∧(pathO V p.data.toList).1=(findO V (pathO V (aboveB p).data.toList).1 (lastB p)).1:=by
 obtain ⟨xs,x,h1,_,hb,_,hn,hm,_⟩:=path_parts h ht
 unfold pathO at he ⊢
 rw [h,if_neg (show ¬ true=false by simp),h1] at he
 rw [hm,h,if_neg (show ¬ true=false by simp),if_neg (show ¬ true=false by simp),h1,hn,hb]
 have h0:(goO V 1 xs).2=0:=by
  refine Classical.not_not.1 (fun hh=>?_)
  rw [goO_stop V 1 xs [x] hh] at he
  exact hh he
 rw [goO_snoc V 1 xs x h0] at he ⊢
 by_cases hf:(findO V (goO V 1 xs).1 ⟨x.toArray⟩).2≠0
 ·rw [if_pos hf] at he;exact absurd he hf
 ·rw [if_neg hf]
  exact ⟨h0,Classical.not_not.1 hf,rfl⟩
section
variable {V W X ys:List ByteArray} {m n k c d:Nat} {l l':List Nat} {E E':List EntV} {δ ε:Nat→Int}
theorem cnt_ins (p:EntV→Bool) (x:EntV):(insE E x).countP p=E.countP p+if p x=true then 1 else 0:=by
 have h:E.countP p=(E.take (atE E x.name)).countP p+(E.drop (atE E x.name)).countP p:=by
  rw [← List.countP_append,List.take_append_drop]
 unfold insE
 rw [List.countP_append,List.countP_cons,h]
 omega
theorem cnt_out (p:EntV→Bool) (hv:ValidE E) {nm:ByteArray} (hh:hasE E nm=true):E.countP p=(outE E nm).countP p+if p ⟨nm,getE E nm⟩=true then 1 else 0:=by
 obtain ⟨hk,e⟩:=(at_has hv.rise).1 hh
 have h1:=at_out hv.rise hk e
 have h2:=at_get hv.rise hk e
 have h3:E[atE E nm]=⟨nm,getE E nm⟩:=by
  rw [h2]
  generalize E[atE E nm]=x at *
  obtain ⟨a,b⟩:=x
  dsimp only at *
  rw [e]
 have h4:=at_cut hk
 rw [h3] at h4
 have h5:E.countP p=(E.take (atE E nm)).countP p+(((E.drop (atE E nm+1)).countP p)+if p ⟨nm,getE E nm⟩=true then 1 else 0):=by
  rw [← List.countP_cons,← List.countP_append,← h4]
 rw [h1,List.countP_append,h5]
 omega
def cntD (V:List ByteArray) (d n:Nat):Nat:=if kindR V d=2 then (entD V d).countP (fun x=>decide (x.ino=(n:Int))) else 0
def cntE (V:List ByteArray) (m n:Nat):Nat:=((List.range' 1 m).map fun d=>cntD V d n).sum
theorem cntE_congr (h:∀ d,1≤d→d≤m→cntD W d n=cntD V d n):cntE W m n=cntE V m n:=by
 unfold cntE
 congr 1
 refine List.map_congr_left fun k hk=>?_
 obtain ⟨i,i1,i2⟩:=List.mem_range'.1 hk
 exact h k (by omega) (by omega)
theorem cntE_upd (h1:1≤d) (h2:d≤m) (h:∀ k,1≤k→k≤m→k≠d→cntD W k n=cntD V k n):cntE V m n+cntD W d n=cntE W m n+cntD V d n:=by
 unfold cntE
 exact sum_upd (n:=d) (fun k=>cntD V k n) (fun k=>cntD W k n) (List.range' 1 m) (List.nodup_range' (step:=1)) (List.mem_range'.2 ⟨d-1,by omega,by omega⟩) fun k hk hne=>by
  obtain ⟨i,i1,i2⟩:=List.mem_range'.1 hk
  exact h k (by omega) (by omega) hne
theorem cntE_le (h1:1≤d) (h2:d≤m):cntD V d n≤cntE V m n:=by
 unfold cntE
 have key:∀ L:List Nat,d ∈ L→cntD V d n≤(L.map fun d=>cntD V d n).sum:=by
  intro L
  induction L with
  | nil=>intro h;cases h
  | cons a L ih=>
   intro h
   rw [List.map_cons,List.sum_cons]
   rcases List.mem_cons.1 h with rfl | h
   ·omega
   ·have:=ih h;omega
 exact key _ (List.mem_range'.2 ⟨d-1,by omega,by omega⟩)
theorem cntE_zero (h:∀ d,1≤d→d≤m→cntD V d n=0):cntE V m n=0:=by
 unfold cntE
 have:(List.range' 1 m).map (fun d=>cntD V d n)=(List.range' 1 m).map (fun _=>0):=List.map_congr_left fun k hk=>by
  obtain ⟨i,i1,i2⟩:=List.mem_range'.1 hk
  exact h k (by omega) (by omega)
 rw [this]
 clear this h
 induction m with
 | zero=>rfl
 | succ j ih=>rw [List.range'_concat,List.map_append,List.sum_append,ih];rfl
structure TreeX (V:List ByteArray) (m:Nat) (δ:Nat→Int):Prop where
 dir:DirT V m
 root:LiveT V m 1
 rootk:kindR V 1=2
 name:∀ d,LiveT V m d→kindR V d=2→∀ x ∈ entD V d,∃ k:Nat,x.ino=(k:Int)∧LiveT V m k∧k≠1
 dlink:∀ n,LiveT V m n→kindR V n=2→linkN V n=1
 links:∀ n,LiveT V m n→(linkN V n:Int)=(cntE V m n:Int)+(if n=1 then 1 else 0)+δ n
abbrev FsT (V:List ByteArray) (m:Nat):Prop:=TreeX V m fun _=>0
def atX1 (δ:Nat→Int) (n:Nat) (v:Int):Nat→Int:=fun k=>if k=n then v else δ k
theorem TreeX.congr (h:TreeX V m δ) (he:∀ k,LiveT V m k→δ k=ε k):TreeX V m ε:=⟨h.dir,h.root,h.rootk,h.name,h.dlink,fun n hn=>by rw [← he n hn];exact h.links n hn⟩
theorem TreeX.vol (h:TreeX V m δ):IsVol V m:=h.dir.inv.vol
theorem TreeX.dead (h:TreeX V m δ) (hn:¬ LiveT V m n):cntE V m n=0:=by
 refine cntE_zero fun d h1 h2=>?_
 unfold cntD
 by_cases hk:kindR V d=2
 ·rw [if_pos hk,List.countP_eq_zero]
  intro x hx hd
  obtain ⟨k,e,hl,_⟩:=h.name d ⟨h1,h2,by omega⟩ hk x hx
  have:=of_decide_eq_true hd
  have:k=n:=by omega
  subst this
  exact hn hl
 ·rw [if_neg hk]
theorem TreeX.ofEnt (h:TreeX V m δ) (e:EntT V W m d E') (hn:∀ x ∈ E',∃ k:Nat,x.ino=(k:Int)∧LiveT V m k∧k≠1)
  (hc:∀ n,LiveT V m n→((E'.countP (fun x=>decide (x.ino=(n:Int))):Nat):Int)+ε n=(((entD V d).countP (fun x=>decide (x.ino=(n:Int))):Nat):Int)+δ n):TreeX W m ε:=by
 have hv:=h.vol
 have hk:∀ k,1≤k→k≤m→kindR W k=kindR V k:=fun k a b=>e.kindA hv a b
 have hl:∀ k,LiveT W m k↔LiveT V m k:=fun k=>e.liveA hv
 refine ⟨e.dir,(hl 1).2 h.root,by rw [hk 1 (Nat.le_refl _) h.root.2.1];exact h.rootk,fun k k1 k2 x hx=>?_,fun k k1 k2=>?_,fun k k1=>?_⟩
 ·have k1':=(hl k).1 k1
  have k2':kindR V k=2:=by rw [← hk k k1.1 k1.2.1];exact k2
  by_cases ek:k=d
  ·subst ek
   rw [e.ent] at hx
   obtain ⟨j,a,b,c⟩:=hn x hx
   exact ⟨j,a,(hl j).2 b,c⟩
  ·rw [e.rest k k1' k2' ek] at hx
   obtain ⟨j,a,b,c⟩:=h.name k k1' k2' x hx
   exact ⟨j,a,(hl j).2 b,c⟩
 ·rw [e.linkA k1.1 k1.2.1]
  exact h.dlink k ((hl k).1 k1) (by rw [← hk k k1.1 k1.2.1];exact k2)
 ·have k1':=(hl k).1 k1
  have hu:=cntE_upd (V:=V) (W:=W) (n:=k) (d:=d) (m:=m) e.live.1 e.live.2.1 (fun j j1 j2 jn=>by
   unfold cntD
   rw [hk j j1 j2]
   by_cases j3:kindR V j=2
   ·rw [if_pos j3,if_pos j3,e.rest j ⟨j1,j2,by omega⟩ j3 jn]
   ·rw [if_neg j3,if_neg j3])
  have hW:cntD W d k=E'.countP (fun x=>decide (x.ino=(k:Int))):=by
   unfold cntD
   rw [if_pos (by rw [hk d e.live.1 e.live.2.1];exact e.kind),e.ent]
  have hV:cntD V d k=(entD V d).countP (fun x=>decide (x.ino=(k:Int))):=by
   unfold cntD
   rw [if_pos e.kind]
  rw [hW,hV] at hu
  have h0:=h.links k k1'
  have h1:=hc k k1'
  rw [e.linkA k1.1 k1.2.1]
  omega
theorem TreeX.add (h:TreeX V m δ) {z:Int} {nm:ByteArray} (hn:LiveT V m n) (n1:n≠1) (ha:(addO V z nm (n:Int)).2=0) :
  TreeX (addO V z nm (n:Int)).1 m (atX1 δ n (δ n-1))∧∃ d:Nat,z=(d:Int)∧hasE (entD V d) nm=false∧EntT V (addO V z nm (n:Int)).1 m d (insE (entD V d) ⟨nm,(n:Int)⟩):=by
 obtain ⟨d,rfl,_,_,_,hh,e⟩:=h.dir.add ha
 refine ⟨h.ofEnt e (fun x hx=>?_) (fun k hk=>?_),d,rfl,hh,e⟩
 ·rcases mem_insE.1 hx with rfl | hx
  ·exact ⟨n,rfl,hn,n1⟩
  ·exact h.name d e.live e.kind x hx
 ·rw [cnt_ins]
  unfold atX1
  by_cases ek:k=n
  ·subst ek
   rw [if_pos rfl,if_pos (by simp)]
   omega
  ·rw [if_neg ek,if_neg (by simp;omega)]
   omega
theorem TreeX.drop (h:TreeX V m δ) {z:Int} {nm:ByteArray} (ha:(dropO V z nm).2=0) :
  ∃ d n:Nat,z=(d:Int)∧LiveT V m n∧n≠1∧(findO V z nm).1=(n:Int)∧(⟨nm,(n:Int)⟩:EntV) ∈ entD V d∧TreeX (dropO V z nm).1 m (atX1 δ n (δ n+1))∧EntT V (dropO V z nm).1 m d (outE (entD V d) nm):=by
 obtain ⟨d,rfl,hm,hh,e⟩:=h.dir.drop ha
 have hv:=(h.dir.dir d e.live e.kind).valid
 have hmem:=has_mem hv hh
 obtain ⟨n,hn,nl,n1⟩:=h.name d e.live e.kind _ hmem
 have hn:getE (entD V d) nm=(n:Int):=hn
 refine ⟨d,n,rfl,nl,n1,?_,by rw [← hn];exact hmem,h.ofEnt e (fun x hx=>h.name d e.live e.kind x (mem_outE.1 hx).1) (fun k hk=>?_),e⟩
 ·have hl:=(h.dir.dir d e.live e.kind).list
  unfold findO
  rw [if_neg (by rw [hm];simp),hl]
  dsimp only
  rw [if_neg (by simp),if_pos hh]
  exact hn
 ·have hc:=cnt_out (fun x=>decide (x.ino=(k:Int))) hv hh
  rw [hn] at hc
  unfold atX1
  by_cases ek:k=n
  ·subst ek
   rw [if_pos (by simp)] at hc
   rw [if_pos rfl]
   omega
  ·rw [if_neg (by simp;omega)] at hc
   rw [if_neg ek]
   omega
theorem TreeX.new (h:TreeX V m δ) {kind owner:Int} (he:(newO V kind owner).2.2=0) :
  ∃ n:Nat,(newO V kind owner).2.1=(n:Int)∧¬ LiveT V m n∧LiveT (newO V kind owner).1 m n∧n≠1∧kindR (newO V kind owner).1 n=kind.toNat∧FarT V (newO V kind owner).1 m n∧(kind=2→entD (newO V kind owner).1 n=[])∧(∀ k,LiveT V m k→kindR V k=2→entD (newO V kind owner).1 k=entD V k)∧TreeX (newO V kind owner).1 m (atX1 δ n 1):=by
 obtain ⟨n,n1,n2,n3,n4,n5,nf,nd,nl,nk,nli,ne,nr⟩:=h.dir.new he
 have hdead:¬ LiveT V m n:=fun hl=>hl.2.2 n3
 have hn1:n≠1:=fun e=>hdead (e▸h.root)
 have hkk:∀ k,LiveT (newO V kind owner).1 m k→k≠n→LiveT V m k∧kindR (newO V kind owner).1 k=kindR V k:=fun k a b=>⟨(nf.live k b).1 a,nf.kind h.vol a.1 a.2.1 b⟩
 have hmono:∀ k,LiveT V m k→LiveT (newO V kind owner).1 m k:=fun k hk=>(nf.live k (fun e=>hdead (e▸hk))).2 hk
 have hcnt:∀ k,cntE (newO V kind owner).1 m k=cntE V m k:=fun k=>cntE_congr fun j j1 j2=>by
  unfold cntD
  by_cases ej:j=n
  ·subst ej
   have z0:¬ kindR V j=2:=by rw [n3];decide
   rw [if_neg z0,nk]
   by_cases e2:kind=2
   ·rw [if_pos (by rw [e2];rfl),ne e2];rfl
   ·rw [if_neg (by omega)]
  ·rw [nf.kind h.vol j1 j2 ej]
   by_cases j3:kindR V j=2
   ·rw [if_pos j3,if_pos j3,nr j ⟨j1,j2,by omega⟩ j3]
   ·rw [if_neg j3,if_neg j3]
 refine ⟨n,n5,hdead,nl,hn1,nk,nf,ne,nr,nd,hmono 1 h.root,?_,fun k k1 k2 x hx=>?_,fun k k1 k2=>?_,fun k k1=>?_⟩
 ·rw [nf.kind h.vol (Nat.le_refl _) h.root.2.1 (fun e=>hn1 e.symm)];exact h.rootk
 ·by_cases ek:k=n
  ·subst ek
   rw [ne (by omega)] at hx
   cases hx
  ·obtain ⟨a,b⟩:=hkk k k1 ek
   rw [nr k a (b▸k2)] at hx
   obtain ⟨j,p,q,r⟩:=h.name k a (b▸k2) x hx
   exact ⟨j,p,hmono j q,r⟩
 ·by_cases ek:k=n
  ·subst ek;exact nli
  ·obtain ⟨a,b⟩:=hkk k k1 ek
   rw [nf.link k1.1 k1.2.1 ek]
   exact h.dlink k a (b▸k2)
 ·rw [hcnt]
  unfold atX1
  by_cases ek:k=n
  ·subst ek
   rw [nli,h.dead hdead,if_neg hn1,if_pos rfl];rfl
  ·obtain ⟨a,b⟩:=hkk k k1 ek
   rw [nf.link k1.1 k1.2.1 ek,if_neg ek]
   exact h.links k a
theorem TreeX.puts (h:TreeX V m δ) (hn:LiveT V m n) (hk:kindR V n=1) {v:Nat} (hv:v<65536) :
  putO V (n:Int) (intsL ((getR V (n:Int)).set 1 v))=(putV V n ((getR V (n:Int)).set 1 v),0)∧TreeX (putV V n ((getR V (n:Int)).set 1 v)) m (atX1 δ n (δ n+v-linkN V n))∧FarT V (putV V n ((getR V (n:Int)).set 1 v)) m n:=by
 obtain ⟨p,f,dT,la,ka,li,_,en⟩:=h.dir.links hn hv
 refine ⟨p,⟨dT,(la 1).2 h.root,by rw [ka 1 (Nat.le_refl _) h.root.2.1];exact h.rootk,fun k k1 k2 x hx=>?_,fun k k1 k2=>?_,fun k k1=>?_⟩,f⟩
 ·have k1':=(la k).1 k1
  have k2':kindR V k=2:=by rw [← ka k k1.1 k1.2.1];exact k2
  rw [en k k1' k2'] at hx
  obtain ⟨j,a,b,c⟩:=h.name k k1' k2' x hx
  exact ⟨j,a,(la j).2 b,c⟩
 ·have k2':kindR V k=2:=by rw [← ka k k1.1 k1.2.1];exact k2
  have ek:k≠n:=fun e=>by subst e;omega
  rw [f.link k1.1 k1.2.1 ek]
  exact h.dlink k ((la k).1 k1) k2'
 ·have k1':=(la k).1 k1
  have hc:cntE (putV V n ((getR V (n:Int)).set 1 v)) m k=cntE V m k:=cntE_congr fun j j1 j2=>by
   unfold cntD
   rw [ka j j1 j2]
   by_cases j3:kindR V j=2
   ·rw [if_pos j3,if_pos j3,en j ⟨j1,j2,by omega⟩ j3]
   ·rw [if_neg j3,if_neg j3]
  rw [hc]
  have h0:=h.links k k1'
  unfold atX1
  by_cases ek:k=n
  ·subst ek
   rw [li,if_pos rfl]
   omega
  ·rw [if_neg ek,f.link k1.1 k1.2.1 ek]
   exact h0
theorem TreeX.gone (h:TreeX V m δ) (hn:LiveT V m n) (n1:n≠1) (hc:cntE V m n=0) (he:kindR V n=2→entD V n=[]) (hg:(goneO V (n:Int)).2=0) :
  TreeX (goneO V (n:Int)).1 m δ∧FarT V (goneO V (n:Int)).1 m n∧kindR (goneO V (n:Int)).1 n=0∧∀ k,LiveT V m k→kindR V k=2→k≠n→entD (goneO V (n:Int)).1 k=entD V k:=by
 obtain ⟨f,dT,hk0,en⟩:=h.dir.gone hn hg
 have hkk:∀ k,LiveT (goneO V (n:Int)).1 m k→k≠n∧LiveT V m k∧kindR (goneO V (n:Int)).1 k=kindR V k:=fun k a=>by
  have b:k≠n:=fun e=>by subst e;exact a.2.2 hk0
  exact ⟨b,(f.live k b).1 a,f.kind h.vol a.1 a.2.1 b⟩
 refine ⟨⟨dT,(f.live 1 (fun e=>n1 e.symm)).2 h.root,?_,fun k k1 k2 x hx=>?_,fun k k1 k2=>?_,fun k k1=>?_⟩,f,hk0,en⟩
 ·rw [f.kind h.vol (Nat.le_refl _) h.root.2.1 (fun e=>n1 e.symm)];exact h.rootk
 ·obtain ⟨a,b,c⟩:=hkk k k1
  rw [en k b (c▸k2) a] at hx
  obtain ⟨j,p,q,r⟩:=h.name k b (c▸k2) x hx
  refine ⟨j,p,(f.live j (fun e=>?_)).2 q,r⟩
  subst e
  have:=cntE_le (V:=V) (m:=m) (n:=j) b.1 b.2.1
  rw [hc] at this
  unfold cntD at this
  rw [if_pos (c▸k2)] at this
  have hz:=List.countP_eq_zero.1 (Nat.le_zero.1 this) x hx
  exact hz (by simpa using p)
 ·obtain ⟨a,b,c⟩:=hkk k k1
  rw [f.link k1.1 k1.2.1 a]
  exact h.dlink k b (c▸k2)
 ·obtain ⟨a,b,c⟩:=hkk k k1
  have hcc:cntE (goneO V (n:Int)).1 m k=cntE V m k:=cntE_congr fun j j1 j2=>by
   unfold cntD
   by_cases ej:j=n
   ·subst ej
    rw [hk0,if_neg (by decide)]
    by_cases j3:kindR V j=2
    ·rw [if_pos j3,he j3];rfl
    ·rw [if_neg j3]
   ·rw [f.kind h.vol j1 j2 ej]
    by_cases j3:kindR V j=2
    ·rw [if_pos j3,if_pos j3,en j ⟨j1,j2,by omega⟩ j3 ej]
    ·rw [if_neg j3,if_neg j3]
  rw [hcc,f.link k1.1 k1.2.1 a]
  exact h.links k b
theorem TreeX.still (h:TreeX V m δ) (dT:DirT W m) (hk:∀ k,1≤k→k≤m→kindR W k=kindR V k) (hl:∀ k,1≤k→k≤m→linkN W k=linkN V k) (en:∀ k,LiveT V m k→kindR V k=2→entD W k=entD V k):TreeX W m δ:=by
 have la:∀ k,LiveT W m k↔LiveT V m k:=fun k=>by
  unfold LiveT
  constructor
  ·rintro ⟨a,b,c⟩;exact ⟨a,b,by rw [← hk k a b];exact c⟩
  ·rintro ⟨a,b,c⟩;exact ⟨a,b,by rw [hk k a b];exact c⟩
 refine ⟨dT,(la 1).2 h.root,by rw [hk 1 (Nat.le_refl _) h.root.2.1];exact h.rootk,fun k k1 k2 x hx=>?_,fun k k1 k2=>?_,fun k k1=>?_⟩
 ·have k1':=(la k).1 k1
  have k2':kindR V k=2:=by rw [← hk k k1.1 k1.2.1];exact k2
  rw [en k k1' k2'] at hx
  obtain ⟨j,a,b,c⟩:=h.name k k1' k2' x hx
  exact ⟨j,a,(la j).2 b,c⟩
 ·rw [hl k k1.1 k1.2.1]
  exact h.dlink k ((la k).1 k1) (by rw [← hk k k1.1 k1.2.1];exact k2)
 ·have hc:cntE W m k=cntE V m k:=cntE_congr fun j j1 j2=>by
   unfold cntD
   rw [hk j j1 j2]
   by_cases j3:kindR V j=2
   ·rw [if_pos j3,if_pos j3,en j ⟨j1,j2,by omega⟩ j3]
   ·rw [if_neg j3,if_neg j3]
  rw [hc,hl k k1.1 k1.2.1]
  exact h.links k ((la k).1 k1)
theorem TreeX.same (h:TreeX V m δ) (s:SameT V W m) (hb:∀ k,LiveT V m k→extL (getR V (k:Int))≠0→blkL W (extL (getR V (k:Int)))=blkL V (extL (getR V (k:Int)))):TreeX W m δ:=by
 obtain ⟨a,b⟩:=h.dir.same s hb
 refine h.still a (fun k k1 k2=>?_) (fun k k1 k2=>?_) b
 ·rw [← kind_getT s.inv.vol k1 k2,← kind_getT h.vol k1 k2,s.rest k k1 k2]
 ·unfold linkN;rw [s.rest k k1 k2]
theorem TreeX.filed (h:TreeX V m δ) (f:FarT V W m n) (h1:1≤n) (h2:n≤m) (hV:kindR V n=1) (hn:kindR W n=1) (hl:linkN W n=linkN V n) (hs:SaysV W n):TreeX W m δ:=by
 obtain ⟨a,b⟩:=h.dir.far f (fun _=>⟨.inl hn,hs⟩)
 refine h.still a (fun k k1 k2=>?_) (fun k k1 k2=>?_) (fun k k1 k2=>b k k1 k2 (fun e=>by subst e;omega))
 ·by_cases e:k=n
  ·rw [e,hV,hn]
  ·exact f.kind h.vol k1 k2 e
 ·by_cases e:k=n
  ·rw [e,hl]
  ·exact f.link k1 k2 e
theorem find_facts {z:Int} {nm:ByteArray} (hf:(findO V z nm).2=0):mayB nm.data.toList=true∧(listO V z).2=0∧hasE (listO V z).1 nm=true∧(findO V z nm).1=getE (listO V z).1 nm:=by
 have hm:mayB nm.data.toList=true:=by
  cases h:mayB nm.data.toList with
  | true=>rfl
  | false=>unfold findO at hf;rw [if_pos h] at hf;exact absurd hf (by decide)
 have hl:(listO V z).2=0:=by
  refine Classical.not_not.1 (fun h=>?_)
  unfold findO at hf
  rw [if_neg (by rw [hm];simp),if_pos h] at hf
  exact h hf
 unfold findO at hf ⊢
 rw [if_neg (by rw [hm];simp),if_neg (by rw [hl];simp)] at hf ⊢
 cases h:hasE (listO V z).1 nm with
 | true=>rw [if_pos rfl];exact ⟨hm,hl,rfl,rfl⟩
 | false=>rw [h,if_neg (by simp)] at hf;exact absurd hf (by decide)
theorem TreeX.find (h:TreeX V m δ) {z:Int} {nm:ByteArray} (hf:(findO V z nm).2=0) :
  ∃ d k:Nat,z=(d:Int)∧LiveT V m d∧kindR V d=2∧(findO V z nm).1=(k:Int)∧LiveT V m k∧k≠1∧(⟨nm,(k:Int)⟩:EntV) ∈ entD V d:=by
 obtain ⟨hm,hl,hh,hg⟩:=find_facts hf
 obtain ⟨d,rfl,hd,hk⟩:=list_live h.vol hl
 have hmem:=has_mem (h.dir.dir d hd hk).valid hh
 obtain ⟨k,a,b,c⟩:=h.name d hd hk _ hmem
 have a:getE (listO V (d:Int)).1 nm=(k:Int):=a
 refine ⟨d,k,rfl,hd,hk,hg.trans a,b,c,?_⟩
 rw [← a]
 exact hmem
theorem TreeX.go (h:TreeX V m δ):∀ (a:List (List UInt8)) (n:Nat),LiveT V m n→(goO V (n:Int) a).2=0→∃ k:Nat,(goO V (n:Int) a).1=(k:Int)∧LiveT V m k∧(a≠[]→k≠1)
 | [],n,hn,_=>⟨n,rfl,hn,fun h=>absurd rfl h⟩
 | x::r,n,hn,he=>by
  rw [goO] at he ⊢
  by_cases hf:(findO V (n:Int) ⟨x.toArray⟩).2≠0
  ·rw [if_pos hf] at he;exact absurd he hf
  ·rw [if_neg hf] at he ⊢
   obtain ⟨_,k,_,_,_,e,kl,k1,_⟩:=h.find (Classical.not_not.1 hf)
   rw [e] at he ⊢
   obtain ⟨j,a,b,c⟩:=TreeX.go h r k kl he
   refine ⟨j,a,b,fun _=>?_⟩
   by_cases hr:r=[]
   ·subst hr
    have:(k:Int)=(j:Int):=a
    omega
   ·exact c hr
theorem path_may {p:List UInt8} (he:(pathO V p).2=0):mayP p=true:=by
 cases hm:mayP p with
 | true=>rfl
 | false=>unfold pathO at he;rw [hm,if_pos rfl] at he;exact absurd he (by decide)
theorem TreeX.path (h:TreeX V m δ) {p:List UInt8} (he:(pathO V p).2=0):∃ k:Nat,(pathO V p).1=(k:Int)∧LiveT V m k∧mayP p=true∧(p≠[47]→k≠1):=by
 have hm:=path_may he
 unfold pathO at he ⊢
 rw [hm,if_neg (by simp)] at he ⊢
 obtain ⟨k,a,b,c⟩:=h.go (namesP p) 1 h.root he
 refine ⟨k,a,b,rfl,fun hp=>c ?_⟩
 obtain ⟨xs,x,e,_⟩:=path_split hm hp
 rw [e];simp
theorem weigh_ok {r:List ByteArray × Int} (he:(weighO V r).2=0):r.2=0∧weighO V r=(r.1,0)∧beyondO V r.1=false:=by
 unfold weighO at he ⊢
 by_cases h:r.2=0
 ·rw [if_neg (by rw [h];simp)] at he ⊢
  by_cases hb:beyondO V r.1=true
  ·rw [if_pos hb] at he;exact absurd he (by decide)
  ·rw [if_neg hb];exact ⟨h,rfl,by simpa using hb⟩
 ·rw [if_pos h] at he;exact absurd he h
theorem vac_ok {p:ByteArray} (he:(vacO V p).2.2=0):mayP p.data.toList=true∧p.data.toList≠[47]∧(pathO V (aboveB p).data.toList).2=0∧(findO V (pathO V (aboveB p).data.toList).1 (lastB p)).2=9∧vacO V p=((pathO V (aboveB p).data.toList).1,lastB p,0):=by
 unfold vacO at he ⊢
 by_cases h1:mayP p.data.toList=false
 ·rw [if_pos h1] at he;exact absurd he (by decide)
 ·rw [if_neg h1] at he ⊢
  by_cases h2:p.data.toList=[47]
  ·rw [if_pos h2] at he;exact absurd he (by decide)
  ·rw [if_neg h2] at he ⊢
   by_cases h3:(pathO V (aboveB p).data.toList).2≠0
   ·rw [if_pos h3] at he;exact absurd he h3
   ·rw [if_neg h3] at he ⊢
    by_cases h4:(findO V (pathO V (aboveB p).data.toList).1 (lastB p)).2=9
    ·rw [if_pos h4];exact ⟨by simpa using h1,h2,Classical.not_not.1 h3,h4,rfl⟩
    ·rw [if_neg h4] at he
     by_cases h5:(findO V (pathO V (aboveB p).data.toList).1 (lastB p)).2=0
     ·rw [if_pos h5] at he;exact absurd he (by decide)
     ·rw [if_neg h5] at he;exact absurd he h5
end
end Go.Proofs.YtdldlendppkknaaGreatDoor
