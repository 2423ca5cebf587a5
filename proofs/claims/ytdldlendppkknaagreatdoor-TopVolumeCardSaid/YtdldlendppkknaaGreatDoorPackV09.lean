/-
  Contracts and plain laws: TopSnd, TopInv, TopPut, TopOps, TopKeep, TopAttr.
-/
import Derived.Test.YtdldlendppkknaaGreatDoorPackV08
namespace Go.Proofs.YtdldlendppkknaaGreatDoor
set_option linter.unusedVariables false
set_option linter.unusedSimpArgs false
set_option maxRecDepth 100000
section
variable {xs ys zs V W:List ByteArray} {m len n:Nat} {l l' l'' p:List Nat} {s s0 b k off size:Nat} {d:List UInt8}
structure GoodT (xs:List ByteArray) (m:Nat) (l:List Nat):Prop where
 ok:OkS xs.length m (xs,l)
 own:OwnS xs m l
 zero:∀ i,sizeX l≤i→i<8960→byteX xs m l i=0
 past:∀ s,needN (sizeX l)≤s→s<70→atX xs m l s=0
 big:slotX xs m l 70≠0→768<sizeX l
theorem WroS.goodT (g:GoodT xs m l) (hl:off+d.length≤8960) {r:List ByteArray × List Nat} (h:WroS m off d xs l r):GoodT r.1 m r.2:=by
 refine ⟨⟨h.ok.vol,rfl,h.ok.fit⟩,h.mv.own,fun i h1 h2=>?_,fun s h1 h2=>?_,fun h1=>?_⟩
 ·rw [h.size] at h1
  rw [h.byte i h2]
  unfold wrF
  by_cases hd:d=[]
  ·rw [if_pos hd] at h1
   rw [if_neg (by rw [hd];simp),g.zero i h1 h2]
  ·rw [if_neg hd] at h1
   rw [if_neg (by omega),g.zero i (by omega) h2]
 ·rw [h.size] at h1
  refine Classical.not_not.1 (fun h0=>?_)
  rcases (h.at_ s h2).1 h0 with ho | ⟨hd,h3,h4⟩
  ·refine ho (g.past s ?_ h2)
   split at h1
   ·exact h1
   ·unfold needN at h1 ⊢; omega
  ·rw [if_neg hd] at h1
   unfold needN at h1
   have:d.length≠0:=by simpa using hd
   omega
 ·rw [h.size]
  rcases h.ind.1 h1 with ho | ⟨hd,h3⟩
  ·have:=g.big ho
   split <;> omega
  ·rw [if_neg hd];omega
theorem cutG_mvT (g:GoodT xs m l) (hs:size≤8960):CutS m size xs l (cutG noK xs m l size):=by
 have hv:IsVol xs m:=g.ok.vol
 have hl12:l.length=12:=g.ok.fit.1
 have hn:=needN_le hs
 have hok:=cutG_ok (noK_ok m) g.ok hs
 have h0:OkS xs.length m (xs,l.set 3 size):=⟨hv,rfl,g.ok.fit.size (by omega)⟩
 have m0:=size_mv hv g.own size
 have hz0:sizeX (l.set 3 size)=size:=by rw [sizeX_set hl12];omega
 unfold cutG at hok ⊢
 unfold noK at hok ⊢
 by_cases hc:size<sizeX l
 ·rw [if_pos hc] at hok ⊢
  unfold shortG at hok ⊢
  have a:=dropN_mv h0 m0.own (k:=needN size) (70-needN size) (by omega)
  have hsz:=a.size
  revert hok a hsz
  change OkS xs.length m (tailZ m size (dropI noK m size (dropN noK m (needN size) (xs,l.set 3 size) (70-needN size))))→DroS m xs (l.set 3 size) (fun s=>needN size≤s∧s<needN size+(70-needN size)) (dropN noK m (needN size) (xs,l.set 3 size) (70-needN size))→(dropN noK m (needN size) (xs,l.set 3 size) (70-needN size)).2.getD 3 0=(l.set 3 size).getD 3 0→CutS m size xs l (tailZ m size (dropI noK m size (dropN noK m (needN size) (xs,l.set 3 size) (70-needN size))))
  generalize dropN noK m (needN size) (xs,l.set 3 size) (70-needN size)=q
  obtain ⟨qx,ql⟩:=q
  intro hok a hsz
  have okq:OkS qx.length m (qx,ql):=⟨a.ok.vol,rfl,a.ok.fit⟩
  have atq:∀ s,s<70→atX qx m ql s=if s<needN size then atX xs m l s else 0:=fun s h1=>by
   have:=a.slot s (by omega)
   rw [slotX_lt h1,slotX_lt h1,atX_size] at this
   rw [this]
   by_cases e:s<needN size
   ·rw [if_neg (by omega),if_pos e]
   ·rw [if_pos (by omega),if_neg e]
  have c:=dropI_mv (size:=size) okq a.mv.own (fun h1 s h2 h3=>by
   rw [atq s h3,if_neg]
   unfold needN;omega)
  have hsz2:=c.size
  revert hok c hsz2
  generalize dropI noK m size (qx,ql)=t
  obtain ⟨tx,tl⟩:=t
  intro hok c hsz2
  have att:∀ s,s<70→atX tx m tl s=if s<needN size then atX xs m l s else 0:=fun s h1=>by
   have:=c.slot s (by omega)
   rw [slotX_lt h1,slotX_lt h1,if_neg (by omega)] at this
   rw [this,atq s h1]
  have indt:slotX tx m tl 70≠0→slotX xs m l 70≠0∧768<size:=fun h1=>by
   rw [c.slot 70 (by omega)] at h1
   by_cases e:size≤768
   ·rw [if_pos ⟨e,rfl⟩] at h1;exact absurd rfl h1
   ·rw [if_neg (fun h=>e h.1),a.slot 70 (by omega),if_neg (by omega),slotX_size] at h1
    exact ⟨h1,by omega⟩
  have byt:∀ i,i<8960→byteX tx m tl i=if i / 128<needN size then byteX xs m l i else 0:=fun i hi=>by
   rw [c.byte i hi,if_neg (by omega),a.byte i hi,byteX_size]
   by_cases e:i / 128<needN size
   ·rw [if_neg (by omega),if_pos e]
   ·rw [if_pos (by omega),if_neg e]
  have szt:sizeX tl=size:=by
   have e1:tl.getD 3 0=(l.set 3 size).getD 3 0:=hsz2.trans hsz
   unfold sizeX at hz0 ⊢
   rw [e1];exact hz0
  have mvt:MvS m xs l tx tl:=m0.trans (a.mv.trans c.mv)
  unfold tailZ at hok ⊢
  by_cases ht:size % 128≠0∧atX (tx,tl).1 m (tx,tl).2 (size / 128)≠0
  ·rw [if_pos ht] at hok ⊢
   have h1:size / 128<70:=by
    refine Classical.not_not.1 (fun h=>?_)
    have:size=8960:=by omega
    rw [this] at ht
    exact ht.1 rfl
   obtain ⟨c1,c2,c3⟩:=lay_mv (d:=List.replicate (128-size % 128) 0) mvt.vol mvt.own h1 (rfl:atX tx m tl (size / 128)=_) ht.2 (p:=size % 128) (by rw [List.length_replicate];omega)
   refine ⟨hok,mvt.trans c1,fun s h1=>?_,fun h1=>?_,fun i hi=>?_,szt⟩
   ·have:=c2 s (by omega)
    rw [slotX_lt h1,slotX_lt h1] at this
    exact this.trans (att s h1)
   ·rw [show slotX _ m _ 70=slotX tx m tl 70 from c2 70 (by omega)] at h1
    exact indt h1
   ·refine (c3 i hi).trans ?_
    rw [byt i hi,List.length_replicate]
    by_cases e:i<size
    ·rw [if_neg (by omega),if_pos (by unfold needN;omega),if_pos e]
    ·rw [if_neg e]
     by_cases e2:i / 128=size / 128∧size % 128≤i % 128∧i % 128<size % 128+(128-size % 128)
     ·rw [if_pos e2,List.getD_eq_getElem?_getD,List.getElem?_replicate]
      split <;> rfl
     ·rw [if_neg e2,if_neg (by unfold needN;omega)]
  ·rw [if_neg ht] at hok ⊢
   refine ⟨hok,mvt,att,indt,fun i hi=>?_,szt⟩
   refine (byt i hi).trans ?_
   by_cases e:i<size
   ·rw [if_pos (by unfold needN;omega),if_pos e]
   ·rw [if_neg e]
    by_cases e2:i / 128<needN size
    ·rw [if_pos e2]
     have hm:size % 128≠0:=by unfold needN at e2;omega
     have hk:i / 128=size / 128:=by unfold needN at e2;omega
     have hz:atX tx m tl (size / 128)=0:=Classical.not_not.1 (fun h=>ht ⟨hm,h⟩)
     have:=byt i hi
     rw [if_pos e2] at this
     rw [← this]
     unfold byteX
     rw [hk,if_pos hz]
    ·rw [if_neg e2]
 ·rw [if_neg hc] at hok ⊢
  refine ⟨hok,m0,fun s h1=>?_,fun h1=>?_,fun i hi=>?_,hz0⟩
  ·show atX xs m (l.set 3 size) s=_
   rw [atX_size]
   by_cases e:s<needN size
   ·rw [if_pos e]
   ·rw [if_neg e]
    refine g.past s ?_ h1
    unfold needN at e ⊢; omega
  ·rw [show slotX _ m _ 70=slotX xs m l 70 from slotX_size xs m l size 70] at h1
   have:=g.big h1
   exact ⟨h1,by omega⟩
  ·show byteX xs m (l.set 3 size) i=_
   rw [byteX_size]
   by_cases e:i<size
   ·rw [if_pos e]
   ·rw [if_neg e]
    exact g.zero i (by omega) hi
theorem CutS.goodT (g:GoodT xs m l) (hs:size≤8960) {r:List ByteArray × List Nat} (h:CutS m size xs l r):GoodT r.1 m r.2:=by
 refine ⟨⟨h.ok.vol,rfl,h.ok.fit⟩,h.mv.own,fun i h1 h2=>?_,fun s h1 h2=>?_,fun h1=>?_⟩
 ·rw [h.size] at h1
  rw [h.byte i h2,if_neg (by omega)]
 ·rw [h.size] at h1
  rw [h.at_ s h2,if_neg (by omega)]
 ·rw [h.size];exact (h.ind h1).2
theorem GoodT.put (hv:IsVol xs m) (h1:1≤n) (h2:n≤m) (p:List Nat) (g:GoodT xs m l):GoodT (putV xs n p) m l:=by
 refine ⟨⟨hv.putI h1 h2 p,rfl,g.ok.fit⟩,g.own.put hv h1 h2 p,fun i a b=>?_,fun s a b=>?_,fun h=>?_⟩
 ·rw [byteX_put hv h1 h2];exact g.zero i a b
 ·rw [atX_put hv h1 h2];exact g.past s a b
 ·rw [slotX_put hv h1 h2] at h;exact g.big h
theorem MvS.otherT (h:MvS m xs l ys l') (g:GoodT xs m p) (ap:ApartS xs m l p) :
  GoodT ys m p∧ApartS ys m l' p∧(∀ s,s<71→slotX ys m p s=slotX xs m p s)∧(∀ i,i<8960→byteX ys m p i=byteX xs m p i):=by
 obtain ⟨a,c,e,f⟩:=h.other g.own ap
 have hat:∀ s,s<70→atX ys m p s=atX xs m p s:=fun s hs=>by
  have:=a s (by omega)
  rw [slotX_lt hs,slotX_lt hs] at this;exact this
 have hby:∀ i,i<8960→byteX ys m p i=byteX xs m p i:=fun i hi=>byte_of (fun s hs=>.inl ⟨hat s hs,fun hz=>by
  have:=f s (by omega) (by rw [slotX_lt hs];exact hz)
  rw [slotX_lt hs] at this;exact this⟩) hi
 refine ⟨⟨⟨h.vol,rfl,g.ok.fit⟩,c,fun i h1 h2=>?_,fun s h1 h2=>?_,fun h1=>?_⟩,e,a,hby⟩
 ·rw [hby i h2];exact g.zero i h1 h2
 ·rw [hat s h2];exact g.past s h1 h2
 ·rw [a 70 (by omega)] at h1;exact g.big h1
end
section
variable {V W ys:List ByteArray} {m n k:Nat} {l l':List Nat}
def extL (l:List Nat):Nat:=l.getD 11 0
def LiveT (V:List ByteArray) (m n:Nat):Prop:=1≤n∧n≤m∧kindR V n≠0
theorem live_iff:LiveT V m n↔n ∈ allR V m:=by
 unfold LiveT allR
 rw [List.mem_filter,List.mem_range']
 constructor
 ·rintro ⟨h1,h2,h3⟩
  exact ⟨⟨n-1,by omega,by omega⟩,by simpa using h3⟩
 ·rintro ⟨⟨i,h1,h2⟩,h3⟩
  exact ⟨by omega,by omega,by simpa using h3⟩
theorem allR_nodup (V:List ByteArray) (m:Nat):(allR V m).Nodup:=List.Pairwise.filter _ (List.nodup_range' (step:=1))
def cntT (V:List ByteArray) (m:Nat) (l:List Nat):Nat:=cntS V m l+if extL l≠0 then 1 else 0
def sumT (V:List ByteArray) (m:Nat):Nat:=((allR V m).map fun n:Nat=>cntT V m (getR V (n:Int))).sum
structure InvT (V:List ByteArray) (m:Nat):Prop where
 vol:IsVol V m
 good:∀ n,LiveT V m n→GoodT V m (getR V (n:Int))
 apart:∀ n k,LiveT V m n→LiveT V m k→n≠k→ApartS V m (getR V (n:Int)) (getR V (k:Int))
 ext:∀ n,LiveT V m n→extL (getR V (n:Int))≠0→datB V m (extL (getR V (n:Int)))=true∧bitV V (extL (getR V (n:Int)))=true∧∀ k,LiveT V m k→∀ s,s<71→slotX V m (getR V (k:Int)) s≠extL (getR V (n:Int))
 exti:∀ n k,LiveT V m n→LiveT V m k→n≠k→extL (getR V (n:Int))=extL (getR V (k:Int))→extL (getR V (n:Int))=0
 room:roomR V+sumT V m=V.length-dataN m
theorem kind_getT (hv:IsVol V m) (h1:1≤n) (h2:n≤m):(getR V (n:Int)).getD 0 0=kindR V n:=by
 rw [getR_vol hv h1 h2]
 rfl
theorem allR_congr (h:∀ n,1≤n→n≤m→(kindR W n≠0↔kindR V n≠0)):allR W m=allR V m:=by
 unfold allR
 refine List.filter_congr fun n hn=>?_
 obtain ⟨i,h1,h2⟩:=List.mem_range'.1 hn
 have:=h n (by omega) (by omega)
 by_cases e:kindR V n=0
 ·have e2:kindR W n=0:=Classical.not_not.1 (fun h0=>this.1 h0 e)
  rw [e,e2]
 ·have e2:=this.2 e
  rw [bne_iff_ne.2 e,bne_iff_ne.2 e2]
theorem put_one (hv:IsVol V m) (h1:1≤n) (h2:n≤m) (l:List Nat):blkL (putV V n l) 1=blkL V 1:=by
 rw [putV_blk hv h1 h2,if_neg (by unfold blkN;omega)]
structure MovedT (V:List ByteArray) (m n:Nat) (l':List Nat) (ys W:List ByteArray):Prop where
 inv:InvT W m
 len:W.length=V.length
 get:getR W (n:Int)=l'
 rest:∀ k,1≤k→k≤m→k≠n→getR W (k:Int)=getR V (k:Int)
 live:∀ k,LiveT W m k↔LiveT V m k
 byte:∀ i,byteX W m l' i=byteX ys m l' i
 other:∀ k,LiveT V m k→k≠n→∀ i,i<8960→byteX W m (getR V (k:Int)) i=byteX V m (getR V (k:Int)) i
 ext:∀ k,LiveT V m k→extL (getR V (k:Int))≠0→blkL W (extL (getR V (k:Int)))=blkL V (extL (getR V (k:Int)))
 one:blkL W 1=blkL V 1
theorem InvT.move (h:InvT V m) (hn:LiveT V m n) (mv:MvS m V (getR V (n:Int)) ys l') (g:GoodT ys m l'):MovedT V m n l' ys (putV ys n l'):=by
 obtain ⟨h1,h2,h3⟩:=hn
 have hn:LiveT V m n:=⟨h1,h2,h3⟩
 have hv:=mv.vol
 have hvW:=hv.putI h1 h2 l'
 have hg:getR (putV ys n l') (n:Int)=l':=get_put_same hv h1 h2 g.ok.fit
 have he:extL l'=extL (getR V (n:Int)):=mv.keep 11 (.inr rfl)
 have ho:∀ k,1≤k→k≤m→k≠n→getR (putV ys n l') (k:Int)=getR V (k:Int):=fun k k1 k2 hne=>by
  obtain ⟨b1,b2⟩:=blk_at k1 k2
  rw [get_put_other hv h1 h2 l' k (by omega),getR_vol hv k1 k2,getR_vol h.vol k1 k2,mv.low (blkN k) b2 (by omega)]
 have hki:∀ k,1≤k→k≤m→kindR (putV ys n l') k=kindR V k:=fun k k1 k2=>by
  rw [← kind_getT hvW k1 k2,← kind_getT h.vol k1 k2]
  by_cases e:k=n
  ·rw [e,hg];exact mv.keep 0 (.inl (by omega))
  ·rw [ho k k1 k2 e]
 have hli:∀ k,LiveT (putV ys n l') m k↔LiveT V m k:=fun k=>by
  unfold LiveT
  constructor
  ·rintro ⟨a,b,c⟩;exact ⟨a,b,by rw [← hki k a b];exact c⟩
  ·rintro ⟨a,b,c⟩;exact ⟨a,b,by rw [hki k a b];exact c⟩
 have hot:∀ k,LiveT V m k→k≠n→GoodT ys m (getR V (k:Int))∧ApartS ys m l' (getR V (k:Int))∧(∀ s,s<71→slotX ys m (getR V (k:Int)) s=slotX V m (getR V (k:Int)) s)∧(∀ i,i<8960→byteX ys m (getR V (k:Int)) i=byteX V m (getR V (k:Int)) i):=fun k hk hne=>
  mv.otherT (h.good k hk) (h.apart n k hn hk (fun e=>hne e.symm))
 have hsl:∀ p s,slotX (putV ys n l') m p s=slotX ys m p s:=fun p s=>slotX_put hv h1 h2 l' p s
 have hap:∀ p q,ApartS ys m p q→ApartS (putV ys n l') m p q:=fun p q a s t hs ht e=>by
  rw [hsl,hsl] at e;rw [hsl];exact a s t hs ht e
 have hex:∀ k,LiveT V m k→extL (getR (putV ys n l') (k:Int))=extL (getR V (k:Int)):=fun k hk=>by
  by_cases e:k=n
  ·rw [e,hg];exact he
  ·rw [ho k hk.1 hk.2.1 e]
 have hfar:∀ k,LiveT V m k→extL (getR V (k:Int))≠0→blkL ys (extL (getR V (k:Int)))=blkL V (extL (getR V (k:Int)))∧bitV ys (extL (getR V (k:Int)))=true∧datB V m (extL (getR V (k:Int)))=true∧∀ j,LiveT V m j→∀ s,s<71→slotX V m (getR V (j:Int)) s≠extL (getR V (k:Int)):=fun k hk h0=>by
  obtain ⟨a,b,c⟩:=h.ext k hk h0
  have:=mv.far _ a b (fun s hs=>c n hn s hs)
  exact ⟨this.1,this.2,a,c⟩
 have hdl:∀ j,datB (putV ys n l') m j=datB V m j:=fun j=>datB_len m j ((putV_length _ _ _).trans mv.len)
 refine ⟨⟨hvW,fun k hk=>?_,fun a c ha hc hne=>?_,fun k hk h0=>?_,fun a c ha hc hne e=>?_,?_⟩,(putV_length _ _ _).trans mv.len,hg,ho,hli,byteX_put hv h1 h2 l' l',fun k hk hne i hi=>?_,fun k hk h0=>?_,(put_one hv h1 h2 l').trans (mv.low 1 (by unfold dataN;omega) (by omega))⟩
 ·have hk:=(hli k).1 hk
  by_cases e:k=n
  ·rw [e,hg];exact g.put hv h1 h2 l'
  ·rw [ho k hk.1 hk.2.1 e];exact (hot k hk e).1.put hv h1 h2 l'
 ·have ha:=(hli a).1 ha
  have hc:=(hli c).1 hc
  by_cases e:a=n
  ·rw [e,hg]
   have ec:c≠n:=fun h=>hne (e.trans h.symm)
   rw [ho c hc.1 hc.2.1 ec];exact hap _ _ (hot c hc ec).2.1
  ·rw [ho a ha.1 ha.2.1 e]
   by_cases ec:c=n
   ·rw [ec,hg];exact hap _ _ (hot a ha e).2.1.symm
   ·rw [ho c hc.1 hc.2.1 ec]
    refine hap _ _ (fun s t hs ht es=>?_)
    rw [(hot a ha e).2.2.1 s hs,(hot c hc ec).2.2.1 t ht] at es
    rw [(hot a ha e).2.2.1 s hs]
    exact h.apart a c ha hc hne s t hs ht es
 ·have hk:=(hli k).1 hk
  rw [hex k hk] at h0 ⊢
  obtain ⟨f1,f2,f3,f4⟩:=hfar k hk h0
  refine ⟨by rw [hdl];exact f3,by rw [bitV_put hv h1 h2];exact f2,fun j hj s hs e=>?_⟩
  have hj:=(hli j).1 hj
  rw [hsl] at e
  by_cases ej:j=n
  ·rw [ej,hg] at e
   have hne0:slotX ys m l' s≠0:=by rw [e];exact h0
   rcases mv.src s hs hne0 with ⟨t,ht,et⟩ | eb
   ·exact f4 n hn t ht (et.trans e)
   ·rw [e] at eb
    rw [(h.ext k hk h0).2.1] at eb
    cases eb
  ·rw [ho j hj.1 hj.2.1 ej,(hot j hj ej).2.2.1 s hs] at e
   exact f4 j hj s hs e
 ·have ha:=(hli a).1 ha
  have hc:=(hli c).1 hc
  rw [hex a ha,hex c hc] at e
  rw [hex a ha]
  exact h.exti a c ha hc hne e
 ·have hal:allR (putV ys n l') m=allR V m:=allR_congr fun k k1 k2=>by rw [hki k k1 k2]
  have hs:sumT V m+cntT (putV ys n l') m (getR (putV ys n l') (n:Int))=sumT (putV ys n l') m+cntT V m (getR V (n:Int)):=by
   unfold sumT
   rw [hal]
   exact sum_upd (fun k:Nat=>cntT V m (getR V (k:Int))) (fun k:Nat=>cntT (putV ys n l') m (getR (putV ys n l') (k:Int))) (allR V m) (allR_nodup V m) (live_iff.1 hn) (fun k hk hne=>by
    have hk:=live_iff.2 hk
    show cntT (putV ys n l') m (getR (putV ys n l') (k:Int))=cntT V m (getR V (k:Int))
    unfold cntT
    rw [ho k hk.1 hk.2.1 hne,cntS_put hv h1 h2,cntS_congr (hot k hk hne).2.2.1])
  rw [hg] at hs
  unfold cntT at hs
  rw [cntS_put hv h1 h2,he] at hs
  have hr:=mv.room
  have h0:=h.room
  rw [roomR_put hv h1 h2,(putV_length _ _ _).trans mv.len]
  omega
 ·rw [byteX_put hv h1 h2];exact (hot k hk hne).2.2.2 i hi
 ·obtain ⟨f1,f2,f3,f4⟩:=hfar k hk h0
  rw [← f1]
  exact putV_dat hv h1 h2 l' (by rw [datB_len m _ mv.len];exact f3)
theorem InvT.write (h:InvT V m) (hn:LiveT V m n) {off:Int} {d:List UInt8} (he:(writeO V (n:Int) off d).2=0) :
  0≤off∧off+d.length≤8960∧∃ r,WroS m off.toNat d V (getR V (n:Int)) r∧(writeO V (n:Int) off d).1=putV r.1 n r.2∧MovedT V m n r.2 r.1 (writeO V (n:Int) off d).1:=by
 have g:=h.good n hn
 unfold writeO at he ⊢
 rw [inoE_zero h.vol hn.1 hn.2.1,if_neg (by simp)] at he ⊢
 by_cases ho:off<0
 ·rw [if_pos ho] at he;exact absurd he (by decide)
 ·rw [if_neg ho] at he ⊢
  by_cases hb:8960<off∨8960<off+(d.length:Int)
  ·rw [if_pos hb] at he;exact absurd he (by decide)
  ·rw [if_neg hb,mO_vol h.vol] at he ⊢
   cases hw:wriG noK V m (getR V (n:Int)) off.toNat d with
   | none=>rw [hw] at he;exact absurd (show (10:Int)=0 from he) (by decide)
   | some r=>
    have ws:=wriG_mv g.ok g.own (by omega) hw
    refine ⟨by omega,by omega,r,ws,by simp,?_⟩
    have:=h.move hn ws.mv (ws.goodT g (by omega))
    simpa using this
theorem InvT.cut (h:InvT V m) (hn:LiveT V m n) {size:Int} (he:(cutO V (n:Int) size).2=0) :
  0≤size∧size≤8960∧∃ r,CutS m size.toNat V (getR V (n:Int)) r∧(cutO V (n:Int) size).1=putV r.1 n r.2∧MovedT V m n r.2 r.1 (cutO V (n:Int) size).1:=by
 have g:=h.good n hn
 unfold cutO at he ⊢
 rw [inoE_zero h.vol hn.1 hn.2.1,if_neg (by simp)] at he ⊢
 by_cases ho:size<0
 ·rw [if_pos ho] at he;exact absurd he (by decide)
 ·rw [if_neg ho] at he ⊢
  by_cases hb:8960<size
  ·rw [if_pos hb] at he;exact absurd he (by decide)
  ·rw [if_neg hb,mO_vol h.vol]
   have cs:=cutG_mvT g (size:=size.toNat) (by omega)
   refine ⟨by omega,by omega,_,cs,by simp,?_⟩
   have:=h.move hn cs.mv (cs.goodT g (by omega))
   simpa using this
end
section
variable {V W ys:List ByteArray} {m n k c:Nat} {l l':List Nat}
def sumBut (V:List ByteArray) (m n:Nat):Nat:=((List.range' 1 m).map fun k:Nat=>if k≠n∧kindR V k≠0 then cntT V m (getR V (k:Int)) else 0).sum
theorem sum_if (f:Nat→Nat) (p:Nat→Bool):∀ L:List Nat,((L.filter p).map f).sum=(L.map fun k=>if p k=true then f k else 0).sum
 | []=>rfl
 | a::L=>by
  have ih:=sum_if f p L
  rw [List.filter_cons,List.map_cons,List.sum_cons]
  by_cases h:p a=true
  ·rw [if_pos h,if_pos h,List.map_cons,List.sum_cons,ih]
  ·rw [if_neg h,if_neg h,ih,Nat.zero_add]
theorem sumT_all (V:List ByteArray) (m:Nat):sumT V m=((List.range' 1 m).map fun k:Nat=>if kindR V k≠0 then cntT V m (getR V (k:Int)) else 0).sum:=by
 unfold sumT allR
 rw [sum_if]
 congr 1
 refine List.map_congr_left fun k _=>?_
 by_cases h:kindR V k=0
 ·rw [if_neg (by simp [h]),if_neg (by simp [h])]
 ·rw [if_pos (by simpa using h),if_pos h]
theorem sumBut_split (h1:1≤n) (h2:n≤m):sumT V m=sumBut V m n+if kindR V n≠0 then cntT V m (getR V (n:Int)) else 0:=by
 rw [sumT_all]
 unfold sumBut
 have:=sum_upd (n:=n) (fun k:Nat=>if kindR V k≠0 then cntT V m (getR V (k:Int)) else 0) (fun k:Nat=>if k≠n∧kindR V k≠0 then cntT V m (getR V (k:Int)) else 0) (List.range' 1 m) (List.nodup_range' (step:=1)) (List.mem_range'.2 ⟨n-1,by omega,by omega⟩) (fun k _ hk=>by
  by_cases h:kindR V k=0
  ·rw [if_neg (fun h2=>h2.2 h),if_neg (fun h2=>h2 h)]
  ·rw [if_pos ⟨hk,h⟩,if_pos h])
 rw [if_neg (fun h:n≠n∧_=>h.1 rfl)] at this
 omega
structure PreT (V:List ByteArray) (m n c:Nat):Prop where
 vol:IsVol V m
 one:1≤n
 most:n≤m
 good:∀ k,LiveT V m k→k≠n→GoodT V m (getR V (k:Int))
 apart:∀ j k,LiveT V m j→LiveT V m k→j≠n→k≠n→j≠k→ApartS V m (getR V (j:Int)) (getR V (k:Int))
 ext:∀ j,LiveT V m j→j≠n→extL (getR V (j:Int))≠0→datB V m (extL (getR V (j:Int)))=true∧bitV V (extL (getR V (j:Int)))=true∧∀ k,LiveT V m k→k≠n→∀ s,s<71→slotX V m (getR V (k:Int)) s≠extL (getR V (j:Int))
 exti:∀ j k,LiveT V m j→LiveT V m k→j≠n→k≠n→j≠k→extL (getR V (j:Int))=extL (getR V (k:Int))→extL (getR V (j:Int))=0
 room:roomR V+sumBut V m n+c=V.length-dataN m
theorem InvT.pre (h:InvT V m) (h1:1≤n) (h2:n≤m):PreT V m n (if kindR V n≠0 then cntT V m (getR V (n:Int)) else 0):=
 ⟨h.vol,h1,h2,fun k hk _=>h.good k hk,fun j k hj hk _ _ hne=>h.apart j k hj hk hne,fun j hj _ h0=>⟨(h.ext j hj h0).1,(h.ext j hj h0).2.1,fun k hk _=>(h.ext j hj h0).2.2 k hk⟩,fun j k hj hk _ _ hne=>h.exti j k hj hk hne,by
  have:=h.room
  rw [sumBut_split h1 h2] at this
  omega⟩
structure PutT (V:List ByteArray) (m n c:Nat) (l':List Nat):Prop where
 good:GoodT V m l'
 apart:∀ k,LiveT V m k→k≠n→ApartS V m l' (getR V (k:Int))
 ext:extL l'≠0→datB V m (extL l')=true∧bitV V (extL l')=true∧(∀ s,s<71→slotX V m l' s≠extL l')∧∀ k,LiveT V m k→k≠n→extL (getR V (k:Int))≠extL l'∧∀ s,s<71→slotX V m (getR V (k:Int)) s≠extL l'
 others:∀ k,LiveT V m k→k≠n→extL (getR V (k:Int))≠0→∀ s,s<71→slotX V m l' s≠extL (getR V (k:Int))
 cnt:c=cntT V m l'
structure PutsT (V:List ByteArray) (m n:Nat) (l':List Nat) (W:List ByteArray):Prop where
 inv:InvT W m
 len:W.length=V.length
 get:getR W (n:Int)=l'
 rest:∀ k,1≤k→k≤m→k≠n→getR W (k:Int)=getR V (k:Int)
 live:∀ k,k≠n→(LiveT W m k↔LiveT V m k)
 byte:∀ (p:List Nat) i,byteX W m p i=byteX V m p i
 dat:∀ j,datB V m j=true→blkL W j=blkL V j
 one:blkL W 1=blkL V 1
theorem PreT.put (h:PreT V m n c) (hf:FitN l') (hp:l'.getD 0 0≠0→PutT V m n c l') (hz:l'.getD 0 0=0→c=0):PutsT V m n l' (putV V n l'):=by
 have h1:=h.one
 have h2:=h.most
 have hv:=h.vol
 have hvW:=hv.putI h1 h2 l'
 have hg:getR (putV V n l') (n:Int)=l':=get_put_same hv h1 h2 hf
 have ho:∀ k,1≤k→k≤m→k≠n→getR (putV V n l') (k:Int)=getR V (k:Int):=fun k k1 k2 hne=>by
  rw [get_put_other hv h1 h2 l' k (by omega)]
 have hki:∀ k,1≤k→k≤m→k≠n→kindR (putV V n l') k=kindR V k:=fun k k1 k2 e=>by
  rw [← kind_getT hvW k1 k2,← kind_getT hv k1 k2,ho k k1 k2 e]
 have hkn:kindR (putV V n l') n=l'.getD 0 0:=by rw [← kind_getT hvW h1 h2,hg]
 have hli:∀ k,k≠n→(LiveT (putV V n l') m k↔LiveT V m k):=fun k hne=>by
  unfold LiveT
  constructor
  ·rintro ⟨a,b,c⟩;exact ⟨a,b,by rw [← hki k a b hne];exact c⟩
  ·rintro ⟨a,b,c⟩;exact ⟨a,b,by rw [hki k a b hne];exact c⟩
 have hln:LiveT (putV V n l') m n→l'.getD 0 0≠0:=fun hl=>by rw [← hkn];exact hl.2.2
 have hsl:∀ p s,slotX (putV V n l') m p s=slotX V m p s:=fun p s=>slotX_put hv h1 h2 l' p s
 have hap:∀ p q,ApartS V m p q→ApartS (putV V n l') m p q:=fun p q a s t hs ht e=>by
  rw [hsl,hsl] at e;rw [hsl];exact a s t hs ht e
 have hdl:∀ j,datB (putV V n l') m j=datB V m j:=fun j=>datB_len m j (putV_length _ _ _)
 refine ⟨⟨hvW,fun k hk=>?_,fun a e ha he hne=>?_,fun k hk h0=>?_,fun a e ha he hne eq=>?_,?_⟩,putV_length _ _ _,hg,ho,hli,fun p i=>byteX_put hv h1 h2 l' p i,fun j hj=>putV_dat hv h1 h2 l' hj,put_one hv h1 h2 l'⟩
 ·by_cases e:k=n
  ·subst e;rw [hg];exact (hp (hln hk)).good.put hv h1 h2 l'
  ·have hk:=(hli k e).1 hk
   rw [ho k hk.1 hk.2.1 e];exact (h.good k hk e).put hv h1 h2 l'
 ·by_cases ea:a=n
  ·have ee:e≠n:=fun h=>hne (ea.trans h.symm)
   have he:=(hli e ee).1 he
   rw [ea,hg,ho e he.1 he.2.1 ee]
   exact hap _ _ ((hp (hln (ea▸ha))).apart e he ee)
  ·have ha:=(hli a ea).1 ha
   rw [ho a ha.1 ha.2.1 ea]
   by_cases ee:e=n
   ·rw [ee,hg];exact hap _ _ ((hp (hln (ee▸he))).apart a ha ea).symm
   ·have he:=(hli e ee).1 he
    rw [ho e he.1 he.2.1 ee]
    exact hap _ _ (h.apart a e ha he ea ee hne)
 ·by_cases e:k=n
  ·subst e
   rw [hg] at h0 ⊢
   obtain ⟨f1,f2,f3,f4⟩:=(hp (hln hk)).ext h0
   refine ⟨by rw [hdl];exact f1,by rw [bitV_put hv h1 h2];exact f2,fun j hj s hs=>?_⟩
   rw [hsl]
   by_cases ej:j=k
   ·rw [ej,hg];exact f3 s hs
   ·have hj:=(hli j ej).1 hj
    rw [ho j hj.1 hj.2.1 ej]
    exact (f4 j hj ej).2 s hs
  ·have hk:=(hli k e).1 hk
   rw [ho k hk.1 hk.2.1 e] at h0 ⊢
   obtain ⟨f1,f2,f3⟩:=h.ext k hk e h0
   refine ⟨by rw [hdl];exact f1,by rw [bitV_put hv h1 h2];exact f2,fun j hj s hs=>?_⟩
   rw [hsl]
   by_cases ej:j=n
   ·rw [ej,hg];exact (hp (hln (ej▸hj))).others k hk e h0 s hs
   ·have hj:=(hli j ej).1 hj
    rw [ho j hj.1 hj.2.1 ej]
    exact f3 j hj ej s hs
 ·by_cases ea:a=n
  ·have ee:e≠n:=fun h=>hne (ea.trans h.symm)
   have he:=(hli e ee).1 he
   rw [ea,hg] at eq ⊢
   rw [ho e he.1 he.2.1 ee] at eq
   refine Classical.not_not.1 (fun h0=>?_)
   exact (((hp (hln (ea▸ha))).ext h0).2.2.2 e he ee).1 eq.symm
  ·have ha:=(hli a ea).1 ha
   rw [ho a ha.1 ha.2.1 ea] at eq ⊢
   by_cases ee:e=n
   ·rw [ee,hg] at eq
    refine Classical.not_not.1 (fun h0=>?_)
    exact (((hp (hln (ee▸he))).ext (by rw [← eq];exact h0)).2.2.2 a ha ea).1 eq
   ·have he:=(hli e ee).1 he
    rw [ho e he.1 he.2.1 ee] at eq
    exact h.exti a e ha he ea ee hne eq
 ·have hsb:sumBut (putV V n l') m n=sumBut V m n:=by
   unfold sumBut
   congr 1
   refine List.map_congr_left fun k hk=>?_
   obtain ⟨i,i1,i2⟩:=List.mem_range'.1 hk
   by_cases e:k=n
   ·rw [if_neg (fun h=>h.1 e),if_neg (fun h=>h.1 e)]
   ·rw [hki k (by omega) (by omega) e]
    by_cases hz0:kindR V k=0
    ·rw [if_neg (fun h=>h.2 hz0),if_neg (fun h=>h.2 hz0)]
    ·rw [if_pos ⟨e,hz0⟩,if_pos ⟨e,hz0⟩]
     unfold cntT
     rw [ho k (by omega) (by omega) e,cntS_put hv h1 h2]
  rw [sumBut_split h1 h2,hsb,roomR_put hv h1 h2,putV_length,hkn,hg]
  have:=h.room
  by_cases e:l'.getD 0 0=0
  ·rw [if_neg (fun h=>h e)]
   have:=hz e
   omega
  ·rw [if_pos e]
   have hc:=(hp e).cnt
   have:cntT (putV V n l') m l'=cntT V m l':=by unfold cntT;rw [cntS_put hv h1 h2]
   omega
end
section
variable {V W ys:List ByteArray} {m n k c:Nat} {l l':List Nat}
theorem at_same (h:∀ i,3≤i→i<11→l'.getD i 0=l.getD i 0) (s:Nat):atX V m l' s=atX V m l s:=by
 have:rawX V m l' s=rawX V m l s:=by
  unfold rawX
  by_cases h6:s<6
  ·rw [if_pos h6,if_pos h6,h (4+s) (by omega) (by omega)]
  ·rw [if_neg h6,if_neg h6,h 10 (by omega) (by omega)]
 unfold atX
 rw [this]
theorem slot_same (h:∀ i,3≤i→i<11→l'.getD i 0=l.getD i 0) (s:Nat):slotX V m l' s=slotX V m l s:=by
 unfold slotX
 rw [at_same h,h 10 (by omega) (by omega)]
theorem byte_same (h:∀ i,3≤i→i<11→l'.getD i 0=l.getD i 0) (i:Nat):byteX V m l' i=byteX V m l i:=by
 unfold byteX
 rw [at_same h]
theorem size_same (h:∀ i,3≤i→i<11→l'.getD i 0=l.getD i 0):sizeX l'=sizeX l:=by unfold sizeX;rw [h 3 (Nat.le_refl _) (by omega)]
theorem cntS_same (h:∀ i,3≤i→i<11→l'.getD i 0=l.getD i 0):cntS V m l'=cntS V m l:=cntS_congr fun s _=>slot_same h s
theorem good_same (g:GoodT V m l) (hf:FitN l') (h:∀ i,3≤i→i<11→l'.getD i 0=l.getD i 0):GoodT V m l':=by
 refine ⟨⟨g.ok.vol,rfl,hf⟩,⟨fun s hs h0=>?_,fun s t hs ht e h0=>?_,raw_same rfl g.own.raw (fun i a b=>.inl (h i (by omega) b)) (slot_same h 70) (fun _=>rfl)⟩,fun i a b=>?_,fun s a b=>?_,fun a=>?_⟩
 ·rw [slot_same h] at h0 ⊢; exact g.own.used s hs h0
 ·rw [slot_same h] at h0 e;rw [slot_same h] at e;exact g.own.inj s t hs ht e h0
 ·rw [size_same h] at a;rw [byte_same h];exact g.zero i a b
 ·rw [size_same h] at a;rw [at_same h];exact g.past s a b
 ·rw [size_same h];rw [slot_same h] at a;exact g.big a
theorem InvT.links (h:InvT V m) (hn:LiveT V m n) (hf:FitN l') (hk:l'.getD 0 0≠0) (he:∀ i,3≤i→l'.getD i 0=(getR V (n:Int)).getD i 0):PutsT V m n l' (putV V n l'):=by
 have hp:=h.pre hn.1 hn.2.1
 rw [if_pos hn.2.2] at hp
 have hx:extL l'=extL (getR V (n:Int)):=he 11 (by omega)
 have he:=fun i (h1:3≤i) (_:i<11)=>he i h1
 refine hp.put hf (fun _=>⟨good_same (h.good n hn) hf he,fun k hk hne s t hs ht e=>?_,fun h0=>?_,fun k hk hne h0 s hs=>?_,?_⟩) (fun e=>absurd e hk)
 ·rw [slot_same he] at e ⊢
  exact h.apart n k hn hk (fun e=>hne e.symm) s t hs ht e
 ·rw [hx] at h0 ⊢
  obtain ⟨a,b,c⟩:=h.ext n hn h0
  refine ⟨a,b,fun s hs=>by rw [slot_same he];exact c n hn s hs,fun k hk hne=>⟨fun e=>?_,c k hk⟩⟩
  have:=h.exti k n hk hn hne e
  exact h0 (e▸this)
 ·rw [slot_same he]
  exact (h.ext k hk h0).2.2 n hn s hs
 ·unfold cntT
  rw [cntS_same he,hx]
theorem newL_slot (xs:List ByteArray) (m kind owner s:Nat):slotX xs m (newL kind owner) s=0:=by
 have h10:(newL kind owner).getD 10 0=0:=rfl
 have h70:slotX xs m (newL kind owner) 70=0:=by rw [slotX_ind,h10];split <;> rfl
 by_cases hs:s<70
 ·rw [slotX_lt hs]
  by_cases h6:s<6
  ·rw [at_low h6]
   have:(newL kind owner).getD (4+s) 0=0:=by
    have key:s=0∨s=1∨s=2∨s=3∨s=4∨s=5:=by omega
    rcases key with rfl | rfl | rfl | rfl | rfl | rfl <;> rfl
   rw [this];split <;> rfl
  ·exact at_hi0 (by omega) h70
 ·unfold slotX
  rw [if_neg hs,h10];split <;> rfl
theorem cnt_none (h:∀ s,slotX V m l s=0):cntS V m l=0:=by
 unfold cntS
 rw [List.filter_eq_nil_iff.2 (fun s _=>by rw [h s];simp)]
 rfl
theorem good_new {kind owner:Nat} (hv:IsVol V m) (h1:kind<256) (h2:owner<256):GoodT V m (newL kind owner):=by
 have h:=newL_slot V m kind owner
 refine ⟨⟨hv,rfl,newL_fit h1 h2⟩,⟨fun s _ h0=>absurd (h s) h0,fun s t _ _ _ h0=>absurd (h s) h0,fun i a b=>.inl (by
  have key:i=4∨i=5∨i=6∨i=7∨i=8∨i=9∨i=10:=by omega
  rcases key with rfl | rfl | rfl | rfl | rfl | rfl | rfl <;> rfl),fun h0=>absurd (h 70) h0⟩,fun i _ hi=>?_,fun s _ hs=>?_,fun h0=>absurd (h 70) h0⟩
 ·have:=h (i / 128)
  rw [slotX_lt (by omega)] at this
  unfold byteX
  rw [if_pos this]
 ·have:=h s
  rw [slotX_lt hs] at this;exact this
theorem InvT.new (h:InvT V m) {kind owner:Int} (he:(newO V kind owner).2.2=0):∃ n,1≤n∧n≤m∧kindR V n=0∧(kind=1∨kind=2)∧(newO V kind owner).2.1=(n:Int)∧(newO V kind owner).1=putV V n (newL kind.toNat owner.toNat)∧PutsT V m n (newL kind.toNat owner.toNat) (putV V n (newL kind.toNat owner.toNat)):=by
 unfold newO at he ⊢
 rw [ofR_some.2 h.vol] at he ⊢
 dsimp only at he ⊢
 by_cases hb:(kind≠1∧kind≠2)∨owner<0∨16≤owner
 ·rw [if_pos hb] at he;exact absurd (show (1:Int)=0 from he) (by decide)
 ·rw [if_neg hb] at he ⊢
  cases hf:freeI V m with
  | none=>rw [hf] at he;exact absurd (show (10:Int)=0 from he) (by decide)
  | some n=>
   obtain ⟨h1,h2,h3,_⟩:=freeI_some.1 hf
   have hk:kind.toNat<256:=by omega
   have hw:owner.toNat<256:=by omega
   have hp:=h.pre h1 h2
   rw [if_neg (fun e=>e h3)] at hp
   have hs:=newL_slot V m kind.toNat owner.toNat
   have hx:extL (newL kind.toNat owner.toNat)=0:=rfl
   refine ⟨n,h1,h2,h3,by omega,rfl,rfl,hp.put (newL_fit hk hw) (fun _=>⟨good_new h.vol hk hw,fun k _ _ s t _ _ _=>hs s,fun h0=>absurd hx h0,fun k hk2 hne h0 s hs2=>?_,?_⟩) (fun _=>rfl)⟩
   ·rw [hs s];exact fun e=>h0 e.symm
   ·unfold cntT
    rw [cnt_none hs,hx];rfl
end
section
variable {V W ys:List ByteArray} {m n k c b:Nat} {l l' kl:List Nat} {X:Nat→Prop}
structure KeepVT (V ys:List ByteArray) (m:Nat) (X:Nat→Prop):Prop where
 len:ys.length=V.length
 vol:IsVol ys m
 low:∀ j,j<dataN m→j≠2→3≤j→blkL ys j=blkL V j
 far:∀ j,datB V m j=true→bitV V j=true→¬ X j→blkL ys j=blkL V j∧bitV ys j=true
theorem KeepVT.slots (h:KeepVT V ys m X) (o:OwnS V m kl) (hx:∀ s,s<71→slotX V m kl s≠0→¬ X (slotX V m kl s)) :
  (∀ s,s<71→slotX ys m kl s=slotX V m kl s)∧OwnS ys m kl∧(∀ s,s<71→slotX V m kl s≠0→blkL ys (slotX V m kl s)=blkL V (slotX V m kl s)):=by
 have hb:∀ s,s<71→slotX V m kl s≠0→blkL ys (slotX V m kl s)=blkL V (slotX V m kl s)∧bitV ys (slotX V m kl s)=true:=fun s hs h0=>
  h.far _ (slotX_dat h0) (o.used s hs h0) (hx s hs h0)
 have hd:∀ j,datB ys m j=datB V m j:=fun j=>datB_len m j h.len
 have h70:slotX ys m kl 70=slotX V m kl 70:=by rw [slotX_ind,slotX_ind,hd]
 have hs:∀ s,s<71→slotX ys m kl s=slotX V m kl s:=by
  intro s hs
  by_cases e:s=70
  ·rw [e];exact h70
  ·rw [slotX_lt (by omega),slotX_lt (by omega)]
   by_cases h6:s<6
   ·rw [at_low h6,at_low h6,hd]
   ·by_cases h0:slotX V m kl 70=0
    ·rw [at_hi0 (by omega) h0,at_hi0 (by omega) (by rw [h70];exact h0)]
    ·rw [at_hi (by omega) h0,at_hi (by omega) (by rw [h70];exact h0),h70,(hb 70 (by omega) h0).1,hd]
 refine ⟨hs,⟨fun s h1 h0=>?_,fun s t h1 h2 e h0=>?_,raw_same h.len o.raw (fun _ _ _=>.inl rfl) h70 (fun h0=>(hb 70 (by omega) h0).1)⟩,fun s h1 h0=>(hb s h1 h0).1⟩
 ·rw [hs s h1] at h0 ⊢; exact (hb s h1 h0).2
 ·rw [hs s h1] at h0 e;rw [hs t h2] at e;exact o.inj s t h1 h2 e h0
theorem KeepVT.good (h:KeepVT V ys m X) (g:GoodT V m l) (hx:∀ s,s<71→slotX V m l s≠0→¬ X (slotX V m l s)) :
  GoodT ys m l∧(∀ s,s<71→slotX ys m l s=slotX V m l s)∧∀ i,i<8960→byteX ys m l i=byteX V m l i:=by
 obtain ⟨a,o,f⟩:=h.slots g.own hx
 have hat:∀ s,s<70→atX ys m l s=atX V m l s:=fun s hs=>by
  have:=a s (by omega)
  rw [slotX_lt hs,slotX_lt hs] at this;exact this
 have hby:∀ i,i<8960→byteX ys m l i=byteX V m l i:=fun i hi=>byte_of (fun s hs=>.inl ⟨hat s hs,fun hz=>by
  have:=f s (by omega) (by rw [slotX_lt hs];exact hz)
  rw [slotX_lt hs] at this;exact this⟩) hi
 refine ⟨⟨⟨h.vol,rfl,g.ok.fit⟩,o,fun i h1 h2=>?_,fun s h1 h2=>?_,fun h1=>?_⟩,a,hby⟩
 ·rw [hby i h2];exact g.zero i h1 h2
 ·rw [hat s h2];exact g.past s h1 h2
 ·rw [a 70 (by omega)] at h1;exact g.big h1
structure RestT (V ys:List ByteArray) (m n:Nat):Prop where
 rest:∀ k,1≤k→k≤m→getR ys (k:Int)=getR V (k:Int)
 kind:∀ k,1≤k→k≤m→kindR ys k=kindR V k
 live:∀ k,LiveT ys m k↔LiveT V m k
 byte:∀ k,LiveT V m k→k≠n→∀ i,i<8960→byteX ys m (getR V (k:Int)) i=byteX V m (getR V (k:Int)) i
 slot:∀ k,LiveT V m k→k≠n→∀ s,s<71→slotX ys m (getR V (k:Int)) s=slotX V m (getR V (k:Int)) s
 sum:sumBut ys m n=sumBut V m n
theorem PreT.keep (h:PreT V m n c) (hk:KeepVT V ys m X) (hX:∀ k,LiveT V m k→k≠n→(∀ s,s<71→slotX V m (getR V (k:Int)) s≠0→¬ X (slotX V m (getR V (k:Int)) s))∧(extL (getR V (k:Int))≠0→¬ X (extL (getR V (k:Int)))))
  {c':Nat} (hr:roomR ys+c'=roomR V+c):PreT ys m n c'∧RestT V ys m n:=by
 have hrest:∀ k,1≤k→k≤m→getR ys (k:Int)=getR V (k:Int):=fun k k1 k2=>by
  obtain ⟨b1,b2⟩:=blk_at k1 k2
  rw [getR_vol hk.vol k1 k2,getR_vol h.vol k1 k2,hk.low (blkN k) b2 (by omega) (by omega)]
 have hkind:∀ k,1≤k→k≤m→kindR ys k=kindR V k:=fun k k1 k2=>by
  rw [← kind_getT hk.vol k1 k2,← kind_getT h.vol k1 k2,hrest k k1 k2]
 have hli:∀ k,LiveT ys m k↔LiveT V m k:=fun k=>by
  unfold LiveT
  constructor
  ·rintro ⟨a,b,c⟩;exact ⟨a,b,by rw [← hkind k a b];exact c⟩
  ·rintro ⟨a,b,c⟩;exact ⟨a,b,by rw [hkind k a b];exact c⟩
 have hg:∀ k,LiveT V m k→k≠n→_:=fun k hl hne=>hk.good (h.good k hl hne) (hX k hl hne).1
 have hdl:∀ j,datB ys m j=datB V m j:=fun j=>datB_len m j hk.len
 have hsum:sumBut ys m n=sumBut V m n:=by
  unfold sumBut
  congr 1
  refine List.map_congr_left fun k hk2=>?_
  obtain ⟨i,i1,i2⟩:=List.mem_range'.1 hk2
  rw [hkind k (by omega) (by omega)]
  by_cases e:k≠n∧kindR V k≠0
  ·rw [if_pos e,if_pos e]
   unfold cntT
   rw [hrest k (by omega) (by omega),cntS_congr (hg k ⟨by omega,by omega,e.2⟩ e.1).2.1]
  ·rw [if_neg e,if_neg e]
 refine ⟨⟨hk.vol,h.one,h.most,fun k hl hne=>?_,fun j k hj hl jn kn hne=>?_,fun j hj jn h0=>?_,fun j k hj hl jn kn hne e=>?_,?_⟩,hrest,hkind,hli,fun k hl hne=>(hg k hl hne).2.2,fun k hl hne=>(hg k hl hne).2.1,hsum⟩
 ·have hl:=(hli k).1 hl
  rw [hrest k hl.1 hl.2.1]
  exact (hg k hl hne).1
 ·have hj:=(hli j).1 hj
  have hl:=(hli k).1 hl
  rw [hrest j hj.1 hj.2.1,hrest k hl.1 hl.2.1]
  intro s t hs ht e
  rw [(hg j hj jn).2.1 s hs,(hg k hl kn).2.1 t ht] at e
  rw [(hg j hj jn).2.1 s hs]
  exact h.apart j k hj hl jn kn hne s t hs ht e
 ·have hj:=(hli j).1 hj
  rw [hrest j hj.1 hj.2.1] at h0 ⊢
  obtain ⟨a,b,c⟩:=h.ext j hj jn h0
  refine ⟨by rw [hdl];exact a,(hk.far _ a b ((hX j hj jn).2 h0)).2,fun k hl kn s hs=>?_⟩
  have hl:=(hli k).1 hl
  rw [hrest k hl.1 hl.2.1,(hg k hl kn).2.1 s hs]
  exact c k hl kn s hs
 ·have hj:=(hli j).1 hj
  have hl:=(hli k).1 hl
  rw [hrest j hj.1 hj.2.1,hrest k hl.1 hl.2.1] at e
  rw [hrest j hj.1 hj.2.1]
  exact h.exti j k hj hl jn kn hne e
 ·rw [hsum,hk.len]
  have:=h.room
  omega
end
section
variable {V W ys:List ByteArray} {m n k c b:Nat} {l l':List Nat} {X:Nat→Prop} {s:ByteArray}
structure SameT (V W:List ByteArray) (m:Nat):Prop where
 inv:InvT W m
 len:W.length=V.length
 rest:∀ k,1≤k→k≤m→getR W (k:Int)=getR V (k:Int)
 live:∀ k,LiveT W m k↔LiveT V m k
 byte:∀ k,LiveT V m k→∀ i,i<8960→byteX W m (getR V (k:Int)) i=byteX V m (getR V (k:Int)) i
theorem InvT.keep (h:InvT V m) (hk:KeepVT V ys m X) (hX:∀ k,LiveT V m k→(∀ s,s<71→slotX V m (getR V (k:Int)) s≠0→¬ X (slotX V m (getR V (k:Int)) s)))
  (hE:∀ k,LiveT V m k→extL (getR V (k:Int))≠0→bitV ys (extL (getR V (k:Int)))=true) (hr:roomR ys=roomR V):SameT V ys m:=by
 have hrest:∀ k,1≤k→k≤m→getR ys (k:Int)=getR V (k:Int):=fun k k1 k2=>by
  obtain ⟨b1,b2⟩:=blk_at k1 k2
  rw [getR_vol hk.vol k1 k2,getR_vol h.vol k1 k2,hk.low (blkN k) b2 (by omega) (by omega)]
 have hkind:∀ k,1≤k→k≤m→kindR ys k=kindR V k:=fun k k1 k2=>by
  rw [← kind_getT hk.vol k1 k2,← kind_getT h.vol k1 k2,hrest k k1 k2]
 have hli:∀ k,LiveT ys m k↔LiveT V m k:=fun k=>by
  unfold LiveT
  constructor
  ·rintro ⟨a,b,c⟩;exact ⟨a,b,by rw [← hkind k a b];exact c⟩
  ·rintro ⟨a,b,c⟩;exact ⟨a,b,by rw [hkind k a b];exact c⟩
 have hg:∀ k,LiveT V m k→_:=fun k hl=>hk.good (h.good k hl) (hX k hl)
 have hdl:∀ j,datB ys m j=datB V m j:=fun j=>datB_len m j hk.len
 refine ⟨⟨hk.vol,fun k hl=>?_,fun j k hj hl hne=>?_,fun j hj h0=>?_,fun j k hj hl hne e=>?_,?_⟩,hk.len,hrest,hli,fun k hl=>(hg k hl).2.2⟩
 ·have hl:=(hli k).1 hl
  rw [hrest k hl.1 hl.2.1]
  exact (hg k hl).1
 ·have hj:=(hli j).1 hj
  have hl:=(hli k).1 hl
  rw [hrest j hj.1 hj.2.1,hrest k hl.1 hl.2.1]
  intro s t hs ht e
  rw [(hg j hj).2.1 s hs,(hg k hl).2.1 t ht] at e
  rw [(hg j hj).2.1 s hs]
  exact h.apart j k hj hl hne s t hs ht e
 ·have hj:=(hli j).1 hj
  rw [hrest j hj.1 hj.2.1] at h0 ⊢
  obtain ⟨a,b,c⟩:=h.ext j hj h0
  refine ⟨by rw [hdl];exact a,hE j hj h0,fun k hl s hs=>?_⟩
  have hl:=(hli k).1 hl
  rw [hrest k hl.1 hl.2.1,(hg k hl).2.1 s hs]
  exact c k hl s hs
 ·have hj:=(hli j).1 hj
  have hl:=(hli k).1 hl
  rw [hrest j hj.1 hj.2.1,hrest k hl.1 hl.2.1] at e
  rw [hrest j hj.1 hj.2.1]
  exact h.exti j k hj hl hne e
 ·have hal:allR ys m=allR V m:=allR_congr fun k k1 k2=>by rw [hkind k k1 k2]
  have:sumT ys m=sumT V m:=by
   unfold sumT
   rw [hal]
   congr 1
   refine List.map_congr_left fun k hk2=>?_
   have hl:=live_iff.2 hk2
   unfold cntT
   rw [hrest k hl.1 hl.2.1,cntS_congr (hg k hl).2.1]
  rw [this,hr,hk.len]
  exact h.room
theorem bitV_set (hb:3≤b) (hl:b<V.length) (j:Nat):bitV (V.set b s) j=bitV V j:=by
 unfold bitV
 rw [blkL_set _ _ _ _ hl,if_neg (by omega)]
theorem InvT.laid (h:InvT V m) (hn:LiveT V m n) (h0:extL (getR V (n:Int))≠0) (hs:s.size=128):SameT V (V.set (extL (getR V (n:Int))) s) m:=by
 obtain ⟨a,b,c⟩:=h.ext n hn h0
 have hd:=datB_iff.1 a
 have hl:=h.vol.len
 generalize he:extL (getR V (n:Int))=e at *
 have hv:IsVol (V.set e s) m:=h.vol.set (by omega) hs
 refine h.keep (X:=fun j=>j=e) ⟨by simp,hv,fun j h1 h2 h3=>?_,fun j h1 h2 h3=>⟨?_,?_⟩⟩ (fun k hk s hs _=>c k hk s hs) (fun k hk hk0=>?_) ?_
 ·rw [blkL_set _ _ _ _ hd.2,if_neg (by omega)]
 ·rw [blkL_set _ _ _ _ hd.2,if_neg (fun e2=>h3 e2.symm)]
 ·rw [bitV_set (by omega) hd.2];exact h2
 ·rw [bitV_set (by omega) hd.2];exact (h.ext k hk hk0).2.1
 ·exact room_bits h.vol hv (by simp) (by rw [blkL_set _ _ _ _ hd.2,if_neg (by omega)])
theorem one_blkT {p:Nat} {d:List UInt8} (h:IsVol V m) {i:Nat} (hi:i≠1):blkL (layX V 1 p d) i=blkL V i:=by
 have hl:=h.len
 rw [layX_blk 1 p d (by omega) i,if_neg (by omega)]
theorem one_vol {p:Nat} {d:List UInt8} (h:IsVol V m) (hp:p+d.length≤128):IsVol (layX V 1 p d) m:=by
 have hl:=h.len
 have hs:=h.size 1 (by omega)
 unfold layX
 refine ⟨fun t ht=>?_,by rw [List.length_set];exact h.2.1,?_,?_⟩
 ·rcases List.mem_or_eq_of_mem_set ht with a | a
  ·exact h.1 t a
  ·rw [a,layB_size _ _ _ (by rw [hs];exact hp),hs]
 ·rw [List.length_set,getD_set' _ _ _ _ (by omega),if_neg (by omega)];exact h.2.2.1
 ·rw [List.length_set,blkL_set _ _ _ _ (by omega),if_neg (by omega)];exact h.2.2.2
theorem InvT.limit (h:InvT V m) {p:Nat} {d:List UInt8} (hp:p+d.length≤128):SameT V (layX V 1 p d) m:=by
 have hl:=h.vol.len
 have hv:IsVol (layX V 1 p d) m:=one_vol h.vol hp
 have hb:∀ j,bitV (layX V 1 p d) j=bitV V j:=fun j=>by unfold bitV;rw [one_blkT h.vol (by omega)]
 refine h.keep (X:=fun _=>False) ⟨layX_length _ _ _ _,hv,fun j h1 h2 h3=>one_blkT h.vol (by omega),fun j h1 h2 h3=>⟨one_blkT h.vol (by have:=datB_pos h1;omega),by rw [hb];exact h2⟩⟩ (fun k hk s hs _ hx=>hx) (fun k hk hk0=>by rw [hb];exact (h.ext k hk hk0).2.1) ?_
 exact room_bits h.vol hv (layX_length _ _ _ _) (one_blkT h.vol (by omega))
theorem InvT.attr (h:InvT V m) (hn:LiveT V m n) (h0:extL (getR V (n:Int))=0) (hf:freeR V m=some b) (hb:b<65536) :
  PutsT (takeV V b) m n ((getR V (n:Int)).set 11 b) (putV (takeV V b) n ((getR V (n:Int)).set 11 b))∧RestT V (takeV V b) m n:=by
 obtain ⟨f1,f2,f3,f4,f5⟩:=free_facts h.vol hf
 have hl:=h.vol.len
 have hvt:IsVol (takeV V b) m:=h.vol.take f1 f2
 have hbit:∀ j,bitV (takeV V b) j=(bitV V j || decide (j=b)):=fun j=>bit_take h.vol hf
 have hblk:∀ j,j≠2→j≠b→blkL (takeV V b) j=blkL V j:=fun j h1 h2=>by
  unfold takeV turnV
  rw [blkL_set _ _ _ _ (by rw [List.length_set];exact f2),if_neg (fun e=>h2 e.symm),blkL_set _ _ _ _ (by omega),if_neg (fun e=>h1 e.symm)]
 have hnb:∀ j,bitV V j=true→j≠b:=fun j hj e=>by rw [e,f3] at hj;cases hj
 have hk:KeepVT V (takeV V b) m (fun _=>False):=by
  refine ⟨takeV_length _ _,hvt,fun j h1 h2 h3=>hblk j h2 (by omega),fun j h1 h2 h3=>⟨hblk j (by have:=datB_iff.1 h1;omega) (hnb j h2),by rw [hbit,h2];rfl⟩⟩
 have hpre:=h.pre hn.1 hn.2.1
 rw [if_pos hn.2.2] at hpre
 have hrm:=room_take h.vol hf
 obtain ⟨p1,p2⟩:=hpre.keep hk (fun k _ _=>⟨fun s _ _ hx=>hx,fun _ hx=>hx⟩) (c':=cntT V m (getR V (n:Int))+1) (by omega)
 obtain ⟨g1,g2,g3⟩:=hk.good (h.good n hn) (fun s _ _ hx=>hx)
 have hl12:(getR V (n:Int)).length=12:=(h.good n hn).ok.fit.1
 have hsame:∀ i,3≤i→i<11→((getR V (n:Int)).set 11 b).getD i 0=(getR V (n:Int)).getD i 0:=fun i h1 h2=>getD_set_ne _ _ _ _ (by omega)
 have hext:extL ((getR V (n:Int)).set 11 b)=b:=by
  unfold extL
  rw [List.getD_eq_getElem?_getD,List.getElem?_set_self (by omega)];rfl
 have hfit:FitN ((getR V (n:Int)).set 11 b):=fit_set11 (h.good n hn).ok.fit hb
 have hslot:∀ s,s<71→slotX (takeV V b) m ((getR V (n:Int)).set 11 b) s=slotX V m (getR V (n:Int)) s:=fun s hs=>by rw [slot_same hsame,g2 s hs]
 have hfree:∀ k,LiveT V m k→∀ s,s<71→slotX V m (getR V (k:Int)) s≠b:=fun k hk s hs e=>by
  have h1:slotX V m (getR V (k:Int)) s≠0:=by rw [e];omega
  exact hnb _ ((h.good k hk).own.used s hs h1) e
 refine ⟨p1.put hfit (fun _=>⟨good_same g1 hfit hsame,fun k hk hne s t hs ht e=>?_,fun _=>⟨?_,?_,?_,?_⟩,fun k hk hne hk0 s hs=>?_,?_⟩) (fun e=>?_),p2⟩
 ·have hk:=(p2.live k).1 hk
  rw [hslot s hs,p2.rest k hk.1 hk.2.1,p2.slot k hk hne t ht] at e
  rw [hslot s hs]
  exact h.apart n k hn hk (fun e=>hne e.symm) s t hs ht e
 ·rw [hext,datB_len m b (takeV_length _ _)];exact f4
 ·rw [hext,hbit];simp
 ·intro s hs
  rw [hext,hslot s hs]
  exact hfree n hn s hs
 ·intro k hk hne
  have hk:=(p2.live k).1 hk
  rw [hext,p2.rest k hk.1 hk.2.1]
  refine ⟨fun e=>?_,fun s hs=>by rw [p2.slot k hk hne s hs];exact hfree k hk s hs⟩
  have h1:extL (getR V (k:Int))≠0:=by rw [e];omega
  exact hnb _ (h.ext k hk h1).2.1 e
 ·have hk:=(p2.live k).1 hk
  rw [p2.rest k hk.1 hk.2.1] at hk0 ⊢
  rw [hslot s hs]
  exact (h.ext k hk hk0).2.2 n hn s hs
 ·unfold cntT
  rw [hext,h0,if_neg (by simp),if_pos (show b≠0 by omega),cntS_congr hslot]
 ·rw [getD_set_ne _ _ _ _ (by omega),kind_getT h.vol hn.1 hn.2.1] at e
  exact absurd e hn.2.2
 where
 fit_set11 {l:List Nat} (h:FitN l) (hb:b<65536):FitN (l.set 11 b):=h.set 11 hb
theorem InvT.gone (h:InvT V m) (hn:LiveT V m n) (hs:∀ s,s<71→slotX V m (getR V (n:Int)) s=0) :
  (extL (getR V (n:Int))=0→PutsT V m n (List.replicate 12 0) (putV V n (List.replicate 12 0))) ∧
  (extL (getR V (n:Int))≠0→dataN m≤extL (getR V (n:Int))∧extL (getR V (n:Int))<V.length∧bitL (blkL V 2) (extL (getR V (n:Int)))=true∧PutsT (turnV V (extL (getR V (n:Int)))) m n (List.replicate 12 0) (putV (turnV V (extL (getR V (n:Int)))) n (List.replicate 12 0))∧RestT V (turnV V (extL (getR V (n:Int)))) m n):=by
 have hpre:=h.pre hn.1 hn.2.1
 rw [if_pos hn.2.2] at hpre
 have hc:cntS V m (getR V (n:Int))=0:=by
  unfold cntS
  rw [List.filter_eq_nil_iff.2 (fun s h1=>by rw [hs s (List.mem_range.1 h1)];simp)]
  rfl
 have hz:(List.replicate 12 0:List Nat).getD 0 0=0:=rfl
 refine ⟨fun h0=>?_,fun h0=>?_⟩
 ·have:cntT V m (getR V (n:Int))=0:=by unfold cntT;rw [hc,if_neg (fun e=>e h0)]
  rw [this] at hpre
  exact hpre.put fit_zero (fun e=>absurd hz e) (fun _=>rfl)
 ·obtain ⟨a,b',c'⟩:=h.ext n hn h0
  have hd:=datB_iff.1 a
  have hl:=h.vol.len
  have h1c:cntT V m (getR V (n:Int))=1:=by unfold cntT;rw [hc,if_pos h0]
  rw [h1c] at hpre
  refine ⟨hd.1,hd.2,b',?_⟩
  generalize he:extL (getR V (n:Int))=e at *
  have hvt:IsVol (turnV V e) m:=h.vol.turn hd.1 hd.2
  have hbit:∀ j,bitV (turnV V e) j=(bitV V j != decide (e=j)):=fun j=>by
   unfold bitV
   rw [turnV_map (by omega),bitL_turn _ _ _ (by rw [h.vol.blk 2 (by omega)];omega)]
  have hblk:∀ j,j≠2→blkL (turnV V e) j=blkL V j:=fun j h1=>by
   unfold turnV
   rw [blkL_set _ _ _ _ (by omega),if_neg (fun e=>h1 e.symm)]
  have hk:KeepVT V (turnV V e) m (fun j=>j=e):=⟨turnV_length _ _,hvt,fun j h1 h2 h3=>hblk j h2,fun j h1 h2 h3=>⟨hblk j (by have:=datB_iff.1 h1;omega),by rw [hbit,h2,decide_eq_false (fun e2=>h3 e2.symm)];rfl⟩⟩
  have hne2:∀ k,LiveT V m k→k≠n→extL (getR V (k:Int))≠e:=fun k hk2 hne e2=>by
   have:=h.exti n k hn hk2 (fun e=>hne e.symm) (by rw [he,e2])
   rw [he] at this
   exact h0 this
  obtain ⟨p1,p2⟩:=hpre.keep hk (fun k hk2 hne=>⟨fun s hs2 _=>c' k hk2 s hs2,fun _=>hne2 k hk2 hne⟩) (c':=0) (by rw [room_give h.vol hd.1 hd.2 b'])
  exact ⟨p1.put fit_zero (fun e=>absurd hz e) (fun _=>rfl),p2⟩
 where
 fit_zero:FitN (List.replicate 12 0):=by
  refine ⟨rfl,fun i=>?_⟩
  rw [List.getD_eq_getElem?_getD,List.getElem?_replicate]
  split
  ·exact Nat.pow_pos (by decide)
  ·exact Nat.pow_pos (by decide)
end
end Go.Proofs.YtdldlendppkknaaGreatDoor
