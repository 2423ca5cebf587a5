/-
  Contracts and plain laws: ExtSnd.
-/
import Derived.Test.YtdldlendppkknaaGreatDoorPackV07
namespace Go.Proofs.YtdldlendppkknaaGreatDoor
set_option linter.unusedVariables false
set_option linter.unusedSimpArgs false
def bitV (xs:List ByteArray) (b:Nat):Bool:=bitL (blkL xs 2) b
def slotX (xs:List ByteArray) (m:Nat) (l:List Nat) (s:Nat):Nat:=if s<70 then atX xs m l s else if datB xs m (l.getD 10 0)=true then l.getD 10 0 else 0
def cntS (xs:List ByteArray) (m:Nat) (l:List Nat):Nat:=((List.range 71).filter fun s=>slotX xs m l s != 0).length
def ZeroD (xs:List ByteArray) (m v:Nat):Prop:=v=0∨datB xs m v=true
def RawS (xs:List ByteArray) (m:Nat) (l:List Nat):Prop:=(∀ i,4≤i→i<11→ZeroD xs m (l.getD i 0))∧(slotX xs m l 70≠0→∀ k,k<64→ZeroD xs m (numAt (blkL xs (slotX xs m l 70)) (2 * k) 2))
theorem raw_by {xs ys:List ByteArray} {m:Nat} {l l':List Nat} (hl:ys.length=xs.length) (r:RawS xs m l) (hn:∀ i,4≤i→i<11→l'.getD i 0=l.getD i 0∨ZeroD xs m (l'.getD i 0))
  (hb:slotX ys m l' 70≠0→∀ k,k<64→(slotX xs m l 70≠0∧numAt (blkL ys (slotX ys m l' 70)) (2 * k) 2=numAt (blkL xs (slotX xs m l 70)) (2 * k) 2)∨ZeroD xs m (numAt (blkL ys (slotX ys m l' 70)) (2 * k) 2)):RawS ys m l':=by
 have hd:∀ j,ZeroD xs m j→ZeroD ys m j:=fun j h=>by unfold ZeroD at h ⊢; rw [datB_len m j hl];exact h
 refine ⟨fun i h1 h2=>hd _ ?_,fun h0 k hk=>hd _ ?_⟩
 ·rcases hn i h1 h2 with e | e
  ·rw [e];exact r.1 i h1 h2
  ·exact e
 ·rcases hb h0 k hk with ⟨h1,e⟩ | e
  ·rw [e];exact r.2 h1 k hk
  ·exact e
theorem raw_same {xs ys:List ByteArray} {m:Nat} {l l':List Nat} (hl:ys.length=xs.length) (r:RawS xs m l) (hn:∀ i,4≤i→i<11→l'.getD i 0=l.getD i 0∨ZeroD xs m (l'.getD i 0))
  (h7:slotX ys m l' 70=slotX xs m l 70) (hb:slotX xs m l 70≠0→blkL ys (slotX xs m l 70)=blkL xs (slotX xs m l 70)):RawS ys m l':=
 raw_by hl r hn fun h0 k hk=>by
  rw [h7] at h0 ⊢
  exact .inl ⟨h0,by rw [hb h0]⟩
structure OwnS (xs:List ByteArray) (m:Nat) (l:List Nat):Prop where
 used:∀ s,s<71→slotX xs m l s≠0→bitV xs (slotX xs m l s)=true
 inj:∀ s t,s<71→t<71→slotX xs m l s=slotX xs m l t→slotX xs m l s≠0→s=t
 raw:RawS xs m l
def ApartS (xs:List ByteArray) (m:Nat) (l k:List Nat):Prop:=∀ s t,s<71→t<71→slotX xs m l s=slotX xs m k t→slotX xs m l s=0
structure MvS (m:Nat) (xs:List ByteArray) (l:List Nat) (ys:List ByteArray) (l':List Nat):Prop where
 len:ys.length=xs.length
 vol:IsVol ys m
 low:∀ j,j<dataN m→j≠2→blkL ys j=blkL xs j
 far:∀ j,datB xs m j=true→bitV xs j=true→(∀ s,s<71→slotX xs m l s≠j)→blkL ys j=blkL xs j∧bitV ys j=true
 own:OwnS ys m l'
 src:∀ s,s<71→slotX ys m l' s≠0→(∃ t,t<71∧slotX xs m l t=slotX ys m l' s)∨bitV xs (slotX ys m l' s)=false
 room:roomR xs+cntS xs m l=roomR ys+cntS ys m l'
 keep:∀ i,i<3∨i=11→l'.getD i 0=l.getD i 0
section
variable {xs ys zs:List ByteArray} {m:Nat} {l l' l'' k:List Nat} {s s0 b:Nat}
theorem slotX_lt (h:s<70):slotX xs m l s=atX xs m l s:=by unfold slotX;rw [if_pos h]
theorem slotX_ind:slotX xs m l 70=if datB xs m (l.getD 10 0)=true then l.getD 10 0 else 0:=by unfold slotX;rw [if_neg (by omega)]
theorem slotX_dat (h:slotX xs m l s≠0):datB xs m (slotX xs m l s)=true:=by
 unfold slotX at h ⊢
 split at h
 ·rename_i h1
  rw [if_pos h1];exact atX_dat h
 ·rename_i h1
  rw [if_neg h1]
  split at h
  ·rename_i h2;rw [if_pos h2];exact h2
  ·exact absurd rfl h
theorem slot_ind_ne (h:slotX xs m l 70≠0):datB xs m (l.getD 10 0)=true∧slotX xs m l 70=l.getD 10 0:=by
 rw [slotX_ind] at h ⊢
 split at h
 ·rename_i h2;exact ⟨h2,by rw [if_pos h2]⟩
 ·exact absurd rfl h
theorem datB_ind_iff:datB xs m (l.getD 10 0)=true↔slotX xs m l 70≠0:=by
 constructor
 ·intro h;rw [slotX_ind,if_pos h];have:=datB_pos h;omega
 ·exact fun h=>(slot_ind_ne h).1
theorem at_low (h:s<6):atX xs m l s=if datB xs m (l.getD (4+s) 0)=true then l.getD (4+s) 0 else 0:=by
 unfold atX rawX
 rw [if_pos h]
theorem at_hi0 (h:6≤s) (h0:slotX xs m l 70=0):atX xs m l s=0:=by
 have:¬ datB xs m (l.getD 10 0)=true:=fun e=>datB_ind_iff.1 e h0
 have e:rawX xs m l s=0:=by
  unfold rawX
  rw [if_neg (by omega),if_neg this]
 unfold atX
 rw [e,datB_zero]
 rfl
theorem at_hi (h:6≤s) (h0:slotX xs m l 70≠0):atX xs m l s=if datB xs m (numAt (blkL xs (slotX xs m l 70)) (2 * (s-6)) 2)=true then numAt (blkL xs (slotX xs m l 70)) (2 * (s-6)) 2 else 0:=by
 obtain ⟨h1,h2⟩:=slot_ind_ne h0
 rw [h2]
 have e:rawX xs m l s=numAt (blkL xs (l.getD 10 0)) (2 * (s-6)) 2:=by
  unfold rawX
  rw [if_neg (by omega),if_pos h1]
 unfold atX
 rw [e]
theorem MvS.other (h:MvS m xs l ys l') (o:OwnS xs m k) (ap:ApartS xs m l k) :
  (∀ s,s<71→slotX ys m k s=slotX xs m k s)∧OwnS ys m k∧ApartS ys m l' k∧(∀ s,s<71→slotX xs m k s≠0→blkL ys (slotX xs m k s)=blkL xs (slotX xs m k s)):=by
 have hb:∀ s,s<71→slotX xs m k s≠0→blkL ys (slotX xs m k s)=blkL xs (slotX xs m k s)∧bitV ys (slotX xs m k s)=true:=fun s hs h0=>
  h.far _ (slotX_dat h0) (o.used s hs h0) (fun t ht e=>h0 (by rw [← e];exact ap t s ht hs e))
 have hd:∀ j,datB ys m j=datB xs m j:=fun j=>datB_len m j h.len
 have h70:slotX ys m k 70=slotX xs m k 70:=by rw [slotX_ind,slotX_ind,hd]
 have hs:∀ s,s<71→slotX ys m k s=slotX xs m k s:=by
  intro s hs
  by_cases e:s=70
  ·rw [e];exact h70
  ·rw [slotX_lt (by omega),slotX_lt (by omega)]
   by_cases h6:s<6
   ·rw [at_low h6,at_low h6,hd]
   ·by_cases h0:slotX xs m k 70=0
    ·rw [at_hi0 (by omega) h0,at_hi0 (by omega) (by rw [h70];exact h0)]
    ·rw [at_hi (by omega) h0,at_hi (by omega) (by rw [h70];exact h0),h70,(hb 70 (by omega) h0).1,hd]
 refine ⟨hs,⟨fun s h1 h0=>?_,fun s t h1 h2 e h0=>?_,raw_same h.len o.raw (fun _ _ _=>.inl rfl) h70 (fun h0=>(hb 70 (by omega) h0).1)⟩,fun s t h1 h2 e=>?_,fun s h1 h0=>(hb s h1 h0).1⟩
 ·rw [hs s h1] at h0 ⊢; exact (hb s h1 h0).2
 ·rw [hs s h1] at h0 e;rw [hs t h2] at e;exact o.inj s t h1 h2 e h0
 ·rw [hs t h2] at e
  by_cases h0:slotX ys m l' s=0
  ·exact h0
  ·exfalso
   rcases h.src s h1 h0 with ⟨u,hu,eu⟩ | hf
   ·have:=ap u t hu h2 (eu.trans e)
    rw [eu] at this;exact h0 this
   ·rw [e] at hf h0
    rw [o.used t h2 h0] at hf;cases hf
theorem MvS.trans (h:MvS m xs l ys l') (g:MvS m ys l' zs l''):MvS m xs l zs l'':=by
 have hd:∀ j,datB ys m j=datB xs m j:=fun j=>datB_len m j h.len
 have hd2:∀ j,datB zs m j=datB xs m j:=fun j=>datB_len m j (g.len.trans h.len)
 have key:∀ j,datB xs m j=true→bitV xs j=true→(∀ s,s<71→slotX xs m l s≠j)→(∀ s,s<71→slotX ys m l' s≠j):=by
  intro j h1 h2 h3 s hs e
  have h0:slotX ys m l' s≠0:=by rw [e];have:=datB_pos h1;omega
  rcases h.src s hs h0 with ⟨t,ht,et⟩ | hf
  ·exact h3 t ht (et.trans e)
  ·rw [e,h2] at hf;cases hf
 refine ⟨g.len.trans h.len,g.vol,fun j h1 h2=>(g.low j h1 h2).trans (h.low j h1 h2),fun j h1 h2 h3=>?_,g.own,fun s hs h0=>?_,h.room.trans g.room,fun i hi=>(g.keep i hi).trans (h.keep i hi)⟩
 ·obtain ⟨a,b⟩:=h.far j h1 h2 h3
  obtain ⟨c,d⟩:=g.far j ((hd j).trans h1) b (key j h1 h2 h3)
  exact ⟨c.trans a,d⟩
 ·have h0d:datB xs m (slotX zs m l'' s)=true:=by rw [← hd2];exact slotX_dat h0
  rcases g.src s hs h0 with ⟨t,ht,et⟩ | hf
  ·rw [← et] at h0 ⊢
   exact h.src t ht h0
  ·by_cases hs2:∃ t,t<71∧slotX xs m l t=slotX zs m l'' s
   ·exact .inl hs2
   ·refine .inr ?_
    cases hb:bitV xs (slotX zs m l'' s) with
    | false=>rfl
    | true=>
     have:=(h.far _ h0d hb (fun t ht e=>hs2 ⟨t,ht,e⟩)).2
     rw [this] at hf;cases hf
theorem filt_upd (p q:Nat→Bool) (s0:Nat) (hp:p s0=false) (hq:q s0=true):∀ n,s0<n→(∀ s,s<n→s≠s0→q s=p s)→((List.range n).filter q).length=((List.range n).filter p).length+1
 | 0,h,_=>absurd h (by omega)
 | n+1,h,hs=>by
  rw [List.range_succ,List.filter_append,List.filter_append,List.length_append,List.length_append]
  by_cases e:s0=n
  ·subst e
   have:(List.range s0).filter q=(List.range s0).filter p:=List.filter_congr (fun s hm=>by
    have:=List.mem_range.1 hm
    exact hs s (by omega) (by omega))
   rw [this]
   simp [hp,hq]
  ·have e2:¬ n=s0:=fun h=>e h.symm
   rw [filt_upd p q s0 hp hq n (by omega) (fun s h1 h2=>hs s (by omega) h2)]
   have:=hs n (by omega) e2
   simp only [List.filter_cons,List.filter_nil,this]
   omega
theorem cntS_congr (h:∀ s,s<71→slotX ys m l' s=slotX xs m l s):cntS ys m l'=cntS xs m l:=by
 unfold cntS
 congr 1
 exact List.filter_congr (fun s hm=>by rw [h s (List.mem_range.1 hm)])
theorem cntS_up (hs0:s0<71) (h0:slotX xs m l s0=0) (h1:slotX ys m l' s0≠0) (h:∀ s,s<71→s≠s0→slotX ys m l' s=slotX xs m l s):cntS ys m l'=cntS xs m l+1:=by
 unfold cntS
 refine filt_upd _ _ s0 (by simp [h0]) (by simpa using h1) 71 hs0 (fun s a b=>by rw [h s a b])
theorem room_bits (hv:IsVol xs m) (hv':IsVol ys m) (hl:ys.length=xs.length) (h2:blkL ys 2=blkL xs 2):roomR ys=roomR xs:=by rw [room_vol hv,room_vol hv',hl,h2]
theorem MvS.take (hv:IsVol xs m) (o:OwnS xs m l) (hf:freeR xs m=some b) (hs0:s0<71) (h0:slotX xs m l s0=0) (hl:ys.length=xs.length) (hv':IsVol ys m)
  (h2:blkL ys 2=blkL (takeV xs b) 2) (hs:∀ s,s<71→slotX ys m l' s=if s=s0 then b else slotX xs m l s)
  (hblk:∀ j,j≠2→j≠b→(datB xs m j=true→∀ s,s<71→slotX xs m l s≠j)→blkL ys j=blkL xs j) (hk:∀ i,i<3∨i=11→l'.getD i 0=l.getD i 0) (hr:RawS ys m l'):MvS m xs l ys l':=by
 have hlen:=hv.len
 obtain ⟨f1,f2,f3,f4⟩:=(freeR_some (by omega)).1 hf
 have hbit:∀ j,bitV ys j=(bitV xs j || decide (j=b)):=fun j=>by unfold bitV;rw [h2];exact bit_take hv hf
 have hb0:b≠0:=by omega
 have hnb:∀ s,s<71→slotX xs m l s≠b:=fun s h1 e=>by
  have:=o.used s h1 (by rw [e];exact hb0)
  rw [e] at this;unfold bitV at this;rw [f3] at this;cases this
 refine ⟨hl,hv',fun j h1 h2=>?_,fun j h1 h2 h3=>?_,⟨fun s h1 hz=>?_,fun s t h1 h2 e hz=>?_,hr⟩,fun s h1 hz=>?_,?_,hk⟩
 ·refine hblk j h2 (by omega) (fun hd=>?_)
  have:=(datB_iff.1 hd).1;omega
 ·have hjb:j≠b:=fun e=>by rw [e] at h2;unfold bitV at h2;rw [f3] at h2;cases h2
  have:=datB_pos h1
  exact ⟨hblk j (by omega) hjb (fun _=>h3),by rw [hbit,h2];rfl⟩
 ·rw [hs s h1] at hz ⊢
  rw [hbit]
  by_cases e:s=s0
  ·rw [if_pos e];simp
  ·rw [if_neg e] at hz ⊢; rw [o.used s h1 hz];rfl
 ·rw [hs s h1] at e hz;rw [hs t h2] at e
  by_cases e1:s=s0
  ·rw [if_pos e1] at e
   by_cases e2:t=s0
   ·rw [e1,e2]
   ·rw [if_neg e2] at e;exact absurd e.symm (hnb t h2)
  ·rw [if_neg e1] at e hz
   by_cases e2:t=s0
   ·rw [if_pos e2] at e;exact absurd e (hnb s h1)
   ·rw [if_neg e2] at e;exact o.inj s t h1 h2 e hz
 ·rw [hs s h1] at hz ⊢
  by_cases e:s=s0
  ·rw [if_pos e];exact .inr (by unfold bitV;exact f3)
  ·rw [if_neg e];exact .inl ⟨s,h1,rfl⟩
 ·have e1:cntS ys m l'=cntS xs m l+1:=cntS_up hs0 h0 (by rw [hs s0 hs0,if_pos rfl];exact hb0) (fun s a c=>by rw [hs s a,if_neg c])
  have e2:roomR ys=roomR (takeV xs b):=room_bits (hv.take f1 f2) hv' (by rw [hl,takeV_length]) h2
  have:=room_take hv hf
  omega
theorem MvS.give (hv:IsVol xs m) (o:OwnS xs m l) (hs0:s0<71) (hz0:slotX xs m l s0=b) (hb0:b≠0) (hl:ys.length=xs.length) (hv':IsVol ys m)
  (h2:blkL ys 2=blkL (turnV xs b) 2) (hs:∀ s,s<71→slotX ys m l' s=if s=s0 then 0 else slotX xs m l s)
  (hblk:∀ j,j≠2→(datB xs m j=true→∀ s,s<71→slotX xs m l s≠j)→blkL ys j=blkL xs j) (hk:∀ i,i<3∨i=11→l'.getD i 0=l.getD i 0) (hr:RawS ys m l'):MvS m xs l ys l':=by
 have hlen:=hv.len
 have hbd:datB xs m b=true:=by rw [← hz0];exact slotX_dat (by rw [hz0];exact hb0)
 have hbt:bitV xs b=true:=by rw [← hz0];exact o.used s0 hs0 (by rw [hz0];exact hb0)
 obtain ⟨d1,d2⟩:=datB_iff.1 hbd
 have hbit:∀ j,bitV ys j=(bitV xs j != decide (b=j)):=fun j=>by
  unfold bitV
  rw [h2,turnV_map (by omega),bitL_turn _ _ _ (by rw [hv.blk 2 (by omega)];omega)]
 have hne:∀ s,s<71→s≠s0→slotX xs m l s≠0→slotX xs m l s≠b:=fun s h1 hn hz e=>hn (o.inj s s0 h1 hs0 (e.trans hz0.symm) hz)
 refine ⟨hl,hv',fun j h1 h2=>?_,fun j h1 h2 h3=>?_,⟨fun s h1 hz=>?_,fun s t h1 h2 e hz=>?_,hr⟩,fun s h1 hz=>?_,?_,hk⟩
 ·refine hblk j h2 (fun hd=>?_)
  have:=(datB_iff.1 hd).1;omega
 ·have hjb:b≠j:=fun e=>h3 s0 hs0 (hz0.trans e)
  have:=datB_pos h1
  exact ⟨hblk j (by omega) (fun _=>h3),by rw [hbit,h2];simp [hjb]⟩
 ·rw [hs s h1] at hz ⊢
  by_cases e:s=s0
  ·rw [if_pos e] at hz;exact absurd rfl hz
  ·rw [if_neg e] at hz ⊢
   rw [hbit,o.used s h1 hz]
   have:=hne s h1 e hz
   simp [Ne.symm this]
 ·rw [hs s h1] at e hz;rw [hs t h2] at e
  by_cases e1:s=s0
  ·rw [if_pos e1] at hz;exact absurd rfl hz
  ·rw [if_neg e1] at e hz
   by_cases e2:t=s0
   ·rw [if_pos e2] at e;exact absurd e hz
   ·rw [if_neg e2] at e;exact o.inj s t h1 h2 e hz
 ·rw [hs s h1] at hz ⊢
  by_cases e:s=s0
  ·rw [if_pos e] at hz;exact absurd rfl hz
  ·rw [if_neg e];exact .inl ⟨s,h1,rfl⟩
 ·have e1:cntS xs m l=cntS ys m l'+1:=cntS_up hs0 (by rw [hs s0 hs0,if_pos rfl]) (by rw [hz0];exact hb0) (fun s a c=>by rw [hs s a,if_neg c])
  have e2:roomR ys=roomR (turnV xs b):=room_bits (hv.turn d1 d2) hv' (by rw [hl,turnV_length]) h2
  have:=room_give hv d1 d2 hbt
  omega
theorem MvS.stay (hv:IsVol xs m) (o:OwnS xs m l) (hl:ys.length=xs.length) (hv':IsVol ys m) (h2:blkL ys 2=blkL xs 2) (hs:∀ s,s<71→slotX ys m l' s=slotX xs m l s)
  (hblk:∀ j,j≠2→(datB xs m j=true→∀ s,s<71→slotX xs m l s≠j)→blkL ys j=blkL xs j) (hk:∀ i,i<3∨i=11→l'.getD i 0=l.getD i 0) (hr:RawS ys m l'):MvS m xs l ys l':=by
 have hbit:∀ j,bitV ys j=bitV xs j:=fun j=>by unfold bitV;rw [h2]
 refine ⟨hl,hv',fun j h1 h2=>?_,fun j h1 h2 h3=>?_,⟨fun s h1 hz=>?_,fun s t h1 h2 e hz=>?_,hr⟩,fun s h1 hz=>?_,?_,hk⟩
 ·refine hblk j h2 (fun hd=>?_)
  have:=(datB_iff.1 hd).1;omega
 ·have:=datB_pos h1
  exact ⟨hblk j (by omega) (fun _=>h3),by rw [hbit,h2]⟩
 ·rw [hs s h1] at hz ⊢; rw [hbit];exact o.used s h1 hz
 ·rw [hs s h1] at e hz;rw [hs t h2] at e;exact o.inj s t h1 h2 e hz
 ·rw [hs s h1];exact .inl ⟨s,h1,rfl⟩
 ·rw [cntS_congr hs,room_bits hv hv' hl h2]
theorem MvS.refl (hv:IsVol xs m) (o:OwnS xs m l):MvS m xs l xs l:=.stay hv o rfl hv rfl (fun _ _=>rfl) (fun _ _ _=>rfl) (fun _ _=>rfl) o.raw
end
section
variable {xs ys zs:List ByteArray} {m len:Nat} {l l' l'':List Nat} {s s0 b k:Nat}
theorem blkL_set_ne (xs:List ByteArray) (i j:Nat) (t:ByteArray) (h:i≠j):blkL (xs.set i t) j=blkL xs j:=by
 unfold blkL
 rw [List.getD_eq_getElem?_getD,List.getElem?_set_ne h,← List.getD_eq_getElem?_getD]
theorem turnV_blk (xs:List ByteArray) (b j:Nat) (h:j≠2):blkL (turnV xs b) j=blkL xs j:=blkL_set_ne _ _ _ _ (Ne.symm h)
theorem takeV_blk (hb:b<xs.length) (j:Nat) (h:j≠2):blkL (takeV xs b) j=if j=b then List.replicate 128 0 else blkL xs j:=by
 unfold takeV
 rw [blkL_set _ _ _ _ (by rw [turnV_length];exact hb),turnV_blk _ _ _ h,zerosB_list]
 by_cases e:b=j
 ·rw [if_pos e,if_pos e.symm]
 ·rw [if_neg e,if_neg (fun h=>e h.symm)]
def splL (bs:List UInt8) (p:Nat) (d:List UInt8):List UInt8:=bs.take p++d++bs.drop (p+d.length)
theorem splL_get {bs:List UInt8} {p:Nat} {d:List UInt8} (h:p+d.length≤bs.length) (i:Nat):(splL bs p d)[i]?=if p≤i∧i<p+d.length then d[i-p]? else bs[i]?:=by
 unfold splL
 have e1:(bs.take p).length=p:=by rw [List.length_take];omega
 by_cases h1:i<p
 ·rw [if_neg (by omega),List.append_assoc,List.getElem?_append_left (by omega),List.getElem?_take,if_pos h1]
 ·by_cases h2:i<p+d.length
  ·rw [if_pos ⟨by omega,h2⟩,List.append_assoc,List.getElem?_append_right (by omega),List.getElem?_append_left (by omega),e1]
  ·rw [if_neg (by omega),List.getElem?_append_right (by rw [List.length_append];omega),List.length_append,e1,List.getElem?_drop]
   congr 1;omega
theorem splL_getD {bs:List UInt8} {p:Nat} {d:List UInt8} (h:p+d.length≤bs.length) (i:Nat):(splL bs p d).getD i 0=if p≤i∧i<p+d.length then d.getD (i-p) 0 else bs.getD i 0:=by
 simp only [List.getD_eq_getElem?_getD,splL_get h]
 split <;> rfl
theorem numAt_spl_same {bs:List UInt8} {p n:Nat} (h:p+2≤bs.length) (hn:n<65536):numAt (splL bs p (putL n 2)) p 2=n:=by
 have e:((splL bs p (putL n 2)).drop p).take 2=putL n 2:=by
  unfold splL
  have e1:(bs.take p).length=p:=by rw [List.length_take];omega
  rw [List.append_assoc,List.drop_append_of_le_length (by omega),List.drop_eq_nil_of_le (by omega),List.nil_append,List.take_append_of_le_length (by rw [putL_length];omega),List.take_of_length_le (by rw [putL_length];omega)]
 unfold numAt
 rw [e,leN_putL]
 exact Nat.mod_eq_of_lt hn
theorem numAt_spl_other {bs:List UInt8} {p q:Nat} {d:List UInt8} (h:p+d.length≤bs.length) (hq:q+2≤p∨p+d.length≤q):numAt (splL bs p d) q 2=numAt bs q 2:=by
 have e:((splL bs p d).drop q).take 2=(bs.drop q).take 2:=by
  apply List.ext_getElem?
  intro i
  simp only [List.getElem?_take,List.getElem?_drop]
  by_cases hi:i<2
  ·rw [if_pos hi,if_pos hi,splL_get h,if_neg (by omega)]
  ·rw [if_neg hi,if_neg hi]
 unfold numAt
 rw [e]
theorem layX_spl (b p:Nat) (d:List UInt8) (hb:b<xs.length) (i:Nat):blkL (layX xs b p d) i=if b=i then splL (blkL xs b) p d else blkL xs i:=layX_blk b p d hb i
theorem numAt_zeros2 (n p:Nat):numAt (List.replicate n 0) p 2=0:=by
 unfold numAt
 have:∀ a:Nat,leN (List.replicate a 0)=0:=by
  intro a
  induction a with
  | zero=>rfl
  | succ a ih=>rw [List.replicate_succ,leN,ih];rfl
 rw [List.drop_replicate,List.take_replicate]
 exact this _
theorem byte_of (h:∀ s,s<70→(atX ys m l' s=atX xs m l s∧(atX xs m l s≠0→blkL ys (atX xs m l s)=blkL xs (atX xs m l s)))∨(atX xs m l s=0∧blkL ys (atX ys m l' s)=List.replicate 128 0)) {i:Nat} (hi:i<8960):byteX ys m l' i=byteX xs m l i:=by
 have h70:i / 128<70:=by omega
 unfold byteX
 rcases h _ h70 with ⟨e,g⟩ | ⟨e,g⟩
 ·rw [e]
  by_cases h0:atX xs m l (i / 128)=0
  ·rw [if_pos h0,if_pos h0]
  ·rw [if_neg h0,if_neg h0,g h0]
 ·rw [if_pos e]
  split
  ·rfl
  ·rw [g,List.getD_eq_getElem?_getD,List.getElem?_replicate]
   split <;> rfl
theorem free_facts (hv:IsVol xs m) (hf:freeR xs m=some b):dataN m≤b∧b<xs.length∧bitV xs b=false∧datB xs m b=true∧5≤b:=by
 have hl:=hv.len
 obtain ⟨f1,f2,f3,f4⟩:=(freeR_some (by omega)).1 hf
 exact ⟨f1,f2,f3,datB_iff.2 ⟨f1,f2⟩,by omega⟩
theorem free_ne (o:OwnS xs m l) (hv:IsVol xs m) (hf:freeR xs m=some b) (hs:s<71):slotX xs m l s≠b:=fun e=>by
 obtain ⟨f1,f2,f3,f4,f5⟩:=free_facts hv hf
 have:=o.used s hs (by rw [e];omega)
 rw [e,f3] at this;cases this
theorem slot_ne2 (hv:IsVol xs m) (h:slotX xs m l s≠0):slotX xs m l s≠2:=by
 have:=datB_pos (slotX_dat h);omega
theorem take_own (o:OwnS xs m l) (hv:IsVol xs m) (hf:freeR xs m=some b) (hs:s<71) (h0:slotX xs m l s≠0):blkL (takeV xs b) (slotX xs m l s)=blkL xs (slotX xs m l s):=by
 obtain ⟨f1,f2,f3,f4,f5⟩:=free_facts hv hf
 rw [takeV_blk f2 _ (slot_ne2 hv h0),if_neg (free_ne o hv hf hs)]
theorem slots_by (hl:ys.length=xs.length) (h10:l'.getD 10 0=l.getD 10 0) (hb:slotX xs m l 70≠0→blkL ys (slotX xs m l 70)=blkL xs (slotX xs m l 70)) (hs:6≤s) (h71:s<71):slotX ys m l' s=slotX xs m l s:=by
 have hd:∀ j,datB ys m j=datB xs m j:=fun j=>datB_len m j hl
 have h70:slotX ys m l' 70=slotX xs m l 70:=by rw [slotX_ind,slotX_ind,hd,h10]
 by_cases e:s=70
 ·rw [e];exact h70
 ·rw [slotX_lt (by omega),slotX_lt (by omega)]
  by_cases h0:slotX xs m l 70=0
  ·rw [at_hi0 hs h0,at_hi0 hs (by rw [h70];exact h0)]
  ·rw [at_hi hs h0,at_hi hs (by rw [h70];exact h0),h70,hb h0,hd]
theorem getD_set_ne (l:List Nat) (i j v:Nat) (h:i≠j):(l.set i v).getD j 0=l.getD j 0:=by
 rw [List.getD_eq_getElem?_getD,List.getElem?_set_ne h,← List.getD_eq_getElem?_getD]
structure PlaS (m:Nat) (xs:List ByteArray) (l:List Nat) (k:Nat) (r:(List ByteArray × List Nat) × Nat):Prop where
 mv:MvS m xs l r.1.1 r.1.2
 at_:∀ s,s<70→atX r.1.1 m r.1.2 s=if s=k then r.2 else atX xs m l s
 ne:r.2≠0
 ind:slotX r.1.1 m r.1.2 70≠0↔(slotX xs m l 70≠0∨6≤k)
 byte:∀ i,i<8960→byteX r.1.1 m r.1.2 i=byteX xs m l i
 size:r.1.2.getD 3 0=l.getD 3 0
theorem pla_low (hv:IsVol xs m) (hl:l.length=12) (o:OwnS xs m l) (hk:k<6) (h0:atX xs m l k=0) (hf:freeR xs m=some b):PlaS m xs l k ((takeV xs b,l.set (4+k) b),b):=by
 obtain ⟨f1,f2,f3,f4,f5⟩:=free_facts hv hf
 have hd:∀ j,datB (takeV xs b) m j=datB xs m j:=fun j=>datB_len m j (takeV_length _ _)
 have h10:(l.set (4+k) b).getD 10 0=l.getD 10 0:=getD_set_ne _ _ _ _ (by omega)
 have hs:∀ s,s<71→slotX (takeV xs b) m (l.set (4+k) b) s=if s=k then b else slotX xs m l s:=by
  intro s hs
  by_cases h6:s<6
  ·rw [slotX_lt (by omega),slotX_lt (by omega),at_low h6,at_low h6,hd,getD_set _ _ _ _ _ (by omega)]
   by_cases e:s=k
   ·rw [if_pos (show 4+k=4+s by omega),if_pos e,if_pos f4]
   ·rw [if_neg (show ¬ 4+k=4+s by omega),if_neg e]
  ·rw [if_neg (by omega)]
   exact slots_by (takeV_length _ _) h10 (fun h=>take_own o hv hf (by omega) h) (by omega) hs
 refine ⟨.take hv o hf (s0:=k) (by omega) (by rw [slotX_lt (by omega)];exact h0) (takeV_length _ _) (hv.take f1 f2) rfl hs (fun j h1 h2 _=>by rw [takeV_blk f2 _ h1,if_neg h2]) (fun i hi=>getD_set_ne _ _ _ _ (by omega)) (raw_same (takeV_length _ _) o.raw (fun i _ _=>by
  rw [getD_set _ _ _ _ _ (by omega)]
  split
  ·exact .inr (.inr f4)
  ·exact .inl rfl) (by rw [hs 70 (by omega),if_neg (by omega)]) (fun h=>take_own o hv hf (by omega) h)),fun s h1=>?_,by show b≠0;omega,?_,fun i hi=>byte_of (fun s h1=>?_) hi,getD_set_ne _ _ _ _ (by omega)⟩
 ·have:=hs s (by omega);rw [slotX_lt h1,slotX_lt h1] at this;exact this
 ·show slotX (takeV xs b) m (l.set (4+k) b) 70≠0↔_
  rw [hs 70 (by omega),if_neg (by omega)]
  constructor
  ·exact fun h=>.inl h
  ·rintro (h | h)
   ·exact h
   ·omega
 ·have:=hs s (by omega);rw [slotX_lt h1,slotX_lt h1] at this
  rw [this]
  by_cases e:s=k
  ·rw [if_pos e]
   exact .inr ⟨by rw [e];exact h0,by rw [takeV_blk f2 _ (by omega),if_pos rfl]⟩
  ·rw [if_neg e]
   refine .inl ⟨rfl,fun hz=>?_⟩
   have:=take_own o hv hf (s:=s) (by omega) (by rw [slotX_lt h1];exact hz)
   rw [slotX_lt h1] at this;exact this
theorem ind_new (hv:IsVol xs m) (hl:l.length=12) (o:OwnS xs m l) (h0:slotX xs m l 70=0) (hf:freeR xs m=some b) :
  MvS m xs l (takeV xs b) (l.set 10 b)∧slotX (takeV xs b) m (l.set 10 b) 70=b∧(∀ s,s<70→atX (takeV xs b) m (l.set 10 b) s=atX xs m l s)∧(∀ i,i<8960→byteX (takeV xs b) m (l.set 10 b) i=byteX xs m l i):=by
 obtain ⟨f1,f2,f3,f4,f5⟩:=free_facts hv hf
 have hd:∀ j,datB (takeV xs b) m j=datB xs m j:=fun j=>datB_len m j (takeV_length _ _)
 have e10:(l.set 10 b).getD 10 0=b:=by rw [getD_set _ _ _ _ _ (by omega),if_pos rfl]
 have h70:slotX (takeV xs b) m (l.set 10 b) 70=b:=by rw [slotX_ind,e10,hd,if_pos f4]
 have hs:∀ s,s<70→atX (takeV xs b) m (l.set 10 b) s=atX xs m l s:=by
  intro s hs
  by_cases h6:s<6
  ·rw [at_low h6,at_low h6,hd,getD_set_ne _ _ _ _ (by omega)]
  ·rw [at_hi0 (by omega) h0,at_hi (by omega) (by rw [h70];omega),h70,takeV_blk f2 _ (by omega),if_pos rfl,numAt_zeros2]
   split <;> rfl
 have hs':∀ s,s<71→slotX (takeV xs b) m (l.set 10 b) s=if s=70 then b else slotX xs m l s:=by
  intro s h1
  by_cases e:s=70
  ·rw [if_pos e,e,h70]
  ·rw [if_neg e,slotX_lt (by omega),slotX_lt (by omega),hs s (by omega)]
 refine ⟨.take hv o hf (s0:=70) (by omega) h0 (takeV_length _ _) (hv.take f1 f2) rfl hs' (fun j h1 h2 _=>by rw [takeV_blk f2 _ h1,if_neg h2]) (fun i hi=>getD_set_ne _ _ _ _ (by omega)) (raw_by (takeV_length _ _) o.raw (fun i _ _=>by
  rw [getD_set _ _ _ _ _ (by omega)]
  split
  ·exact .inr (.inr f4)
  ·exact .inl rfl) (fun _ k _=>.inr (.inl (by rw [h70,takeV_blk f2 _ (by omega),if_pos rfl,numAt_zeros2])))),h70,hs,fun i hi=>byte_of (fun s h1=>.inl ⟨hs s h1,fun hz=>?_⟩) hi⟩
 have:=take_own o hv hf (s:=s) (by omega) (by rw [slotX_lt h1];exact hz)
 rw [slotX_lt h1] at this;exact this
theorem pla_high (hv:IsVol xs m) (hl:l.length=12) (o:OwnS xs m l) (hk:6≤k) (hk70:k<70) (h0:atX xs m l k=0) (hi:slotX xs m l 70≠0) (hf:freeR xs m=some b):PlaS m xs l k ((layX (takeV xs b) (l.getD 10 0) (2 * (k-6)) (putL b 2),l),b):=by
 obtain ⟨f1,f2,f3,f4,f5⟩:=free_facts hv hf
 have hlen:=hv.len
 obtain ⟨i1,i2⟩:=slot_ind_ne hi
 rw [← i2]
 obtain ⟨i,hi0⟩:∃ i,slotX xs m l 70=i:=⟨_,rfl⟩
 rw [hi0]
 have hin:i≠0:=by rw [← hi0];exact hi
 have hid:datB xs m i=true:=by rw [← hi0];exact slotX_dat hi
 obtain ⟨id1,id2⟩:=datB_iff.1 hid
 have hib:i≠b:=by rw [← hi0];exact free_ne o hv hf (by omega)
 have hi2:i≠2:=by have:=datB_pos hid;omega
 have hll:(layX (takeV xs b) i (2 * (k-6)) (putL b 2)).length=xs.length:=by rw [layX_length,takeV_length]
 have hd:∀ j,datB (layX (takeV xs b) i (2 * (k-6)) (putL b 2)) m j=datB xs m j:=fun j=>datB_len m j hll
 have hb:∀ j,blkL (layX (takeV xs b) i (2 * (k-6)) (putL b 2)) j=if i=j then splL (blkL (takeV xs b) i) (2 * (k-6)) (putL b 2) else blkL (takeV xs b) j:=fun j=>layX_spl i _ _ (by rw [takeV_length];exact id2) j
 have hti:blkL (takeV xs b) i=blkL xs i:=by rw [takeV_blk f2 _ hi2,if_neg hib]
 have h128:(blkL xs i).length=128:=hv.blk i id2
 have h70:slotX (layX (takeV xs b) i (2 * (k-6)) (putL b 2)) m l 70=i:=by rw [slotX_ind,hd,← slotX_ind,hi0]
 have hs:∀ s,s<71→slotX (layX (takeV xs b) i (2 * (k-6)) (putL b 2)) m l s=if s=k then b else slotX xs m l s:=by
  intro s hs
  by_cases h6:s<6
  ·rw [if_neg (by omega),slotX_lt (by omega),slotX_lt (by omega),at_low h6,at_low h6,hd]
  ·by_cases e:s=70
   ·rw [if_neg (by omega),e,h70,hi0]
   ·rw [slotX_lt (by omega),slotX_lt (by omega),at_hi (by omega) (by rw [h70];exact hin),h70,hb,if_pos rfl,hti,hd]
    by_cases e2:s=k
    ·rw [if_pos e2,e2,numAt_spl_same (by omega) (by omega),if_pos f4]
    ·rw [if_neg e2,numAt_spl_other (by rw [putL_length];omega) (by rw [putL_length];omega),at_hi (by omega) hi,hi0]
 refine ⟨.take hv o hf (s0:=k) (by omega) (by rw [slotX_lt (by omega)];exact h0) hll (layX_ok (hv.take f1 f2) (by rw [datB_len m i (takeV_length _ _)];exact hid) (by rw [putL_length];omega)) ?_ hs (fun j h1 h2 h3=>?_) (fun _ _=>rfl) (raw_by hll o.raw (fun _ _ _=>.inl rfl) (fun _ q hq=>by
  rw [h70,hb,if_pos rfl,hti,hi0]
  by_cases e:q=k-6
  ·rw [e,numAt_spl_same (by omega) (by omega)]
   exact .inr (.inr f4)
  ·exact .inl ⟨hin,numAt_spl_other (by rw [putL_length];omega) (by rw [putL_length];omega)⟩)),fun s h1=>?_,by show b≠0;omega,?_,fun i hi'=>byte_of (fun s h1=>?_) hi',rfl⟩
 ·rw [hb,if_neg hi2]
 ·rw [hb]
  by_cases e:i=j
  ·exfalso
   rw [← e] at h3
   exact h3 hid 70 (by omega) hi0
  ·rw [if_neg e,takeV_blk f2 _ h1,if_neg h2]
 ·have:=hs s (by omega);rw [slotX_lt h1,slotX_lt h1] at this;exact this
 ·show slotX (layX (takeV xs b) i (2 * (k-6)) (putL b 2)) m l 70≠0↔_
  rw [h70,hi0]
  exact ⟨fun h=>.inl h,fun _=>hin⟩
 ·have:=hs s (by omega);rw [slotX_lt h1,slotX_lt h1] at this
  rw [this]
  by_cases e:s=k
  ·rw [if_pos e]
   refine .inr ⟨by rw [e];exact h0,?_⟩
   rw [hb,if_neg hib,takeV_blk f2 _ (by omega),if_pos rfl]
  ·rw [if_neg e]
   refine .inl ⟨rfl,fun hz=>?_⟩
   have:=take_own o hv hf (s:=s) (by omega) (by rw [slotX_lt h1];exact hz)
   rw [slotX_lt h1] at this
   rw [hb,if_neg,this]
   intro e2
   have:=o.inj 70 s (by omega) (by omega) (by rw [hi0,slotX_lt h1,e2]) hi
   omega
theorem pla_mv (h:OkS len m (xs,l)) (o:OwnS xs m l) (hk:k<70) {r:(List ByteArray × List Nat) × Nat} (e:plaG noK xs m l k=some r):PlaS m xs l k r:=by
 have hv:IsVol xs m:=h.vol
 have hl12:l.length=12:=h.fit.1
 unfold plaG at e
 by_cases h0:atX xs m l k≠0
 ·rw [if_pos h0] at e
  obtain rfl:=Option.some.inj e
  refine ⟨.refl hv o,fun s hs=>?_,h0,?_,fun _ _=>rfl,rfl⟩
  ·show atX xs m l s=_
   by_cases e:s=k
   ·rw [if_pos e,e]
   ·rw [if_neg e]
  ·show slotX xs m l 70≠0↔_
   refine ⟨fun h=>.inl h,?_⟩
   rintro (h | h)
   ·exact h
   ·exact fun hz=>h0 (at_hi0 h hz)
 ·have h0:atX xs m l k=0:=Classical.not_not.1 h0
  rw [if_neg (by rw [h0];simp)] at e
  unfold indG at e
  by_cases h6:k<6
  ·rw [if_pos (.inl h6)] at e
   simp only [Option.bind_some] at e
   unfold takX at e
   cases hf:freeR xs m with
   | none=>rw [hf] at e;cases e
   | some b=>
    rw [hf] at e
    simp only [Option.map_some] at e
    unfold nameG at e
    rw [if_pos h6] at e
    obtain rfl:=Option.some.inj e
    exact pla_low hv hl12 o h6 h0 hf
  ·by_cases hi:slotX xs m l 70=0
   ·have hni:¬ datB xs m (l.getD 10 0)=true:=fun e=>datB_ind_iff.1 e hi
    rw [if_neg (by rintro (a | a);exact h6 a;exact hni a)] at e
    unfold takX at e
    cases hf:freeR xs m with
    | none=>rw [hf] at e;cases e
    | some b=>
     obtain ⟨f1,f2,f3,f4,f5⟩:=free_facts hv hf
     rw [hf] at e
     simp only [Option.map_some,Option.bind_some] at e
     unfold noK at e
     obtain ⟨a1,a2,a3,a4⟩:=ind_new hv hl12 o hi hf
     cases hf2:freeR (takeV xs b) m with
     | none=>rw [hf2] at e;cases e
     | some b2=>
      rw [hf2] at e
      simp only [Option.map_some] at e
      obtain ⟨g1,g2,g3,g4,g5⟩:=free_facts a1.vol hf2
      have hd:datB (takeV (takeV xs b) b2) m ((l.set 10 b).getD 10 0)=true:=by
       rw [datB_len (ys:=takeV xs b) m _ (takeV_length _ _)]
       exact datB_ind_iff.2 (by rw [a2];omega)
      unfold nameG at e
      rw [if_neg h6,if_pos hd] at e
      obtain rfl:=Option.some.inj e
      have p:=pla_high (k:=k) a1.vol (by rw [List.length_set];exact hl12) a1.own (by omega) hk (by rw [a3 k hk];exact h0) (by rw [a2];omega) hf2
      refine ⟨a1.trans p.mv,fun s hs=>by rw [p.at_ s hs,a3 s hs],p.ne,?_,fun i hi=>(p.byte i hi).trans (a4 i hi),p.size.trans (getD_set_ne _ _ _ _ (by omega))⟩
      rw [p.ind,a2]
      exact ⟨fun _=>.inr (by omega),fun _=>.inr (by omega)⟩
   ·have hni:datB xs m (l.getD 10 0)=true:=datB_ind_iff.2 hi
    rw [if_pos (.inr hni)] at e
    simp only [Option.bind_some] at e
    unfold takX at e
    cases hf:freeR xs m with
    | none=>rw [hf] at e;cases e
    | some b=>
     rw [hf] at e
     simp only [Option.map_some] at e
     unfold nameG at e
     rw [if_neg h6,if_pos (by rw [datB_len (ys:=xs) m _ (takeV_length _ _)];exact hni)] at e
     obtain rfl:=Option.some.inj e
     exact pla_high hv hl12 o (by omega) hk h0 hi hf
end
section
variable {xs ys zs:List ByteArray} {m len:Nat} {l l' l'':List Nat} {s s0 b k off:Nat} {d:List UInt8}
def wrF (off:Nat) (d:List UInt8) (f:Nat→UInt8) (i:Nat):UInt8:=if off≤i∧i<off+d.length then d.getD (i-off) 0 else f i
theorem lay_mv (hv:IsVol xs m) (o:OwnS xs m l) (hk:k<70) (hb:atX xs m l k=b) (h0:b≠0) {p:Nat} (hp:p+d.length≤128) :
  MvS m xs l (layX xs b p d) l∧(∀ s,s<71→slotX (layX xs b p d) m l s=slotX xs m l s) ∧
  (∀ i,i<8960→byteX (layX xs b p d) m l i=if i / 128=k∧p≤i % 128∧i % 128<p+d.length then d.getD (i % 128-p) 0 else byteX xs m l i):=by
 have hbd:datB xs m b=true:=by rw [← hb];exact atX_dat (by rw [hb];exact h0)
 have hbp:=datB_pos hbd
 obtain ⟨b1,b2⟩:=datB_iff.1 hbd
 have hll:(layX xs b p d).length=xs.length:=layX_length _ _ _ _
 have hd:∀ j,datB (layX xs b p d) m j=datB xs m j:=fun j=>datB_len m j hll
 have hbl:∀ j,blkL (layX xs b p d) j=if b=j then splL (blkL xs b) p d else blkL xs j:=fun j=>layX_spl b _ _ b2 j
 have hsk:slotX xs m l k=b:=by rw [slotX_lt hk,hb]
 have hne:∀ s,s<71→s≠k→slotX xs m l s≠0→b≠slotX xs m l s:=fun s h1 h2 h3 e=>h2 (o.inj s k h1 (by omega) (by rw [hsk,e]) h3)
 have hs:∀ s,s<71→slotX (layX xs b p d) m l s=slotX xs m l s:=by
  intro s hs
  by_cases h6:s<6
  ·rw [slotX_lt (by omega),slotX_lt (by omega),at_low h6,at_low h6,hd]
  ·exact slots_by hll rfl (fun h=>by rw [hbl,if_neg (hne 70 (by omega) (by omega) h)]) (by omega) hs
 refine ⟨.stay hv o hll (layX_ok hv hbd hp) (by rw [hbl,if_neg (by omega)]) hs (fun j h1 h2=>?_) (fun _ _=>rfl) (raw_same hll o.raw (fun _ _ _=>.inl rfl) (hs 70 (by omega)) (fun h=>by rw [hbl,if_neg (hne 70 (by omega) (by omega) h)])),hs,fun i hi=>?_⟩
 ·rw [hbl]
  by_cases e:b=j
  ·exfalso
   rw [← e] at h2
   exact h2 hbd k (by omega) hsk
  ·rw [if_neg e]
 ·have h70:i / 128<70:=by omega
  have e:=hs (i / 128) (by omega)
  rw [slotX_lt h70,slotX_lt h70] at e
  unfold byteX
  rw [e]
  by_cases hk:i / 128=k
  ·rw [hk,hb,if_neg h0,if_neg h0,hbl,if_pos rfl,splL_getD (by rw [hv.blk b b2];exact hp)]
   simp only [true_and]
  ·have hc:¬ (i / 128=k∧p≤i % 128∧i % 128<p+d.length):=fun h=>hk h.1
   rw [if_neg hc]
   by_cases hz:atX xs m l (i / 128)=0
   ·rw [if_pos hz,if_pos hz]
   ·rw [if_neg hz,if_neg hz,hbl,if_neg]
    have:=hne (i / 128) (by omega) hk (by rw [slotX_lt h70];exact hz)
    rw [slotX_lt h70] at this;exact this
theorem piece_get (hk:off / 128≤k) {i:Nat} (hi:i / 128=k) (f:UInt8) :
  (if off-128 * k≤i % 128∧i % 128<off-128 * k+((d.drop (128 * k-off)).take (128-(off-128 * k))).length then ((d.drop (128 * k-off)).take (128-(off-128 * k))).getD (i % 128-(off-128 * k)) 0 else f)=if off≤i∧i<off+d.length then d.getD (i-off) 0 else f:=by
 have e:(off-128 * k≤i % 128∧i % 128<off-128 * k+((d.drop (128 * k-off)).take (128-(off-128 * k))).length)↔(off≤i∧i<off+d.length):=by
  rw [List.length_take,List.length_drop]
  omega
 by_cases h:off≤i∧i<off+d.length
 ·rw [if_pos h,if_pos (e.2 h)]
  simp only [List.getD_eq_getElem?_getD,List.getElem?_take,List.getElem?_drop]
  rw [if_pos (by omega),show 128 * k-off+(i % 128-(off-128 * k))=i-off by omega]
 ·rw [if_neg h,if_neg (fun g=>h (e.1 g))]
structure WriS (m off:Nat) (d:List UInt8) (xs:List ByteArray) (l:List Nat) (j:Nat) (r:List ByteArray × List Nat):Prop where
 ok:OkS xs.length m r
 mv:MvS m xs l r.1 r.2
 at_:∀ s,s<70→(atX r.1 m r.2 s≠0↔(atX xs m l s≠0∨(off / 128≤s∧s<off / 128+j)))
 ind:slotX r.1 m r.2 70≠0↔(slotX xs m l 70≠0∨(0<j∧6<off / 128+j))
 byte:∀ i,i<8960→byteX r.1 m r.2 i=if off / 128≤i / 128∧i / 128<off / 128+j then wrF off d (byteX xs m l) i else byteX xs m l i
 size:r.2.getD 3 0=l.getD 3 0
theorem wriN_mv (h:OkS xs.length m (xs,l)) (o:OwnS xs m l):∀ (j:Nat),off / 128+j≤70→∀ {r:List ByteArray × List Nat},wriN noK m off d (xs,l) j=some r→WriS m off d xs l j r
 | 0,_,r,e=>by
  obtain rfl:=Option.some.inj e
  refine ⟨h,.refl h.vol o,fun s hs=>⟨fun h=>.inl h,?_⟩,⟨fun h=>.inl h,?_⟩,fun i hi=>by rw [if_neg (by omega)],rfl⟩
  ·rintro (h | h)
   ·exact h
   ·omega
  ·rintro (h | h)
   ·exact h
   ·omega
 | j+1,hj,r,e=>by
  rw [wriN] at e
  cases hp:wriN noK m off d (xs,l) j with
  | none=>rw [hp] at e;cases e
  | some q=>
   rw [hp,Option.bind_some] at e
   have p:=wriN_mv h o j (by omega) hp
   obtain ⟨qx,ql⟩:=q
   unfold wriK at e
   cases ht:plaG noK qx m ql (off / 128+j) with
   | none=>rw [ht] at e;cases e
   | some t=>
    rw [ht,Option.map_some] at e
    obtain rfl:=Option.some.inj e
    have a:=pla_mv p.ok p.mv.own (by omega) ht
    have ok:=(plaG_ok (noK_ok m) p.ok (by omega) ht).1
    have hpl:=piece_len off (off / 128+j) d (by omega)
    have e1:atX t.1.1 m t.1.2 (off / 128+j)=t.2:=by rw [a.at_ _ (by omega),if_pos rfl]
    obtain ⟨c1,c2,c3⟩:=lay_mv (k:=off / 128+j) a.mv.vol a.mv.own (by omega) e1 a.ne hpl
    have hlt:datB t.1.1 m t.2=true:=by rw [← e1];exact atX_dat (by rw [e1];exact a.ne)
    refine ⟨⟨layX_ok ok.vol hlt hpl,(layX_length _ _ _ _).trans ok.len,ok.fit⟩,p.mv.trans (a.mv.trans c1),fun s hs=>?_,?_,fun i hi=>?_,a.size.trans p.size⟩
    ·have:=c2 s (by omega)
     rw [slotX_lt hs,slotX_lt hs] at this
     rw [this,a.at_ s hs]
     by_cases e:s=off / 128+j
     ·rw [if_pos e]
      exact ⟨fun _=>.inr ⟨by omega,by omega⟩,fun _=>a.ne⟩
     ·rw [if_neg e,p.at_ s hs]
      constructor
      ·rintro (h | h)
       ·exact .inl h
       ·exact .inr (by omega)
      ·rintro (h | h)
       ·exact .inl h
       ·exact .inr (by omega)
    ·rw [c2 70 (by omega),a.ind,p.ind]
     constructor
     ·rintro ((h | h) | h)
      ·exact .inl h
      ·exact .inr (by omega)
      ·exact .inr (by omega)
     ·rintro (h | h)
      ·exact .inl (.inl h)
      ·exact .inr (by omega)
    ·rw [c3 i hi,a.byte i hi,p.byte i hi]
     by_cases ek:i / 128=off / 128+j
     ·have k1:off / 128≤i / 128∧i / 128<off / 128+(j+1):=by omega
      have k2:¬ (off / 128≤i / 128∧i / 128<off / 128+j):=by omega
      rw [if_pos k1,if_neg k2]
      simp only [ek,true_and]
      have:=piece_get (d:=d) (off:=off) (k:=off / 128+j) (by omega) ek (byteX xs m l i)
      rw [this];rfl
     ·have k3:∀ P:Prop,¬ (i / 128=off / 128+j∧P):=fun P h=>ek h.1
      rw [if_neg (k3 _)]
      by_cases h2:off / 128≤i / 128∧i / 128<off / 128+j
      ·have k1:off / 128≤i / 128∧i / 128<off / 128+(j+1):=by omega
       rw [if_pos h2,if_pos k1]
      ·have k1:¬ (off / 128≤i / 128∧i / 128<off / 128+(j+1)):=by omega
       rw [if_neg h2,if_neg k1]
theorem atX_size (xs:List ByteArray) (m:Nat) (l:List Nat) (v s:Nat):atX xs m (l.set 3 v) s=atX xs m l s:=by
 unfold atX rawX
 rw [getD_set_ne l 3 (4+s) v (by omega),getD_set_ne l 3 10 v (by omega)]
theorem slotX_size (xs:List ByteArray) (m:Nat) (l:List Nat) (v s:Nat):slotX xs m (l.set 3 v) s=slotX xs m l s:=by
 unfold slotX
 rw [atX_size,getD_set_ne l 3 10 v (by omega)]
theorem byteX_size (xs:List ByteArray) (m:Nat) (l:List Nat) (v i:Nat):byteX xs m (l.set 3 v) i=byteX xs m l i:=by
 unfold byteX
 rw [atX_size]
theorem size_mv (hv:IsVol xs m) (o:OwnS xs m l) (v:Nat):MvS m xs l xs (l.set 3 v):=
 .stay hv o rfl hv rfl (fun s _=>slotX_size xs m l v s) (fun _ _ _=>rfl) (fun i hi=>getD_set_ne _ _ _ _ (by omega))
  (raw_same rfl o.raw (fun i _ _=>.inl (getD_set_ne _ _ _ _ (by omega))) (slotX_size xs m l v 70) (fun _=>rfl))
theorem sizeX_set (hl:l.length=12) (v:Nat):sizeX (l.set 3 v)=min v 8960:=by
 unfold sizeX
 rw [getD_set _ _ _ _ _ (by omega),if_pos rfl]
structure WroS (m off:Nat) (d:List UInt8) (xs:List ByteArray) (l:List Nat) (r:List ByteArray × List Nat):Prop where
 ok:OkS xs.length m r
 mv:MvS m xs l r.1 r.2
 at_:∀ s,s<70→(atX r.1 m r.2 s≠0↔(atX xs m l s≠0∨(d≠[]∧off / 128≤s∧s≤(off+d.length-1) / 128)))
 ind:slotX r.1 m r.2 70≠0↔(slotX xs m l 70≠0∨(d≠[]∧6≤(off+d.length-1) / 128))
 byte:∀ i,i<8960→byteX r.1 m r.2 i=wrF off d (byteX xs m l) i
 size:sizeX r.2=if d=[] then sizeX l else max (sizeX l) (off+d.length)
theorem wriG_mv (h:OkS xs.length m (xs,l)) (o:OwnS xs m l) (hl:off+d.length≤8960) {r:List ByteArray × List Nat} (e:wriG noK xs m l off d=some r):WroS m off d xs l r:=by
 have hl12:l.length=12:=h.fit.1
 unfold wriG at e
 by_cases hd:d=[]
 ·rw [if_pos hd] at e
  obtain rfl:=Option.some.inj e
  subst hd
  refine ⟨h,.refl h.vol o,fun s hs=>by simp,by simp,fun i hi=>?_,by rw [if_pos rfl]⟩
  unfold wrF
  rw [if_neg (by simp)]
 ·rw [if_neg hd] at e
  have hdl:d.length≠0:=by simpa using hd
  have h70:off / 128+fallN off d.length≤70:=by unfold fallN;rw [if_neg hdl];omega
  have hf:off / 128+fallN off d.length=(off+d.length-1) / 128+1:=by unfold fallN;rw [if_neg hdl];omega
  have hf0:0<fallN off d.length:=by unfold fallN;rw [if_neg hdl];omega
  cases hw:wriN noK m off d (xs,l) (fallN off d.length) with
  | none=>rw [hw] at e;cases e
  | some q=>
   rw [hw] at e
   obtain rfl:=Option.some.inj e
   obtain ⟨qx,ql⟩:=q
   have p:=wriN_mv h o _ h70 hw
   have hq12:ql.length=12:=p.ok.fit.1
   have es:sizeX ql=sizeX l:=by unfold sizeX;rw [p.size]
   have hsl:=sizeX_le l
   have at1:∀ s,s<70→(atX qx m ql s≠0↔(atX xs m l s≠0∨(d≠[]∧off / 128≤s∧s≤(off+d.length-1) / 128))):=fun s hs=>by
    rw [p.at_ s hs,hf]
    constructor
    ·rintro (h | h)
     ·exact .inl h
     ·exact .inr ⟨hd,by omega,by omega⟩
    ·rintro (h | h)
     ·exact .inl h
     ·exact .inr (by omega)
   have ind1:slotX qx m ql 70≠0↔(slotX xs m l 70≠0∨(d≠[]∧6≤(off+d.length-1) / 128)):=by
    rw [p.ind,hf]
    constructor
    ·rintro (h | h)
     ·exact .inl h
     ·exact .inr ⟨hd,by omega⟩
    ·rintro (h | h)
     ·exact .inl h
     ·exact .inr (by omega)
   have by1:∀ i,i<8960→byteX qx m ql i=wrF off d (byteX xs m l) i:=fun i hi=>by
    rw [p.byte i hi,hf]
    by_cases h2:off / 128≤i / 128∧i / 128<(off+d.length-1) / 128+1
    ·rw [if_pos h2]
    ·rw [if_neg h2]
     unfold wrF
     rw [if_neg (by omega)]
   have ok:=growG_ok (noK_ok m) p.ok (en:=off+d.length) hl
   unfold growG at ok ⊢
   by_cases hg:sizeX (qx,ql).2<off+d.length
   ·rw [if_pos hg] at ok ⊢
    have hg':sizeX ql<off+d.length:=hg
    refine ⟨ok,p.mv.trans (size_mv p.mv.vol p.mv.own _),fun s hs=>?_,?_,fun i hi=>?_,?_⟩
    ·show atX qx m (ql.set 3 _) s≠0↔_
     rw [atX_size];exact at1 s hs
    ·show slotX qx m (ql.set 3 _) 70≠0↔_
     rw [slotX_size];exact ind1
    ·show byteX qx m (ql.set 3 _) i=_
     rw [byteX_size];exact by1 i hi
    ·show sizeX (ql.set 3 _)=_
     rw [sizeX_set hq12,if_neg hd];omega
   ·rw [if_neg hg] at ok ⊢
    have hg':¬ sizeX ql<off+d.length:=hg
    refine ⟨ok,p.mv,at1,ind1,by1,?_⟩
    show sizeX ql=_
    rw [if_neg hd];omega
end
section
variable {xs ys zs:List ByteArray} {m len:Nat} {l l' l'':List Nat} {s s0 b k off size:Nat} {d:List UInt8}
theorem giveV_nil (xs:List ByteArray) (m:Nat):giveV xs m 0=xs:=by
 unfold giveV
 rw [if_neg (by rw [datB_zero];simp)]
theorem giveV_own (o:OwnS xs m l) (hs:s<71) (h0:slotX xs m l s≠0):giveV xs m (slotX xs m l s)=turnV xs (slotX xs m l s):=by
 unfold giveV
 rw [if_pos ⟨slotX_dat h0,o.used s hs h0⟩]
theorem giveV_blk (xs:List ByteArray) (m b j:Nat) (h:j≠2):blkL (giveV xs m b) j=blkL xs j:=by
 unfold giveV
 split
 ·exact turnV_blk _ _ _ h
 ·rfl
theorem giveV_ind (xs:List ByteArray) (m:Nat) (l:List Nat):giveV xs m (l.getD 10 0)=giveV xs m (slotX xs m l 70):=by
 rw [slotX_ind]
 by_cases h:datB xs m (l.getD 10 0)=true
 ·rw [if_pos h]
 ·rw [if_neg h,giveV_nil]
  unfold giveV
  rw [if_neg (fun g=>h g.1)]
theorem drop_fin (hv:IsVol xs m) (o:OwnS xs m l) (hs0:s0<71) (hl:zs.length=xs.length) (hv':IsVol zs m) (h2:blkL zs 2=blkL (giveV xs m (slotX xs m l s0)) 2)
  (hs:∀ s,s<71→slotX zs m l' s=if s=s0 then 0 else slotX xs m l s) (hblk:∀ j,j≠2→(slotX xs m l 70≠0→j≠slotX xs m l 70)→blkL zs j=blkL xs j) (hk:∀ i,i<3∨i=11→l'.getD i 0=l.getD i 0) (hr:RawS zs m l') :
  MvS m xs l zs l'∧(∀ i,i<8960→byteX zs m l' i=if i / 128=s0 then 0 else byteX xs m l i):=by
 have hb:∀ j,j≠2→(datB xs m j=true→∀ s,s<71→slotX xs m l s≠j)→blkL zs j=blkL xs j:=fun j h1 h3=>hblk j h1 (fun h4 e=>h3 (by rw [e];exact slotX_dat h4) 70 (by omega) e.symm)
 refine ⟨?_,fun i hi=>?_⟩
 ·by_cases h0:slotX xs m l s0=0
  ·rw [h0,giveV_nil] at h2
   refine .stay hv o hl hv' h2 (fun s h1=>?_) hb hk hr
   rw [hs s h1]
   by_cases e:s=s0
   ·rw [if_pos e,e,h0]
   ·rw [if_neg e]
  ·rw [giveV_own o hs0 h0] at h2
   exact .give hv o hs0 rfl h0 hl hv' h2 hs hb hk hr
 ·have h70:i / 128<70:=by omega
  have e:=hs (i / 128) (by omega)
  rw [slotX_lt h70,slotX_lt h70] at e
  unfold byteX
  rw [e]
  by_cases ek:i / 128=s0
  ·rw [if_pos ek,if_pos rfl,if_pos ek]
  ·rw [if_neg ek,if_neg ek]
   by_cases hz:atX xs m l (i / 128)=0
   ·rw [if_pos hz,if_pos hz]
   ·rw [if_neg hz,if_neg hz,hblk]
    ·have:=datB_pos (atX_dat hz);omega
    ·intro h3 e2
     have:=o.inj (i / 128) 70 (by omega) (by omega) (by rw [slotX_lt h70];exact e2) (by rw [slotX_lt h70];exact hz)
     omega
structure DroS (m:Nat) (xs:List ByteArray) (l:List Nat) (p:Nat→Prop) [DecidablePred p] (r:List ByteArray × List Nat):Prop where
 ok:OkS xs.length m r
 mv:MvS m xs l r.1 r.2
 slot:∀ s,s<71→slotX r.1 m r.2 s=if p s then 0 else slotX xs m l s
 byte:∀ i,i<8960→byteX r.1 m r.2 i=if p (i / 128) then 0 else byteX xs m l i
 size:r.2.getD 3 0=l.getD 3 0
theorem drop_mv (h:OkS xs.length m (xs,l)) (o:OwnS xs m l) (hk:k<70):DroS m xs l (fun s=>s=k) (dropK noK m k (xs,l)):=by
 have hv:IsVol xs m:=h.vol
 have hl12:l.length=12:=h.fit.1
 have hok:=dropK_ok (noK_ok m) h hk
 have hsk:slotX xs m l k=atX xs m l k:=slotX_lt hk
 obtain ⟨gv,gl⟩:=giveV_ok hv (atX xs m l k)
 unfold dropK nameG noK at hok ⊢
 by_cases h6:k<6
 ·rw [if_pos h6] at hok ⊢
  have hd:∀ j,datB (giveV xs m (atX xs m l k)) m j=datB xs m j:=fun j=>datB_len m j gl
  have h10:(l.set (4+k) 0).getD 10 0=l.getD 10 0:=getD_set_ne _ _ _ _ (by omega)
  have hs:∀ s,s<71→slotX (giveV xs m (atX xs m l k)) m (l.set (4+k) 0) s=if s=k then 0 else slotX xs m l s:=by
   intro s hs
   by_cases h6s:s<6
   ·rw [slotX_lt (by omega),slotX_lt (by omega),at_low h6s,at_low h6s,hd,getD_set _ _ _ _ _ (by omega)]
    by_cases e:s=k
    ·rw [if_pos (show 4+k=4+s by omega),if_pos e]
     split <;> rfl
    ·rw [if_neg (show ¬ 4+k=4+s by omega),if_neg e]
   ·rw [if_neg (by omega)]
    exact slots_by gl h10 (fun h=>giveV_blk _ _ _ _ (slot_ne2 hv h)) (by omega) hs
  obtain ⟨a,c⟩:=drop_fin (s0:=k) hv o (by omega) gl gv (by rw [hsk]) hs (fun j h1 _=>giveV_blk _ _ _ _ h1) (fun i hi=>getD_set_ne l _ _ _ (by omega)) (raw_same gl o.raw (fun i _ _=>by
   rw [getD_set _ _ _ _ _ (by omega)]
   split
   ·exact .inr (.inl rfl)
   ·exact .inl rfl) (by rw [hs 70 (by omega),if_neg (by omega)]) (fun h=>giveV_blk _ _ _ _ (slot_ne2 hv h)))
  exact ⟨hok,a,hs,c,getD_set_ne _ _ _ _ (by omega)⟩
 ·rw [if_neg h6] at hok ⊢
  by_cases hi:datB (giveV xs m (atX xs m l k)) m (l.getD 10 0)=true
  ·rw [if_pos hi] at hok ⊢
   have hid:datB xs m (l.getD 10 0)=true:=by rw [← datB_len m _ gl];exact hi
   have hi70:slotX xs m l 70≠0:=datB_ind_iff.1 hid
   obtain ⟨_,i2⟩:=slot_ind_ne hi70
   have hin2:=slot_ne2 hv hi70
   rw [i2] at hin2
   have hll:(layX (giveV xs m (atX xs m l k)) (l.getD 10 0) (2 * (k-6)) (putL 0 2)).length=xs.length:=by rw [layX_length,gl]
   have hd:∀ j,datB (layX (giveV xs m (atX xs m l k)) (l.getD 10 0) (2 * (k-6)) (putL 0 2)) m j=datB xs m j:=fun j=>datB_len m j hll
   have hbl:∀ j,blkL (layX (giveV xs m (atX xs m l k)) (l.getD 10 0) (2 * (k-6)) (putL 0 2)) j=if l.getD 10 0=j then splL (blkL (giveV xs m (atX xs m l k)) (l.getD 10 0)) (2 * (k-6)) (putL 0 2) else blkL (giveV xs m (atX xs m l k)) j:=fun j=>layX_spl _ _ _ (datB_iff.1 hi).2 j
   have h128:(blkL xs (l.getD 10 0)).length=128:=hv.blk _ (datB_iff.1 hid).2
   have h70:slotX (layX (giveV xs m (atX xs m l k)) (l.getD 10 0) (2 * (k-6)) (putL 0 2)) m l 70=l.getD 10 0:=by rw [slotX_ind,hd,← slotX_ind,i2]
   have h70n:l.getD 10 0≠0:=by rw [← i2];exact hi70
   have hs:∀ s,s<71→slotX (layX (giveV xs m (atX xs m l k)) (l.getD 10 0) (2 * (k-6)) (putL 0 2)) m l s=if s=k then 0 else slotX xs m l s:=by
    intro s hs
    by_cases h6s:s<6
    ·rw [if_neg (by omega),slotX_lt (by omega),slotX_lt (by omega),at_low h6s,at_low h6s,hd]
    ·by_cases e:s=70
     ·rw [if_neg (by omega),e,h70,i2]
     ·rw [slotX_lt (by omega),slotX_lt (by omega),at_hi (by omega) (by rw [h70];exact h70n),h70,hbl,if_pos rfl,giveV_blk _ _ _ _ hin2,hd]
      by_cases e2:s=k
      ·rw [if_pos e2,e2,numAt_spl_same (by omega) (by omega)]
       split <;> rfl
      ·rw [if_neg e2,numAt_spl_other (by rw [putL_length];omega) (by rw [putL_length];omega),at_hi (by omega) hi70,i2]
   obtain ⟨a,c⟩:=drop_fin (s0:=k) hv o (by omega) hll hok.vol (by rw [hbl,if_neg hin2,hsk]) hs (fun j h1 h3=>by
    rw [hbl,if_neg (fun e=>h3 hi70 (by rw [i2];exact e.symm)),giveV_blk _ _ _ _ h1]) (fun _ _=>rfl) (raw_by hll o.raw (fun _ _ _=>.inl rfl) (fun _ q hq=>by
     rw [h70,hbl,if_pos rfl,giveV_blk _ _ _ _ hin2,i2]
     by_cases e:q=k-6
     ·rw [e,numAt_spl_same (by omega) (by omega)]
      exact .inr (.inl rfl)
     ·exact .inl ⟨h70n,numAt_spl_other (by rw [putL_length];omega) (by rw [putL_length];omega)⟩))
   exact ⟨hok,a,hs,c,rfl⟩
  ·rw [if_neg hi] at hok ⊢
   have h70:slotX xs m l 70=0:=by
    refine Classical.not_not.1 (fun h=>hi ?_)
    rw [datB_len m _ gl];exact datB_ind_iff.2 h
   have hz:atX xs m l k=0:=at_hi0 (by omega) h70
   rw [hz,giveV_nil] at hok ⊢
   have hs:∀ s,s<71→slotX xs m l s=if s=k then 0 else slotX xs m l s:=fun s hs=>by
    by_cases e:s=k
    ·rw [if_pos e,e,hsk,hz]
    ·rw [if_neg e]
   obtain ⟨a,c⟩:=drop_fin (s0:=k) (l':=l) hv o (by omega) rfl hv (by rw [hsk,hz,giveV_nil]) hs (fun _ _ _=>rfl) (fun _ _=>rfl) o.raw
   exact ⟨hok,a,hs,c,rfl⟩
theorem dropN_mv (h:OkS xs.length m (xs,l)) (o:OwnS xs m l):∀ j,k+j≤70→DroS m xs l (fun s=>k≤s∧s<k+j) (dropN noK m k (xs,l) j)
 | 0,_=>⟨h,.refl h.vol o,fun s _=>by rw [if_neg (by omega)];rfl,fun i _=>by rw [if_neg (by omega)];rfl,rfl⟩
 | j+1,hj=>by
  have p:=dropN_mv h o j (by omega)
  rw [dropN]
  generalize dropN noK m k (xs,l) j=q at p ⊢
  obtain ⟨qx,ql⟩:=q
  have ok:OkS qx.length m (qx,ql):=⟨p.ok.vol,rfl,p.ok.fit⟩
  have a:=drop_mv ok p.mv.own (k:=k+j) (by omega)
  refine ⟨⟨a.ok.vol,a.ok.len.trans p.mv.len,a.ok.fit⟩,p.mv.trans a.mv,fun s hs=>?_,fun i hi=>?_,a.size.trans p.size⟩
  ·rw [a.slot s hs]
   by_cases e:s=k+j
   ·rw [if_pos e,if_pos (by omega)]
   ·rw [if_neg e,p.slot s hs]
    by_cases h2:k≤s∧s<k+j
    ·rw [if_pos h2,if_pos (by omega)]
    ·rw [if_neg h2,if_neg (by omega)]
  ·rw [a.byte i hi]
   by_cases e:i / 128=k+j
   ·rw [if_pos e,if_pos (by omega)]
   ·rw [if_neg e,p.byte i hi]
    by_cases h2:k≤i / 128∧i / 128<k+j
    ·rw [if_pos h2,if_pos (by omega)]
    ·rw [if_neg h2,if_neg (by omega)]
theorem dropI_mv (h:OkS xs.length m (xs,l)) (o:OwnS xs m l) (hs:size≤768→∀ s,6≤s→s<70→atX xs m l s=0):DroS m xs l (fun s=>size≤768∧s=70) (dropI noK m size (xs,l)):=by
 have hv:IsVol xs m:=h.vol
 have hl12:l.length=12:=h.fit.1
 have hok:=dropI_ok (noK_ok m) h size
 unfold dropI noK at hok ⊢
 by_cases hc:size≤768
 ·rw [if_pos hc] at hok ⊢
  simp only at hok ⊢
  obtain ⟨gv,gl⟩:=giveV_ok hv (l.getD 10 0)
  have hd:∀ j,datB (giveV xs m (l.getD 10 0)) m j=datB xs m j:=fun j=>datB_len m j gl
  have h70:slotX (giveV xs m (l.getD 10 0)) m (l.set 10 0) 70=0:=by
   rw [slotX_ind,getD_set _ _ _ _ _ (by omega),if_pos rfl]
   split <;> rfl
  have hs':∀ s,s<71→slotX (giveV xs m (l.getD 10 0)) m (l.set 10 0) s=if s=70 then 0 else slotX xs m l s:=by
   intro s h1
   by_cases e:s=70
   ·rw [if_pos e,e,h70]
   ·rw [if_neg e,slotX_lt (by omega),slotX_lt (by omega)]
    by_cases h6:s<6
    ·rw [at_low h6,at_low h6,hd,getD_set_ne _ _ _ _ (by omega)]
    ·rw [at_hi0 (by omega) h70,hs hc s (by omega) (by omega)]
  obtain ⟨a,c⟩:=drop_fin (s0:=70) hv o (by omega) gl gv (by rw [giveV_ind]) hs' (fun j h1 _=>giveV_blk _ _ _ _ h1) (fun i hi=>getD_set_ne l _ _ _ (by omega)) (raw_by gl o.raw (fun i _ _=>by
   rw [getD_set _ _ _ _ _ (by omega)]
   split
   ·exact .inr (.inl rfl)
   ·exact .inl rfl) (fun h=>absurd h70 h))
  refine ⟨hok,a,fun s h1=>?_,fun i hi=>?_,getD_set_ne _ _ _ _ (by omega)⟩
  ·show slotX (giveV xs m (l.getD 10 0)) m (l.set 10 0) s=_
   rw [hs' s h1];simp only [hc,true_and]
  ·show byteX (giveV xs m (l.getD 10 0)) m (l.set 10 0) i=_
   rw [c i hi];simp only [hc,true_and]
 ·rw [if_neg hc] at hok ⊢
  exact ⟨hok,.refl hv o,fun s _=>by simp only [hc,false_and,if_false],fun i _=>by simp only [hc,false_and,if_false],rfl⟩
structure CutS (m size:Nat) (xs:List ByteArray) (l:List Nat) (r:List ByteArray × List Nat):Prop where
 ok:OkS xs.length m r
 mv:MvS m xs l r.1 r.2
 at_:∀ s,s<70→atX r.1 m r.2 s=if s<needN size then atX xs m l s else 0
 ind:slotX r.1 m r.2 70≠0→slotX xs m l 70≠0∧768<size
 byte:∀ i,i<8960→byteX r.1 m r.2 i=if i<size then byteX xs m l i else 0
 size:sizeX r.2=size
end
section
variable {xs ys zs V W:List ByteArray} {m len n:Nat} {l l' l'' p:List Nat} {s s0 b k off size:Nat} {d:List UInt8} {F:List Nat}
theorem slotX_put (hv:IsVol xs m) (h1:1≤n) (h2:n≤m) (p l:List Nat) (s:Nat):slotX (putV xs n p) m l s=slotX xs m l s:=by
 unfold slotX
 rw [atX_put hv h1 h2,datB_put]
theorem bitV_put (hv:IsVol xs m) (h1:1≤n) (h2:n≤m) (p:List Nat) (b:Nat):bitV (putV xs n p) b=bitV xs b:=by
 unfold bitV
 rw [blkL_two hv h1 h2]
theorem byteX_put (hv:IsVol xs m) (h1:1≤n) (h2:n≤m) (p l:List Nat) (i:Nat):byteX (putV xs n p) m l i=byteX xs m l i:=by
 unfold byteX
 rw [atX_put hv h1 h2]
 by_cases h0:atX xs m l (i / 128)=0
 ·rw [if_pos h0,if_pos h0]
 ·rw [if_neg h0,if_neg h0,putV_dat hv h1 h2 p (atX_dat h0)]
theorem roomR_put (hv:IsVol xs m) (h1:1≤n) (h2:n≤m) (p:List Nat):roomR (putV xs n p)=roomR xs:=
 room_bits hv (hv.putI h1 h2 p) (putV_length _ _ _) (blkL_two hv h1 h2 p)
theorem cntS_put (hv:IsVol xs m) (h1:1≤n) (h2:n≤m) (p l:List Nat):cntS (putV xs n p) m l=cntS xs m l:=cntS_congr fun s _=>slotX_put hv h1 h2 p l s
theorem OwnS.put (hv:IsVol xs m) (h1:1≤n) (h2:n≤m) (p:List Nat) (o:OwnS xs m l):OwnS (putV xs n p) m l:=by
 refine ⟨fun s hs h0=>?_,fun s t hs ht e h0=>?_,raw_same (putV_length _ _ _) o.raw (fun _ _ _=>.inl rfl) (slotX_put hv h1 h2 p l 70) (fun h0=>putV_dat hv h1 h2 p (slotX_dat h0))⟩
 ·rw [slotX_put hv h1 h2] at h0 ⊢; rw [bitV_put hv h1 h2];exact o.used s hs h0
 ·rw [slotX_put hv h1 h2] at h0 e;rw [slotX_put hv h1 h2] at e;exact o.inj s t hs ht e h0
theorem ApartS.symm (h:ApartS xs m l l'):ApartS xs m l' l:=fun s t hs ht e=>by
 have:=h t s ht hs e.symm
 rw [e,this]
theorem sum_upd (f g:Nat→Nat):∀ (F:List Nat),F.Nodup→n ∈ F→(∀ k ∈ F,k≠n→g k=f k)→(F.map f).sum+g n=(F.map g).sum+f n
 | [],_,h,_=>by cases h
 | a::F,hn,h,hf=>by
  rw [List.nodup_cons] at hn
  simp only [List.map_cons,List.sum_cons]
  rcases List.mem_cons.1 h with rfl | hm
  ·have:F.map g=F.map f:=List.map_congr_left (fun k hk=>hf k (List.mem_cons_of_mem _ hk) (fun e=>hn.1 (e▸hk)))
   rw [this];omega
  ·have:=sum_upd f g F hn.2 hm (fun k hk=>hf k (List.mem_cons_of_mem _ hk))
   have e:=hf a (by simp) (fun e=>hn.1 (e▸hm))
   omega
end
end Go.Proofs.YtdldlendppkknaaGreatDoor
