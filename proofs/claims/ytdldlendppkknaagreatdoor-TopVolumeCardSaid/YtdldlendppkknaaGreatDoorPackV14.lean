/-
  Contracts and plain laws: QuoB, QuoC, FsPl, AttPl.
-/
import Derived.Lib.LastIndexByte
import Derived.Test.YtdldlendppkknaaGreatDoorPackV13
namespace Go.Proofs.YtdldlendppkknaaGreatDoor
open Go.RowKit
set_option linter.unusedVariables false
set_option linter.unusedSimpArgs false
set_option maxRecDepth 100000
structure SumI (B bs bv:Nat) (sl:Value) (s:Nat) (W:World):Prop where
 fs:Blk W bs 3 #[.int .i64 (s:Int)]
 fv:Blk W bv 24 #[sl]
 low:B≤bs
theorem SumI.later {B bs bv:Nat} {sl:Value} {s:Nat} {X Y:World} (h:SumI B bs bv sl s X) (hb:Below X.heap.size X Y):SumI B bs bv sl s Y:=⟨h.fs.below hb h.fs.lt,h.fv.below hb h.fv.lt,h.low⟩
set_option maxHeartbeats 2000000 in
theorem used_one (B bs bv:Nat) (A:Option Addr) (c:Nat) (xs:List ByteArray) (n s:Nat) (w:World) (hx:xs.length≤1000000) (hs:s≤1000000) (hr:RowAt w w.heap.size A (xs.map .string)) (hz:B≤w.heap.size) (h:SumI B bs bv (.slice A xs.length c) s w) :
  Calls Tryz.prog 141 #[.int .i64 (n:Int),.pointer (some ⟨bs,0,none⟩),.pointer (some ⟨bv,0,none⟩)] w fun e w'=>e=.returned (.bool true)∧SumI B bs bv (.slice A xs.length c) (s+countO xs (n:Int)) w'∧w.grownBy w' (some bs):=by
 have HS:=Lib.hid h
 have hc:=countO_le xs (n:Int)
 have CC:Hid (∀ u:Ext w,Calls Tryz.prog 19 #[.slice A xs.length c,.int .i64 (n:Int)] u.val fun e w'=>e=.returned (.int .i64 (countO xs (n:Int):Nat))∧Below u.val.heap.size u.val w'):=fun u=>count_any A c xs n u.val hx (hr.ext u)
 have u0:∀ u:Ext w,u.val.cell? ⟨bs,0,none⟩=some (.int .i64 (s:Int)):=fun u=>u.cell (HS.out.fs.cell 0 rfl)
 have u1:∀ u:Ext w,u.val.cell? ⟨bv,0,none⟩=some (.slice A xs.length c):=fun u=>u.cell (HS.out.fv.cell 0 rfl)
 clear h hr
 generalize countO xs (n:Int)=cn at *
 have s1:IntKind.i64.wrap ((s:Int)+(cn:Int))=(s:Int)+(cn:Int):=IntWalk.i64_in _ (by omega)
 go_enter Tryz.func141,Tryz.ntmps141
 go_wp2_with fail
 refine wp_region_ext_tail 5 (by kernel_rfl) (by kernel_rfl) ?_
 simp only [List.take_succ_cons,List.take_zero,List.drop_succ_cons,List.drop_zero]
 repeat (go_big_quiet_step (first
  | (go_at_call 19;with_reducible exact Ext.call (CC.out _))))
 refine wpQuiet_nil ?_
 rintro _ ⟨u,rfl⟩
 have H2:=Lib.hid (HS.out.later u.below)
 have UB:Hid (w.grownBy u.val (some bs)):=⟨u.below.os,u.below.tape,u.below.output,u.below.size,fun k hk _=>u.below.block k hk⟩
 generalize u.val=W2 at *
 clear u0 u1 CC
 have c0:=H2.out.fs.cell 0 rfl
 have c0f:=H2.out.fs.frozen 0
 go_wp2
 go_ret
 have hgr:=only_setCell (World.grownBy.refl W2 (some bs)) 0 (.int .i64 ((s:Int)+(cn:Int)))
 refine ⟨rfl,⟨?_,H2.out.fv.grown hgr (by intro e;exact H2.out.fv.ne H2.out.fs (by decide) (Option.some.inj e)),H2.out.low⟩,only_setCell UB.out 0 _⟩
 have:=H2.out.fs.set_ 0 (.int .i64 ((s:Int)+(cn:Int)))
 exact this
set_option maxHeartbeats 4000000 in
theorem owned_one (B bs bv b1 bo:Nat) (A:Option Addr) (c:Nat) (xs:List ByteArray) (owner:Int) (w:World) (hx:xs.length≤1000000) (hr:RowAt w B A (xs.map .string)) (hz:B≤w.heap.size) (h:SumI B bs bv (.slice A xs.length c) 0 w)
  (h1:Blk w b1 24 #[.slice A xs.length c]) (h2:Blk w bo 3 #[.int .i64 owner]) (hne:bo≠bs) :
  Calls Tryz.prog 199 #[.func (Fn.func 141) #[] #[.pointer (some ⟨bs,0,none⟩),.pointer (some ⟨bv,0,none⟩)],.pointer (some ⟨b1,0,none⟩),.pointer (some ⟨bo,0,none⟩)] w
   fun e w'=>e=.returned (.tuple #[])∧SumI B bs bv (.slice A xs.length c) (usedO xs owner) w'∧Below B w w':=by
 have HS:=Lib.hid h
 have G1:=Lib.hid h1
 have G2:=Lib.hid h2
 have HNE:Hid (bo≠bs):=hne
 have HR:=Lib.hid hr
 have hal:=allO_len xs
 have CA:=Lib.hid (all_ino A c xs w hx (hr.mono hz))
 have c1:=h1.cell 0 rfl
 have HOK:=Lib.hid (fun n (hn:n ∈ allO xs)=>allO_ok hn)
 have HU:Hid (usedO xs owner=usedL xs owner (allO xs)):=rfl
 clear h h1 h2 hr hne
 go_enter Tryz.func199,Tryz.ntmps199
 go_wp2_with fail
 refine CA.out.mono ?_
 rintro e w1 ⟨⟨v,rfl,hown⟩,hb1⟩
 obtain ⟨A1,cc,rfl,hrow⟩:=hown.read
 have ON:Hid (w1.ownsRow w.heap.size 3 1 (.slice A1 (allO xs).length cc) (allO xs).length (numsC (allO xs))):=hown
 have H1:=Lib.hid (HS.out.later hb1)
 have B1:=Lib.hid (hb1.mono hz)
 have hbs:Hid (bs<w.heap.size):=HS.out.fs.lt
 replace G1:=Lib.hid (G1.out.below hb1 G1.out.lt)
 replace G2:=Lib.hid (G2.out.below hb1 G2.out.lt)
 clear hb1 hown hrow CA c1 HS
 generalize allO xs=ns at *
 go_wp2
 go_loopw [11] (fun i wr=>∃ k:Nat,k≤ns.length∧i=.int .i64 k∧Hid (SumI B bs bv (.slice A xs.length c) (usedL xs owner (ns.take k)) wr)∧Hid (Blk wr b1 24 #[.slice A xs.length c])∧Hid (Blk wr bo 3 #[.int .i64 owner])∧Hid (wr.ownsRow w.heap.size 3 1 (.slice A1 ns.length cc) ns.length (numsC ns))∧Hid (Below B w wr)) (fun i _=>ns.length-(intOf i).toNat)
 case atStart=>exact ⟨0,Nat.zero_le _,rfl,H1,G1,G2,ON,B1⟩
 case round=>
  obtain ⟨k,hk,rfl,HSK,GK1,GK2,OK,BK⟩:=hrel
  by_cases hlt:k<ns.length
  ·have hmem:=List.getElem_mem hlt
   have HEX:=Lib.hid (HOK.out _ hmem)
   have HSN:Hid (usedL xs owner (ns.take (k+1))=usedL xs owner (ns.take k)+(if hisB xs owner ns[k]=true then countO xs ((ns[k]:Nat):Int) else 0)):=by
    show _=_
    rw [List.take_succ_eq_append_getElem hlt,usedL_snoc]
   have hsl:=usedL_le xs owner (ns.take k)
   rw [List.length_take] at hsl
   obtain ⟨gn,gc,hgn⟩:=Go.Joins.ownsRow_form OK.out (by omega)
   cases hgn
   have hgnb:w.heap.size≤gn:=(OK.out.lt gn rfl).1
   have cn:wr.cell? ⟨gn,k,none⟩=some (.int .i64 ((ns[k]:Nat):Int)):=by
    rw [OK.out.cellAt k (by omega)]
    unfold numsC
    simp [hlt]
   have CG:=Lib.hid (get_ino A c xs ((ns[k]:Nat):Int) wr hx ((HR.out.below BK.out).mono (by have:=BK.out.size;omega)))
   obtain ⟨a0,a1,a2,a3,a4,a5,a6,a7,a8,a9,a10,a11,hg⟩:=len12 (getR_len xs ((ns[k]:Nat):Int))
   have HH:Hid (hisB xs owner ns[k]=decide ((a2:Int)=owner)):=by show _=_;unfold hisB;rw [hg];rfl
   rw [hg,HEX.out] at CG
   unfold inoC at CG
   simp only [List.map_cons,List.map_nil] at CG
   have cv:=GK1.out.cell 0 rfl
   generalize hxk:ns[k]=x at *
   have hsl2:usedL xs owner (ns.take k)≤1000000:=by omega
   generalize usedL xs owner (ns.take k)=s at *
   have hk64:k<64:=by omega
   clear hg hmem HEX hxk hsl hal
   go_wp2_with fail
   refine CG.out.mono ?_
   rintro e w3 ⟨rfl,hb3⟩
   have S3:=Lib.hid (HSK.out.later hb3)
   have G13:=Lib.hid (GK1.out.below hb3 GK1.out.lt)
   have G23:=Lib.hid (GK2.out.below hb3 GK2.out.lt)
   have O3:=Lib.hid (own_below OK.out hb3)
   have B3:=Lib.hid (BK.out.trans (hb3.mono (by have:=BK.out.size;omega)))
   clear hb3 CG HSK GK1 GK2 OK BK cn cv
   have I3:=(Below.refl w3.heap.size w3).alloc (Nat.le_refl _) (.cells #[.int .i64 (a0:Int),.int .i64 (a1:Int),.int .i64 (a2:Int),.int .i64 (a3:Int),.int .i64 (a4:Int),.int .i64 (a5:Int),.int .i64 (a6:Int),.int .i64 (a7:Int),.int .i64 (a8:Int),.int .i64 (a9:Int),.int .i64 (a10:Int),.int .i64 (a11:Int)] 39)
   have S4:=Lib.hid (S3.out.later I3)
   have G14:=Lib.hid (G13.out.below I3 G13.out.lt)
   have G24:=Lib.hid (G23.out.below I3 G23.out.lt)
   have O4:=Lib.hid (own_below O3.out I3)
   have B4:=Lib.hid (B3.out.trans (I3.mono (by have:=B3.out.size;omega)))
   have co:=G24.out.cell 0 rfl
   by_cases hown:(a2:Int)=owner
   ·have HE:Hid (usedL xs owner (ns.take (k+1))=s+countO xs (x:Int)):=by show _=_;rw [HSN.out,HH.out,if_pos (by simpa using hown)]
    clear I3 S3 G13 G23 O3 B3 HH HSN
    subst hown
    go_wp2_with fail
    refine (used_one B bs bv A c xs x s _ hx hsl2 ((HR.out.below B4.out).mono (by have:=B4.out.size;omega)) (by have:=B4.out.size;omega) S4.out).mono ?_
    rintro e w5 ⟨rfl,hs5,hg5⟩
    rw [← HE.out] at hs5
    have S5:=Lib.hid hs5
    have G15:=Lib.hid (G14.out.grown hg5 (by intro e;exact G14.out.ne S4.out.fs (by decide) (Option.some.inj e)))
    have G25:=Lib.hid (G24.out.grown hg5 (by intro e;exact HNE.out (Option.some.inj e)))
    have O5:=Lib.hid (O4.out.kept hg5 (.inr (by intro e;have e':gn=bs:=Option.some.inj e;have:=hbs.out;omega)))
    have B5:=Lib.hid (B4.out.grown hg5 (by have:=B4.out.size;omega) (fun j e=>by cases e;exact S4.out.low))
    clear hs5 hg5 S4 G14 G24 O4 B4
    go_wp2
    go_roundw
    case rel=>exact ⟨k+1,by omega,by go_num,S5,G15,G25,O5,B5⟩
    case measure=>simp [intOf];omega
   ·have HE:Hid (usedL xs owner (ns.take (k+1))=s):=by show _=_;rw [HSN.out,HH.out,if_neg (by simpa using hown)];rfl
    have hne2:((a2:Int) == owner)=false:=by simpa using hown
    clear I3 S3 G13 G23 O3 B3 HH HSN
    rw [← HE.out] at S4
    go_wp2
    go_roundw
    case rel=>exact ⟨k+1,by omega,by go_num,S4,G14,G24,O4,B4⟩
    case measure=>simp [intOf];omega
  ·obtain rfl:k=ns.length:=by omega
   rw [List.take_length,← HU.out] at HSK
   go_wp2
   go_end0
   exact ⟨rfl,HSK.out,BK.out⟩
theorem owned_quo (A:Option Addr) (c:Nat) (xs:List ByteArray) (owner:Int) (w:World) :
  Calls Tryz.prog 140 #[.slice A xs.length c,.int .i64 owner] w fun e w'=>∃ b1 bo,e=.returned (.func (Fn.func 199) #[] #[.pointer (some ⟨b1,0,none⟩),.pointer (some ⟨bo,0,none⟩)])∧w.heap.size≤bo∧Blk w' b1 24 #[.slice A xs.length c]∧Blk w' bo 3 #[.int .i64 owner]∧Below w.heap.size w w':=by
 go_enter Tryz.func140,Tryz.ntmps140
 go_wp2
 go_ret
 refine ⟨_,_,rfl,?_,(Blk.new w _ _).alloc _,?_,((Below.refl w.heap.size w).alloc (Nat.le_refl _) _).alloc (by simp) _⟩
 ·simp
 ·have:=Blk.new (w.alloc (.cells #[.slice A xs.length c] 24)) 3 #[.int .i64 owner]
  rw [World.size_alloc] at this
  exact this
set_option maxHeartbeats 2000000 in
theorem used_quo (A:Option Addr) (c:Nat) (xs:List ByteArray) (owner:Int) (w:World) (hx:xs.length≤1000000) (h:RowAt w w.heap.size A (xs.map .string)) :
  Calls Tryz.prog 69 #[.slice A xs.length c,.int .i64 owner] w fun e w'=>e=.returned (.int .i64 (usedO xs owner:Nat))∧Below w.heap.size w w':=by
 obtain ⟨W0,hW0⟩:∃ W0,((w.alloc (.cells #[.slice A xs.length c] 24)).alloc (.cells #[.int .i64 0] 3))=W0:=⟨_,rfl⟩
 have HW0:=Lib.hid hW0
 have B0:Hid (Below w.heap.size w W0):=hW0▸((Below.refl w.heap.size w).alloc (Nat.le_refl _) _).alloc (by simp) _
 have S0:Hid (SumI w.heap.size (w.heap.size+1) w.heap.size (.slice A xs.length c) 0 W0):=by
  rw [← hW0]
  refine ⟨?_,(Blk.new w _ _).alloc _,by omega⟩
  have:=Blk.new (w.alloc (.cells #[.slice A xs.length c] 24)) 3 #[.int .i64 0]
  rw [World.size_alloc] at this
  exact this
 have HR:=Lib.hid h
 have HU:=usedO_le xs owner
 clear h hW0
 go_enter Tryz.func69,Tryz.ntmps69
 go_wp2_with fail
 rw [HW0.out]
 refine (owned_quo A c xs owner W0).mono ?_
 rintro e w1 ⟨b1,bo,rfl,hbo,hb1,hb2,hb⟩
 have S1:=Lib.hid (S0.out.later hb)
 have B1:=Lib.hid (B0.out.trans (hb.mono B0.out.size))
 have hlt:w.heap.size+1<W0.heap.size:=S0.out.fs.lt
 have CW:=Lib.hid (owned_one w.heap.size (w.heap.size+1) w.heap.size b1 bo A c xs owner w1 hx (HR.out.below B1.out) B1.out.size S1.out hb1 hb2 (by omega))
 clear hb hb1 hb2 HW0 S0 hlt
 go_wp2_with fail
 refine CW.out.mono ?_
 rintro e w2 ⟨rfl,hs2,hb2⟩
 have S2:=Lib.hid hs2
 have B2:=Lib.hid (B1.out.trans hb2)
 have c0:=hs2.fs.cell 0 rfl
 clear hs2 hb2 CW S1
 go_wp2
 go_ret
 exact ⟨rfl,B2.out⟩
set_option maxHeartbeats 4000000 in
theorem set_quo (A:Option Addr) (c:Nat) (xs:List ByteArray) (o lm:Int) (w:World) (hx:xs.length≤1000000) (h:RowAt w w.heap.size A (xs.map .string)) :
  Calls Tryz.prog 36 #[.slice A xs.length c,.int .i64 o,.int .i64 lm] w (RowCode (setO xs o lm).1 (setO xs o lm).2 w):=by
 have HR:=Lib.hid h
 clear h
 cases ho:ofR xs with
 | none=>
  have HL:Hid (setO xs o lm=([],3)):=by show _=_;unfold setO quoE;rw [ho];rfl
  have CO:=Lib.hid (of_any A c xs w hx HR.out)
  unfold OfPost ofE at CO
  rw [ho] at CO
  dsimp only at CO
  clear ho
  go_enter Tryz.func36,Tryz.ntmps36
  go_wp2_with fail
  refine CO.out.mono ?_
  rintro e w1 ⟨rfl,hb1⟩
  have B1:=Lib.hid hb1
  have hz1:=hb1.size
  clear hb1
  go_wp2
  go_ret2
  rw [HL.out]
  exact ⟨⟨_,rfl,own_nil _ _⟩,B1.out.alloc hz1 _⟩
 | some m=>
  have hv:=ofR_some.1 ho
  have hvl:=hv.len
  have CO:=Lib.hid (of_any A c xs w hx HR.out)
  unfold OfPost ofE at CO
  rw [ho] at CO
  dsimp only at CO
  by_cases hb:o<0∨16≤o
  ·have HL:Hid (setO xs o lm=([],1)):=by show _=_;unfold setO quoE;rw [ho];dsimp only;rw [if_pos hb,if_pos (by omega)]
   have HQ:Hid (decide (0≤o∧o<16)=false):=by show _=_;rw [decide_eq_false_iff_not];omega
   clear ho hv hb
   go_enter Tryz.func36,Tryz.ntmps36
   go_wp2_with fail
   refine CO.out.mono ?_
   rintro e w1 ⟨rfl,hb1⟩
   have B1:=Lib.hid hb1
   have hz1:=hb1.size
   have G1:=Lib.hid (Blk.new w1 51 #[.int .i64 (xs.length:Int),.int .i64 (m:Int),.int .i64 1,.int .i64 2,.int .i64 3,.int .i64 (dataN m:Int)])
   have B2:=Lib.hid (B1.out.alloc hz1 (.cells #[.int .i64 (xs.length:Int),.int .i64 (m:Int),.int .i64 1,.int .i64 2,.int .i64 3,.int .i64 (dataN m:Int)] 51))
   have R2:=Lib.hid ((HR.out.below B2.out).mono B2.out.size)
   clear hb1 CO
   go_wp2_with fail
   refine (quo_is o _).mono ?_
   rw [HQ.out]
   rintro e w' ⟨rfl,rfl⟩
   go_wp2
   go_ret2
   rw [HL.out]
   exact ⟨⟨_,rfl,own_nil _ _⟩,B2.out⟩
  ·obtain ⟨q,rfl⟩:=Int.eq_ofNat_of_zero_le (show 0≤o by omega)
   have hq:q<16:=by omega
   have HE:Hid (quoE xs (q:Int)=0):=by show _=_;unfold quoE;rw [ho];dsimp only;rw [if_neg hb]
   have HQ:Hid (decide (0≤(q:Int)∧(q:Int)<16)=true):=by show _=_;rw [decide_eq_true_iff];omega
   have HL0:Hid (setO xs (q:Int) lm=if lm<0∨65535<lm then ([],2) else if overB xs (q:Int) lm=true then ([],13) else (layX xs 1 (2 * q) (putL lm.toNat 2),0)):=by show _=_;unfold setO;rw [HE.out];rfl
   by_cases hl:lm<0∨65535<lm
   ·have HL:Hid (setO xs (q:Int) lm=([],2)):=by show _=_;rw [HL0.out,if_pos hl]
    clear ho hv hb HL0
    by_cases hl1:lm<0
    ·clear hl
     go_enter Tryz.func36,Tryz.ntmps36
     go_wp2_with fail
     refine CO.out.mono ?_
     rintro e w1 ⟨rfl,hb1⟩
     have B1:=Lib.hid hb1
     have hz1:=hb1.size
     have G1:=Lib.hid (Blk.new w1 51 #[.int .i64 (xs.length:Int),.int .i64 (m:Int),.int .i64 1,.int .i64 2,.int .i64 3,.int .i64 (dataN m:Int)])
     have B2:=Lib.hid (B1.out.alloc hz1 (.cells #[.int .i64 (xs.length:Int),.int .i64 (m:Int),.int .i64 1,.int .i64 2,.int .i64 3,.int .i64 (dataN m:Int)] 51))
     have R2:=Lib.hid ((HR.out.below B2.out).mono B2.out.size)
     clear hb1 CO
     go_wp2_with fail
     refine (quo_is (q:Int) _).mono ?_
     rw [HQ.out]
     rintro e w' ⟨rfl,rfl⟩
     go_wp2
     go_ret2
     rw [HL.out]
     exact ⟨⟨_,rfl,own_nil _ _⟩,B2.out⟩
    ·have hl2:65535<lm:=by omega
     clear hl
     go_enter Tryz.func36,Tryz.ntmps36
     go_wp2_with fail
     refine CO.out.mono ?_
     rintro e w1 ⟨rfl,hb1⟩
     have B1:=Lib.hid hb1
     have hz1:=hb1.size
     have G1:=Lib.hid (Blk.new w1 51 #[.int .i64 (xs.length:Int),.int .i64 (m:Int),.int .i64 1,.int .i64 2,.int .i64 3,.int .i64 (dataN m:Int)])
     have B2:=Lib.hid (B1.out.alloc hz1 (.cells #[.int .i64 (xs.length:Int),.int .i64 (m:Int),.int .i64 1,.int .i64 2,.int .i64 3,.int .i64 (dataN m:Int)] 51))
     have R2:=Lib.hid ((HR.out.below B2.out).mono B2.out.size)
     clear hb1 CO
     go_wp2_with fail
     refine (quo_is (q:Int) _).mono ?_
     rw [HQ.out]
     rintro e w' ⟨rfl,rfl⟩
     go_wp2
     go_ret2
     rw [HL.out]
     exact ⟨⟨_,rfl,own_nil _ _⟩,B2.out⟩
   obtain ⟨k,rfl⟩:=Int.eq_ofNat_of_zero_le (show 0≤lm by omega)
   rw [if_neg hl,Int.toNat_natCast] at HL0
   have hk1:decide ((k:Int)<0)=false:=by simp
   have hk2:¬ 65535<(k:Int):=by omega
   have hkk:k≤65535:=by omega
   obtain ⟨j0,q1,q2,q3,q4⟩:=info_parts str_info
   have J0:=Lib.hid (And.intro q1 (And.intro q2 (And.intro q3 q4)))
   obtain ⟨bb,oo,rfl,hbb,hc⟩:=row_get HR.out 1 (by omega)
   have hsz:=hv.size 1 (by omega)
   have HLX:Hid (layX xs 1 (2 * q) (putL k 2)=xs.set 1 (layB (xs.getD 1 ⟨#[]⟩) (2 * q) (putL k 2))):=rfl
   generalize hs:xs.getD 1 ⟨#[]⟩=s at hsz hc HLX
   have HS:=Lib.hid hs
   obtain ⟨p,hp⟩:∃ p,2 * q=p:=⟨_,rfl⟩
   rw [hp] at HLX HL0
   have p1:(2:Int) * (q:Int)=(p:Int):=by omega
   have p2:p+2≤128:=by omega
   obtain ⟨st,hst⟩:∃ st:ByteArray,(⟨(putL k 2).toArray⟩:ByteArray)=st:=⟨_,rfl⟩
   have hstl:st.data.toList=putL k 2:=by rw [← hst]
   have hst2:st.size=2:=by
    rw [← hst]
    show (putL k 2).toArray.size=2
    rw [List.size_toArray,putL_length]
   have CP:Hid (∀ (W:World) (u:Ext W),Calls Tryz.prog 93 #[.int .u64 k,.int .i64 2] u.val fun e w'=>e=.returned (.string st)∧Below u.val.heap.size u.val w'):=fun W u=>by
    have:=put_any k 2 u.val (by omega) (by omega)
    rw [hst] at this
    exact this
   have HLAY:Hid (layX xs 1 p (putL k 2)=xs.set 1 (s.extract 0 p++st++s.extract (p+2) s.size)):=by
    show _=_
    rw [HLX.out]
    congr 1
    apply WideShapes.bytes_inj
    have e1:=Lib.extract_data s 0 p
    have e2:(s.extract (p+2) s.size).data.toList=s.data.toList.drop (p+2):=by
     rw [Lib.extract_data,List.take_of_length_le]
     rw [List.length_drop,Array.length_toList];exact Nat.le_refl _
    rw [layB_list,putL_length]
    simp only [ByteArray.data_append,Array.toList_append,e1,e2,List.drop_zero,Nat.sub_zero,hstl]
   have ze:∀ a b,a≤b→b≤128→(s.extract a b).size=b-a:=fun a b h1 h2=>by rw [ByteArray.size_extract];omega
   have ad1:=fun (w:World)=>run_string_add_sum (P:=Tryz.prog) (w:=w) (s.extract 0 p) st (by rw [ze 0 p (by omega) (by omega)];omega)
   have ad2:=fun (w:World)=>run_string_add_sum (P:=Tryz.prog) (w:=w) (s.extract 0 p++st) (s.extract (p+2) s.size) (by rw [ByteArray.size_append,ze 0 p (by omega) (by omega),ze (p+2) s.size (by omega) (by omega)];omega)
   have s1:IntKind.i64.wrap ((p:Int)+2)=(p:Int)+2:=IntWalk.i64_in _ (by omega)
   have s2:(0:Int)≤(p:Int)+2:=by omega
   have s3:((p:Int)+2).toNat=p+2:=by omega
   have s4:(p:Int)≤(s.size:Int):=by omega
   have s5:(p:Int)+2≤(s.size:Int):=by omega
   have s6:(0:Int)≤(p:Int):=by omega
   have s7:(1:Int)<(xs.length:Int):=by omega
   have s8:IntKind.u64.wrap (k:Int)=(k:Int):=IntWalk.u64_in _ (by omega)
   have hul:=usedO_le xs (q:Int)
   clear ho hv hb hl q1 q2 q3 q4 hst hp hs HLX HE ze hstl hsz
   have A':Option Addr:=some ⟨bb,oo,none⟩
   by_cases hk0:k=0
   ·subst hk0
    have HO:Hid (overB xs (q:Int) 0=false):=by show _=_;unfold overB;simp
    have HL:Hid (setO xs (q:Int) ((0:Nat):Int)=(layX xs 1 p (putL 0 2),0)):=by show _=_;rw [HL0.out];rw [show ((0:Nat):Int)=0 from rfl,HO.out];rfl
    clear HL0 HO
    have e0:((0:Nat):Int)=0:=rfl
    rw [e0] at HL CP s8 ⊢
    clear e0
    go_enter Tryz.func36,Tryz.ntmps36
    go_wp2_with fail
    refine CO.out.mono ?_
    rintro e w1 ⟨rfl,hb1⟩
    have B1:=Lib.hid hb1
    have hz1:=hb1.size
    have G1:=Lib.hid (Blk.new w1 51 #[.int .i64 (xs.length:Int),.int .i64 (m:Int),.int .i64 1,.int .i64 2,.int .i64 3,.int .i64 (dataN m:Int)])
    have B2:=Lib.hid (B1.out.alloc hz1 (.cells #[.int .i64 (xs.length:Int),.int .i64 (m:Int),.int .i64 1,.int .i64 2,.int .i64 3,.int .i64 (dataN m:Int)] 51))
    have R2:=Lib.hid ((HR.out.below B2.out).mono B2.out.size)
    clear hb1 CO
    go_wp2_with fail
    refine (quo_is (q:Int) _).mono ?_
    rw [HQ.out]
    rintro e w' ⟨rfl,rfl⟩
    generalize hw2:w1.alloc _=w2 at *
    clear hw2
    have R3:=Lib.hid ((HR.out.below B2.out).mono B2.out.size)
    have c2:=G1.out.cell 2 rfl
    have HC:Hid (∀ j u,(xs.map Value.string)[j]?=some u→w2.cell? ((⟨bb,oo,none⟩:Addr).add j)=some u):=fun j u hu=>by
     have:(⟨bb,oo,none⟩:Addr).add j=⟨bb,oo+j,none⟩:=by unfold Addr.add;split <;> simp_all
     obtain ⟨b',o',hA,_,hcc⟩:=R3.out.at_ (by simp;omega)
     cases hA
     rw [this];exact hcc j u hu
    have H1:=Lib.hid (str_cells xs)
    have HM:Hid (0+xs.length≤maxLen):=by show _≤_;unfold maxLen;omega
    have HY:Hid ((0+xs.length) * 16≤140737488355328):=by show _≤_;omega
    have hzW:w.heap.size≤w2.heap.size:=B2.out.size
    have cs:w2.cell? ⟨bb,oo+1,none⟩=some (.string s):=(B2.out.cell (p:=⟨bb,oo+1,none⟩) hbb).trans hc
    go_wp2_with (at_builtin;refine wpList_append_own _ rfl (.const (.slice none 0 0)) (.tmp 38) 24 rfl w.heap.size 9 j0 (.string ⟨#[]⟩) 1 16 Tryz.underlying24 J0.out.1 J0.out.2.1 J0.out.2.2.1 J0.out.2.2.2 rfl (by decide) _ 0 [] rfl (World.ownsRow_nil _ _ _ _) ⟨bb,oo,none⟩ xs.length c (xs.map .string) rfl (by rw [List.length_map,Nat.mul_one]) HC.out H1.out HM.out HY.out hzW ?_;intro v9 W2 own hg hv9;rw [Nat.zero_add,List.nil_append] at own;have hg0:World.grownBy _ W2 none:=hg;obtain ⟨gr,cr,rfl⟩:=Go.Joins.ownsRow_form own (by omega);have G4:=G1.out.grown hg0 (by simp);have c4:=G4.cell 2 rfl;have cs4:W2.cell? ⟨bb,oo+1,none⟩=some (.string s):=((B2.out.grown hg0 hzW (by intro k hk;cases hk)).cell (p:=⟨bb,oo+1,none⟩) hbb).trans hc)
    have OR:=Lib.hid own
    have B4:=Lib.hid (B2.out.grown hg0 hzW (by intro k hk;cases hk))
    have hgr:w.heap.size≤gr:=(own.lt gr rfl).1
    clear hg hg0 hv9 own
    have u1:∀ u:Ext W2,u.val.cell? ⟨w1.heap.size,2,none⟩=some (.int .i64 1):=fun u=>u.cell c4
    clear c2 cs c4 HC H1 HM HY
    refine wp_region_ext_tail 18 (by kernel_rfl) (by kernel_rfl) ?_
    simp only [List.take_succ_cons,List.take_zero,List.drop_succ_cons,List.drop_zero]
    repeat (go_big_quiet_step (first
     | (go_at_call 93;with_reducible exact Ext.call (CP.out _ _))))
    refine wpQuiet_nil ?_
    rintro _ ⟨u,rfl⟩
    have OR3:=Lib.hid (own_below OR.out u.below)
    have B5:=Lib.hid (B4.out.trans (u.below.mono B4.out.size))
    generalize u.val=W3 at *
    clear u1
    have d1:W3.cell? ⟨gr,1,none⟩=some (.string (xs.getD 1 ⟨#[]⟩)):=by
     rw [OR3.out.cellAt 1 (by omega)]
     rw [List.getElem?_map,List.getD_eq_getElem?_getD,List.getElem?_eq_getElem (by omega)];rfl
    have d2:W3.frozen? ⟨gr,1,none⟩=false:=OR3.out.frozenAt 1
    generalize xs.getD 1 ⟨#[]⟩=s' at d1
    obtain ⟨o1,o2⟩:=World.ownsRow.stored OR3.out 1 (.string (s.extract 0 p++st++s.extract (p+2) s.size))
    have OR4:=Lib.hid o1
    have B6:=Lib.hid (B5.out.setCell hgr (p:=⟨gr,1,none⟩) (.string (s.extract 0 p++st++s.extract (p+2) s.size)))
    clear o1 o2
    go_wp2
    go_ret2
    rw [HL.out]
    refine ⟨⟨_,rfl,?_⟩,B6.out⟩
    unfold OwnRow
    rw [HLAY.out,List.length_set,List.map_set]
    exact OR4.out
   ·have hkne:¬ (k:Int)=0:=by omega
    by_cases hov:k<usedO xs (q:Int)
    ·have HO:Hid (overB xs (q:Int) (k:Int)=true):=by show _=_;unfold overB;rw [decide_eq_true_iff];omega
     have HL:Hid (setO xs (q:Int) (k:Int)=([],13)):=by show _=_;rw [HL0.out,HO.out];rfl
     have hov2:(k:Int)<(usedO xs (q:Int):Int):=by omega
     clear HL0 HO
     go_enter Tryz.func36,Tryz.ntmps36
     go_wp2_with fail
     refine CO.out.mono ?_
     rintro e w1 ⟨rfl,hb1⟩
     have B1:=Lib.hid hb1
     have hz1:=hb1.size
     have G1:=Lib.hid (Blk.new w1 51 #[.int .i64 (xs.length:Int),.int .i64 (m:Int),.int .i64 1,.int .i64 2,.int .i64 3,.int .i64 (dataN m:Int)])
     have B2:=Lib.hid (B1.out.alloc hz1 (.cells #[.int .i64 (xs.length:Int),.int .i64 (m:Int),.int .i64 1,.int .i64 2,.int .i64 3,.int .i64 (dataN m:Int)] 51))
     have R2:=Lib.hid ((HR.out.below B2.out).mono B2.out.size)
     clear hb1 CO
     go_wp2_with fail
     refine (quo_is (q:Int) _).mono ?_
     rw [HQ.out]
     rintro e w' ⟨rfl,rfl⟩
     go_wp2_with fail
     refine (used_quo _ c xs (q:Int) _ hx R2.out).mono ?_
     rintro e w3 ⟨rfl,hb3⟩
     have B3:=Lib.hid (B2.out.trans (hb3.mono B2.out.size))
     have G3:=Lib.hid (G1.out.below hb3 G1.out.lt)
     clear hb3
     generalize usedO xs (q:Int)=uo at *
     go_wp2
     go_ret2
     rw [HL.out]
     exact ⟨⟨_,rfl,own_nil _ _⟩,B3.out⟩
    ·have HO:Hid (overB xs (q:Int) (k:Int)=false):=by show _=_;unfold overB;rw [decide_eq_false_iff_not];omega
     have HL:Hid (setO xs (q:Int) (k:Int)=(layX xs 1 p (putL k 2),0)):=by show _=_;rw [HL0.out,HO.out];rfl
     have hov2:¬ (k:Int)<(usedO xs (q:Int):Int):=by omega
     clear HL0 HO
     go_enter Tryz.func36,Tryz.ntmps36
     go_wp2_with fail
     refine CO.out.mono ?_
     rintro e w1 ⟨rfl,hb1⟩
     have B1:=Lib.hid hb1
     have hz1:=hb1.size
     have G1:=Lib.hid (Blk.new w1 51 #[.int .i64 (xs.length:Int),.int .i64 (m:Int),.int .i64 1,.int .i64 2,.int .i64 3,.int .i64 (dataN m:Int)])
     have B2:=Lib.hid (B1.out.alloc hz1 (.cells #[.int .i64 (xs.length:Int),.int .i64 (m:Int),.int .i64 1,.int .i64 2,.int .i64 3,.int .i64 (dataN m:Int)] 51))
     have R2:=Lib.hid ((HR.out.below B2.out).mono B2.out.size)
     clear hb1 CO
     go_wp2_with fail
     refine (quo_is (q:Int) _).mono ?_
     rw [HQ.out]
     rintro e w' ⟨rfl,rfl⟩
     go_wp2_with fail
     refine (used_quo _ c xs (q:Int) _ hx R2.out).mono ?_
     rintro e w3 ⟨rfl,hb3⟩
     have B3:=Lib.hid (B2.out.trans (hb3.mono B2.out.size))
     have G3:=Lib.hid (G1.out.below hb3 G1.out.lt)
     clear hb3
     generalize usedO xs (q:Int)=uo at *
     have R3:=Lib.hid ((HR.out.below B3.out).mono B3.out.size)
     have c2:=G3.out.cell 2 rfl
     have HC:Hid (∀ j u,(xs.map Value.string)[j]?=some u→w3.cell? ((⟨bb,oo,none⟩:Addr).add j)=some u):=fun j u hu=>by
      have:(⟨bb,oo,none⟩:Addr).add j=⟨bb,oo+j,none⟩:=by unfold Addr.add;split <;> simp_all
      obtain ⟨b',o',hA,_,hcc⟩:=R3.out.at_ (by simp;omega)
      cases hA
      rw [this];exact hcc j u hu
     have H1:=Lib.hid (str_cells xs)
     have HM:Hid (0+xs.length≤maxLen):=by show _≤_;unfold maxLen;omega
     have HY:Hid ((0+xs.length) * 16≤140737488355328):=by show _≤_;omega
     have hzW:w.heap.size≤w3.heap.size:=B3.out.size
     have cs:w3.cell? ⟨bb,oo+1,none⟩=some (.string s):=(B3.out.cell (p:=⟨bb,oo+1,none⟩) hbb).trans hc
     go_wp2_with (at_builtin;refine wpList_append_own _ rfl (.const (.slice none 0 0)) (.tmp 38) 24 rfl w.heap.size 9 j0 (.string ⟨#[]⟩) 1 16 Tryz.underlying24 J0.out.1 J0.out.2.1 J0.out.2.2.1 J0.out.2.2.2 rfl (by decide) _ 0 [] rfl (World.ownsRow_nil _ _ _ _) ⟨bb,oo,none⟩ xs.length c (xs.map .string) rfl (by rw [List.length_map,Nat.mul_one]) HC.out H1.out HM.out HY.out hzW ?_;intro v9 W2 own hg hv9;rw [Nat.zero_add,List.nil_append] at own;have hg0:World.grownBy _ W2 none:=hg;obtain ⟨gr,cr,rfl⟩:=Go.Joins.ownsRow_form own (by omega);have G4:=G3.out.grown hg0 (by simp);have c4:=G4.cell 2 rfl;have cs4:W2.cell? ⟨bb,oo+1,none⟩=some (.string s):=((B3.out.grown hg0 hzW (by intro k hk;cases hk)).cell (p:=⟨bb,oo+1,none⟩) hbb).trans hc)
     have OR:=Lib.hid own
     have B4:=Lib.hid (B3.out.grown hg0 hzW (by intro k hk;cases hk))
     have hgr:w.heap.size≤gr:=(own.lt gr rfl).1
     clear hg hg0 hv9 own
     have u1:∀ u:Ext W2,u.val.cell? ⟨w1.heap.size,2,none⟩=some (.int .i64 1):=fun u=>u.cell c4
     clear c2 cs c4 HC H1 HM HY
     refine wp_region_ext_tail 18 (by kernel_rfl) (by kernel_rfl) ?_
     simp only [List.take_succ_cons,List.take_zero,List.drop_succ_cons,List.drop_zero]
     repeat (go_big_quiet_step (first
      | (go_at_call 93;with_reducible exact Ext.call (CP.out _ _))))
     refine wpQuiet_nil ?_
     rintro _ ⟨u,rfl⟩
     have OR3:=Lib.hid (own_below OR.out u.below)
     have B5:=Lib.hid (B4.out.trans (u.below.mono B4.out.size))
     generalize u.val=W3 at *
     clear u1
     have d1:W3.cell? ⟨gr,1,none⟩=some (.string (xs.getD 1 ⟨#[]⟩)):=by
      rw [OR3.out.cellAt 1 (by omega)]
      rw [List.getElem?_map,List.getD_eq_getElem?_getD,List.getElem?_eq_getElem (by omega)];rfl
     have d2:W3.frozen? ⟨gr,1,none⟩=false:=OR3.out.frozenAt 1
     generalize xs.getD 1 ⟨#[]⟩=s' at d1
     obtain ⟨o1,o2⟩:=World.ownsRow.stored OR3.out 1 (.string (s.extract 0 p++st++s.extract (p+2) s.size))
     have OR4:=Lib.hid o1
     have B6:=Lib.hid (B5.out.setCell hgr (p:=⟨gr,1,none⟩) (.string (s.extract 0 p++st++s.extract (p+2) s.size)))
     clear o1 o2
     go_wp2
     go_ret2
     rw [HL.out]
     refine ⟨⟨_,rfl,?_⟩,B6.out⟩
     unfold OwnRow
     rw [HLAY.out,List.length_set,List.map_set]
     exact OR4.out
def aboveB (p:ByteArray):ByteArray:=p.extract 0 (max (Lib.lastIndexByte p 47) 1).toNat
def lastB (p:ByteArray):ByteArray:=p.extract (Lib.lastIndexByte p 47+1).toNat p.size
def beyB (xs ys:List ByteArray) (o:Nat):Bool:=
 decide ((limitO ys (o:Int)).2=0) && decide ((limitO ys (o:Int)).1≠0) && decide ((limitO ys (o:Int)).1<(usedO ys (o:Int):Int)) && decide (usedO xs (o:Int)<usedO ys (o:Int))
def beyondO (xs ys:List ByteArray):Bool:=(List.range 16).any (beyB xs ys)
def weighO (xs:List ByteArray) (r:List ByteArray × Int):List ByteArray × Int:=if r.2≠0 then ([],r.2) else if beyondO xs r.1=true then ([],13) else (r.1,0)
def noB:ByteArray:=⟨#[]⟩
def vacO (xs:List ByteArray) (p:ByteArray):Int × ByteArray × Int:=
 if mayP p.data.toList=false then (0,noB,7) else if p.data.toList=[47] then (0,noB,8)
 else if (pathO xs (aboveB p).data.toList).2≠0 then (0,noB,(pathO xs (aboveB p).data.toList).2)
 else if (findO xs (pathO xs (aboveB p).data.toList).1 (lastB p)).2=9 then ((pathO xs (aboveB p).data.toList).1,lastB p,0)
 else if (findO xs (pathO xs (aboveB p).data.toList).1 (lastB p)).2=0 then (0,noB,8)
 else (0,noB,(findO xs (pathO xs (aboveB p).data.toList).1 (lastB p)).2)
def madeI (xs:List ByteArray) (p:ByteArray) (kind owner:Int):List ByteArray × Int:=
 if (vacO xs p).2.2≠0 then ([],(vacO xs p).2.2) else if (newO xs kind owner).2.2≠0 then ([],(newO xs kind owner).2.2)
 else addO (newO xs kind owner).1 (vacO xs p).1 (vacO xs p).2.1 (newO xs kind owner).2.1
def madeO (xs:List ByteArray) (p:ByteArray) (kind owner:Int):List ByteArray × Int × Int:=
 if (weighO xs (madeI xs p kind owner)).2≠0 then ([],0,(weighO xs (madeI xs p kind owner)).2) else ((weighO xs (madeI xs p kind owner)).1,(newO xs kind owner).2.1,0)
def intsL (l:List Nat):List Int:=l.map fun k:Nat=>(k:Int)
def linkI (xs:List ByteArray) (p q:ByteArray):List ByteArray × Int:=
 if (pathO xs p.data.toList).2≠0 then ([],(pathO xs p.data.toList).2)
 else if inoE xs (pathO xs p.data.toList).1≠0 then ([],inoE xs (pathO xs p.data.toList).1)
 else if (getR xs (pathO xs p.data.toList).1).getD 0 0≠1 then ([],11)
 else if (vacO xs q).2.2≠0 then ([],(vacO xs q).2.2)
 else if 65535≤(getR xs (pathO xs p.data.toList).1).getD 1 0 then ([],6)
 else if (addO xs (vacO xs q).1 (vacO xs q).2.1 (pathO xs p.data.toList).1).2≠0 then ([],(addO xs (vacO xs q).1 (vacO xs q).2.1 (pathO xs p.data.toList).1).2)
 else putO (addO xs (vacO xs q).1 (vacO xs q).2.1 (pathO xs p.data.toList).1).1 (pathO xs p.data.toList).1 (intsL ((getR xs (pathO xs p.data.toList).1).set 1 ((getR xs (pathO xs p.data.toList).1).getD 1 0+1)))
def linkO (xs:List ByteArray) (p q:ByteArray):List ByteArray × Int:=
 if mayP p.data.toList=false∨mayP q.data.toList=false then ([],7) else weighO xs (linkI xs p q)
def giveO (xs:List ByteArray) (i:Int):List ByteArray × Int:=match ofR xs with
 | none=>([],3)
 | some m=>if i<(dataN m:Int)∨(xs.length:Int)≤i then ([],2) else if bitL (blkL xs 2) i.toNat=false then ([],9) else (turnV xs i.toNat,0)
def goneV (ys:List ByteArray) (n:Int):List ByteArray:=
 if (giveO ys ((getR ys n).getD 11 0:Nat)).2=0 then (giveO ys ((getR ys n).getD 11 0:Nat)).1 else ys
def goneO (xs:List ByteArray) (n:Int):List ByteArray × Int:=
 if (cutO xs n 0).2≠0 then ([],(cutO xs n 0).2)
 else if inoE (cutO xs n 0).1 n≠0 then ([],inoE (cutO xs n 0).1 n)
 else putO (goneV (cutO xs n 0).1 n) n (List.replicate 12 0)
def removeI (xs:List ByteArray) (p:ByteArray):List ByteArray × Int:=
 if (pathO xs p.data.toList).2≠0 then ([],(pathO xs p.data.toList).2)
 else if p.data.toList=[47] then ([],12)
 else if (inoE xs (pathO xs p.data.toList).1=0∧(getR xs (pathO xs p.data.toList).1).getD 0 0=2)∧((listO xs (pathO xs p.data.toList).1).2≠0∨(listO xs (pathO xs p.data.toList).1).1≠[]) then ([],12)
 else if (pathO xs (aboveB p).data.toList).2≠0 then ([],(pathO xs (aboveB p).data.toList).2)
 else if (dropO xs (pathO xs (aboveB p).data.toList).1 (lastB p)).2≠0∨inoE xs (pathO xs p.data.toList).1≠0 then dropO xs (pathO xs (aboveB p).data.toList).1 (lastB p)
 else if (getR xs (pathO xs p.data.toList).1).getD 1 0≤1∨(getR xs (pathO xs p.data.toList).1).getD 0 0=2 then goneO (dropO xs (pathO xs (aboveB p).data.toList).1 (lastB p)).1 (pathO xs p.data.toList).1
 else putO (dropO xs (pathO xs (aboveB p).data.toList).1 (lastB p)).1 (pathO xs p.data.toList).1 (intsL ((getR xs (pathO xs p.data.toList).1).set 1 ((getR xs (pathO xs p.data.toList).1).getD 1 0-1)))
def removeO (xs:List ByteArray) (p:ByteArray):List ByteArray × Int:=weighO xs (removeI xs p)
def renameI (xs:List ByteArray) (p q:ByteArray):List ByteArray × Int:=
 if (pathO xs p.data.toList).2≠0 then ([],(pathO xs p.data.toList).2)
 else if p.data.toList=[47] then ([],12)
 else if (vacO xs q).2.2≠0 then ([],(vacO xs q).2.2)
 else if Lib.hasPrefix q.data.toList (p.data.toList++[47])=true then ([],12)
 else if (pathO xs (aboveB p).data.toList).2≠0 then ([],(pathO xs (aboveB p).data.toList).2)
 else if (dropO xs (pathO xs (aboveB p).data.toList).1 (lastB p)).2≠0 then ([],(dropO xs (pathO xs (aboveB p).data.toList).1 (lastB p)).2)
 else addO (dropO xs (pathO xs (aboveB p).data.toList).1 (lastB p)).1 (vacO xs q).1 (vacO xs q).2.1 (pathO xs p.data.toList).1
def renameO (xs:List ByteArray) (p q:ByteArray):List ByteArray × Int:=
 if mayP p.data.toList=false∨mayP q.data.toList=false then ([],7) else weighO xs (renameI xs p q)
def fileO (xs:List ByteArray) (n:Int):Int:=if inoE xs n≠0 then inoE xs n else if (getR xs n).getD 0 0≠1 then 11 else 0
def writeF (xs:List ByteArray) (n off:Int) (d:List UInt8):List ByteArray × Int:=if fileO xs n≠0 then ([],fileO xs n) else weighO xs (writeO xs n off d)
def cutF (xs:List ByteArray) (n size:Int):List ByteArray × Int:=if fileO xs n≠0 then ([],fileO xs n) else weighO xs (cutO xs n size)
def makeO (b m:Int):List ByteArray × Int:=
 if planE b m≠0 then ([],planE b m) else ((newO (fmtV b.toNat m.toNat) 2 0).1,(newO (fmtV b.toNat m.toNat) 2 0).2.2)
structure AttV where
 name:ByteArray
 value:ByteArray
deriving DecidableEq,Inhabited
def attOne (x:AttV):List Value:=[.string x.name,.string x.value]
def attC (l:List AttV):List Value:=l.flatMap attOne
theorem attC_len (l:List AttV):(attC l).length=l.length * 2:=by
 induction l with
 | nil=>rfl
 | cons x l ih=>show ([_,_]++attC l).length=_;simp [ih];omega
theorem attC_app (k l:List AttV):attC (k++l)=attC k++attC l:=by unfold attC;simp
theorem attC_get:∀ {l:List AttV} {k:Nat} (hk:k<l.length),(attC l)[k * 2]?=some (.string l[k].name)∧(attC l)[k * 2+1]?=some (.string l[k].value)
 | [],k,hk=>absurd hk (Nat.not_lt_zero _)
 | x::l,0,_=>⟨rfl,rfl⟩
 | x::l,k+1,hk=>by
  have e:attC (x::l)=.string x.name::.string x.value::attC l:=rfl
  have:=attC_get (l:=l) (k:=k) (by simpa using hk)
  rw [e,show (k+1) * 2=k * 2+1+1 by omega]
  exact this
def mayD (c:UInt8):Bool:=decide (97≤c.toNat∧c.toNat≤122∨48≤c.toNat∧c.toNat≤57∨c.toNat=46∨c.toNat=95∨c.toNat=45)
def mayA (l:List UInt8):Bool:=decide (l≠[]∧l.length≤24) && l.all mayD
def rowT (ts:List ByteArray):List UInt8:=ts.flatMap fun t=>UInt8.ofNat t.size::t.data.toList
def textsA (l:List AttV):List ByteArray:=l.flatMap fun x=>[x.name,x.value]
def rowA (l:List AttV):List UInt8:=rowT (textsA l)
def blockL (r:List UInt8):List UInt8:=putL r.length 2++r++List.replicate (126-r.length) 0
structure ValidA (l:List AttV):Prop where
 ok:∀ x ∈ l,mayA x.name.data.toList=true
 rise:l.Pairwise fun x y=>ltB x.name y.name=true
 short:(rowA l).length≤126
theorem dsize (s:ByteArray):s.data.toList.length=s.size:=by rw [Array.length_toList];rfl
theorem rowT_cons (t:ByteArray) (ts:List ByteArray):rowT (t::ts)=UInt8.ofNat t.size::(t.data.toList++rowT ts):=by unfold rowT;rw [List.flatMap_cons];rfl
theorem rowT_app (a b:List ByteArray):rowT (a++b)=rowT a++rowT b:=by unfold rowT;simp
theorem rowT_mem:∀ {ts:List ByteArray} {t:ByteArray},t ∈ ts→t.size+1≤(rowT ts).length
 | x::ts,t,h=>by
  rw [rowT_cons,List.length_cons,List.length_append,dsize]
  rcases List.mem_cons.1 h with rfl | h
  ·omega
  ·have:=rowT_mem h;omega
theorem textsA_len (l:List AttV):(textsA l).length=2 * l.length:=by
 induction l with
 | nil=>rfl
 | cons x l ih=>show ([_,_]++textsA l).length=_;simp [ih];omega
theorem textsA_cons (x:AttV) (l:List AttV):textsA (x::l)=x.name::x.value::textsA l:=rfl
theorem textsA_app (k l:List AttV):textsA (k++l)=textsA k++textsA l:=by unfold textsA;simp
theorem textsA_get:∀ {l:List AttV} {k:Nat} (hk:k<l.length),(textsA l)[2 * k]?=some l[k].name∧(textsA l)[2 * k+1]?=some l[k].value
 | [],k,hk=>absurd hk (Nat.not_lt_zero _)
 | x::l,0,_=>⟨rfl,rfl⟩
 | x::l,k+1,hk=>by
  have:=textsA_get (l:=l) (k:=k) (by simpa using hk)
  rw [textsA_cons,show 2 * (k+1)=2 * k+1+1 by omega]
  exact this
theorem rowA_len (l:List AttV):2 * l.length≤(rowA l).length:=by
 induction l with
 | nil=>exact Nat.le_refl _
 | cons x l ih=>
  unfold rowA at ih ⊢
  rw [textsA_cons,rowT_cons,rowT_cons]
  simp only [List.length_append,List.length_cons]
  omega
theorem ValidA.small {l:List AttV} (h:ValidA l):l.length≤63:=by have:=rowA_len l;have:=h.short;omega
theorem ValidA.texts {l:List AttV} (h:ValidA l):∀ t ∈ textsA l,t.size≤125:=fun t ht=>by have:=rowT_mem ht;have:=h.short;unfold rowA at this;omega
theorem blockL_len {r:List UInt8} (h:r.length≤126):(blockL r).length=128:=by
 unfold blockL
 simp only [List.length_append,putL_length,List.length_replicate]
 omega
end Go.Proofs.YtdldlendppkknaaGreatDoor
