/-
  Contracts and plain laws: DirE, PathA, PathB, PathC, RExtCnt, OLe.
-/
import Derived.Test.YtdldlendppkknaaGreatDoorPackV18
namespace Go.Proofs.YtdldlendppkknaaGreatDoor
open Go.RowKit
set_option linter.unusedVariables false
set_option linter.unusedSimpArgs false
set_option maxRecDepth 100000
def ListPost (o:List EntV × Int) (w:World) (e:Ending) (w':World):Prop:=(∃ v,e=.returned (.tuple #[v,.int .i64 o.2])∧OwnEnts o.1 w v w')∧Below w.heap.size w w'
theorem ListPost.none {w w':World} {c:Int} (h:Below w.heap.size w w'):ListPost ([],c) w (.returned (.tuple #[.slice none 0 0,.int .i64 c])) w':=⟨⟨_,rfl,World.ownsRow_nil _ _ _ _⟩,h⟩
theorem readO_dir {xs:List ByteArray} {n:Int} (h:inoE xs n=0):∃ d,readO xs n 0 8960=(d,0)∧d.length≤8960∧readO xs n 0 (((getR xs n).getD 3 0:Nat):Int)=(d,0):=by
 unfold readO
 rw [if_neg (by rw [h];simp),if_neg (by omega),if_neg (by rw [h];simp),if_neg (by omega)]
 refine ⟨_,rfl,?_,?_⟩
 ·have:=sizeX_le (getR xs n)
  unfold readX spanX
  rw [List.length_map,List.length_range']
  omega
 ·have e:min (((0:Int).toNat+((((getR xs n).getD 3 0:Nat):Int)).toNat)) (sizeX (getR xs n))=min ((0:Int).toNat+(8960:Int).toNat) (sizeX (getR xs n)):=by
   unfold sizeX
   rw [Int.toNat_natCast]
   show min (0+_) _=min (0+8960) _
   omega
  unfold readX
  rw [e]
theorem listO_len {xs:List ByteArray} {n:Int}:(listO xs n).1.length≤280:=by
 unfold listO
 split
 ·simp
 ·split
  ·simp
  ·rename_i h0 _
   obtain ⟨d,hd,hl,_⟩:=readO_dir (Classical.not_not.1 h0)
   rw [hd]
   cases h:entsO d with
   | none=>simp
   | some l=>
    have:=(entsO_some h).2.2
    show l.length≤280
    omega
set_option maxHeartbeats 4000000 in
theorem list_any (A:Option Addr) (c:Nat) (xs:List ByteArray) (n:Int) (w:World) (hx:xs.length≤1000000) (h:RowAt w w.heap.size A (xs.map .string)) :
  Calls Tryz.prog 61 #[.slice A xs.length c,.int .i64 n] w (ListPost (listO xs n) w):=by
 have CG:=Lib.hid (get_ino A c xs n w hx h)
 have HR:=Lib.hid h
 obtain ⟨a0,a1,a2,a3,a4,a5,a6,a7,a8,a9,a10,a11,hg⟩:=len12 (getR_len xs n)
 have HO:Hid (listO xs n=if inoE xs n≠0 then ([],inoE xs n) else if a0≠2 then ([],11) else match entsO (readO xs n 0 8960).1 with | none=>([],3) | some l=>(l,0)):=by show _=_;unfold listO;rw [hg];rfl
 have CR:=Lib.hid (fun w h=>read_any A c xs n 0 8960 w hx h)
 have HD:Hid (inoE xs n=0→_):=fun h=>readO_dir (n:=n) h
 rw [hg] at CG
 unfold inoC at CG
 simp only [List.map_cons,List.map_nil] at CG
 have HI:=Lib.hid (Below.refl 0 w)
 clear hg h
 generalize listO xs n=o at *
 by_cases h0:inoE xs n=0
 ·obtain ⟨d,hd,hd2,_⟩:=HD.out h0
  rw [hd] at CR HO
  rw [h0] at CG HO
  unfold ReadPost at CR
  dsimp only at CR HO
  clear HD h0 hd
  by_cases hk:a0=2
  ·subst hk
   have CE:=Lib.hid (fun w=>entries_any ⟨d.toArray⟩ w (by show d.toArray.size≤_;rw [List.size_toArray];exact hd2))
   dsimp only at CE
   have HO2:Hid (o=match entsO d with | none=>([],3) | some l=>(l,0)):=HO.out
   generalize entsO d=eo at *
   unfold EntsPost at CE
   cases eo with
   | none=>
    have HO3:Hid (o=([],3)):=HO2.out
    clear HO HO2
    simp only [Option.isSome_none] at CE
    go_enter Tryz.func61,Tryz.ntmps61
    go_wp2_with fail
    refine CG.out.mono ?_
    rintro e w1 ⟨rfl,hb1⟩
    have B1:=Lib.hid hb1
    clear hb1 CG
    go_wp2_with fail
    generalize hw2:World.alloc w1 _=w2
    have B2:=Lib.hid (hw2▸B1.out.alloc B1.out.size _:Below w.heap.size w w2)
    clear hw2 B1
    refine (CR.out _ ((HR.out.below B2.out).mono B2.out.size)).mono ?_
    rintro e w3 ⟨rfl,hb3⟩
    have B3:=Lib.hid (B2.out.trans (hb3.mono B2.out.size))
    clear hb3 CR HR
    go_wp2_with fail
    refine (CE.out _).mono ?_
    rintro e w4 ⟨⟨v,rfl,hv⟩,hb4⟩
    have B4:=Lib.hid (B3.out.trans (hb4.mono B3.out.size))
    clear hb4 CE hv
    go_wp2
    go_ret2
    rw [HO3.out]
    exact ListPost.none B4.out
   | some l=>
    have HO3:Hid (o=(l,0)):=HO2.out
    clear HO HO2
    simp only [Option.isSome_some,Option.getD_some] at CE
    go_enter Tryz.func61,Tryz.ntmps61
    go_wp2_with fail
    refine CG.out.mono ?_
    rintro e w1 ⟨rfl,hb1⟩
    have B1:=Lib.hid hb1
    clear hb1 CG
    go_wp2_with fail
    generalize hw2:World.alloc w1 _=w2
    have B2:=Lib.hid (hw2▸B1.out.alloc B1.out.size _:Below w.heap.size w w2)
    clear hw2 B1
    refine (CR.out _ ((HR.out.below B2.out).mono B2.out.size)).mono ?_
    rintro e w3 ⟨rfl,hb3⟩
    have B3:=Lib.hid (B2.out.trans (hb3.mono B2.out.size))
    clear hb3 CR HR
    go_wp2_with fail
    refine (CE.out _).mono ?_
    rintro e w4 ⟨⟨v,rfl,hv⟩,hb4⟩
    have B4:=Lib.hid (B3.out.trans (hb4.mono B3.out.size))
    have HV:Hid (OwnEnts l w v w4):=own_low hv B3.out.size
    clear hb4 CE hv
    go_wp2
    go_ret2
    rw [HO3.out]
    exact ⟨⟨_,rfl,HV.out⟩,B4.out⟩
  ·have HO3:Hid (o=([],11)):=by
    show _=_
    rw [HO.out,if_neg (by simp),if_pos hk]
   have hk1:(((a0:Nat):Int) != 2)=true:=by simp;omega
   clear HO CR
   go_enter Tryz.func61,Tryz.ntmps61
   go_wp2_with fail
   refine CG.out.mono ?_
   rintro e w1 ⟨rfl,hb1⟩
   have B1:=Lib.hid hb1
   clear hb1 CG
   go_wp2
   go_ret2
   rw [HO3.out]
   exact ListPost.none (B1.out.alloc B1.out.size _)
 ·have HO3:Hid (o=([],inoE xs n)):=by
   show _=_
   rw [HO.out,if_pos h0]
  have hk1:(inoE xs n != 0)=true:=by simpa using h0
  generalize inoE xs n=ie at *
  clear HO CR HD h0
  go_enter Tryz.func61,Tryz.ntmps61
  go_wp2_with fail
  refine CG.out.mono ?_
  rintro e w1 ⟨rfl,hb1⟩
  have B1:=Lib.hid hb1
  clear hb1 CG
  go_wp2
  go_ret2
  rw [HO3.out]
  exact ListPost.none (B1.out.alloc B1.out.size _)
theorem OwnEnts.read2 {l:List EntV} {w w':World} {v:Value} (h:OwnEnts l w v w'):∃ A c,v=.slice A l.length c∧EntsAt w' w'.heap.size A l:=h.read
set_option maxHeartbeats 4000000 in
theorem find_any (A:Option Addr) (c:Nat) (xs:List ByteArray) (n:Int) (nm:ByteArray) (w:World) (hx:xs.length≤1000000) (hs:nm.size≤140737488355328) (h:RowAt w w.heap.size A (xs.map .string)) :
  Calls Tryz.prog 39 #[.slice A xs.length c,.int .i64 n,.string nm] w fun e w'=>e=.returned (.tuple #[.int .i64 (findO xs n nm).1,.int .i64 (findO xs n nm).2])∧Below w.heap.size w w':=by
 have CM:=Lib.hid (may_any nm w hs)
 have CL:=Lib.hid (fun w h=>list_any A c xs n w hx h)
 have HR:=Lib.hid h
 have HV:=Lib.hid (listO_valid (xs:=xs) (n:=n))
 have HN:=Lib.hid (listO_len (xs:=xs) (n:=n))
 obtain ⟨o,ho⟩:∃ o,findO xs n nm=o:=⟨_,rfl⟩
 rw [ho]
 unfold findO at ho
 have HO:=Lib.hid ho.symm
 clear ho
 generalize listO xs n=lo at *
 obtain ⟨l,le⟩:=lo
 dsimp only at HV HN HO
 unfold ListPost at CL
 dsimp only at CL
 clear h
 cases hm:mayB nm.data.toList with
 | false=>
  rw [hm] at CM HO
  have HO3:Hid (o=(0,7)):=by show _=_;rw [HO.out];rfl
  clear HO CL hm
  go_enter Tryz.func39,Tryz.ntmps39
  go_wp2_with fail
  refine CM.out.mono ?_
  rintro e w1 ⟨rfl,hb1⟩
  have B1:=Lib.hid hb1
  go_wp2
  go_ret2
  rw [HO3.out]
  exact ⟨rfl,B1.out⟩
 | true=>
  rw [hm] at CM HO
  have HO1:Hid (o=if le≠0 then (0,le) else if hasE l nm=true then (getE l nm,0) else (0,9)):=by show _=_;rw [HO.out,if_neg (by simp)]
  clear HO hm
  by_cases h0:le=0
  ·subst h0
   have CS:=Lib.hid (fun A c w h=>search_any A c l nm w HN.out HV.out.rise h)
   have H1:=Lib.hid (at_has (nm:=nm) HV.out.rise)
   cases hh:hasE l nm with
   | false=>
    have HO3:Hid (o=(0,9)):=by show _=_;rw [HO1.out,if_neg (by simp),if_neg (by rw [hh];simp)]
    rw [hh] at CS
    clear HO1 H1 hh
    go_enter Tryz.func39,Tryz.ntmps39
    go_wp2_with fail
    refine CM.out.mono ?_
    rintro e w1 ⟨rfl,hb1⟩
    have B1:=Lib.hid hb1
    clear hb1 CM
    go_wp2_with fail
    refine (CL.out _ ((HR.out.below B1.out).mono B1.out.size)).mono ?_
    rintro e w2 ⟨⟨v,rfl,hv⟩,hb2⟩
    obtain ⟨A2,c2,rfl,hr2⟩:=OwnEnts.read2 hv
    have B2:=Lib.hid (B1.out.trans (hb2.mono B1.out.size))
    have R2:=Lib.hid hr2
    clear hb2 hv hr2 CL
    go_wp2_with fail
    refine (CS.out _ _ _ R2.out).mono ?_
    rintro e w3 ⟨rfl,hb3⟩
    have B3:=Lib.hid (B2.out.trans (hb3.mono B2.out.size))
    clear hb3 CS
    go_wp2
    go_ret2
    rw [HO3.out]
    exact ⟨rfl,B3.out⟩
   | true=>
    obtain ⟨hk,hnk⟩:=H1.out.1 hh
    have HO3:Hid (o=(l[atE l nm].ino,0)):=by show _=_;rw [HO1.out,if_neg (by simp),if_pos hh,at_get HV.out.rise hk hnk]
    rw [hh] at CS
    generalize atE l nm=k at *
    have k1:(k:Int)<(l.length:Int):=by omega
    have k2:(0:Int)≤(k:Int):=by omega
    clear HO1 H1 hh hnk
    go_enter Tryz.func39,Tryz.ntmps39
    go_wp2_with fail
    refine CM.out.mono ?_
    rintro e w1 ⟨rfl,hb1⟩
    have B1:=Lib.hid hb1
    clear hb1 CM
    go_wp2_with fail
    refine (CL.out _ ((HR.out.below B1.out).mono B1.out.size)).mono ?_
    rintro e w2 ⟨⟨v,rfl,hv⟩,hb2⟩
    obtain ⟨A2,c2,rfl,hr2⟩:=OwnEnts.read2 hv
    have B2:=Lib.hid (B1.out.trans (hb2.mono B1.out.size))
    have R2:=Lib.hid hr2
    clear hb2 hv hr2 CL
    go_wp2_with fail
    refine (CS.out _ _ _ R2.out).mono ?_
    rintro e w3 ⟨rfl,hb3⟩
    have B3:=Lib.hid (B2.out.trans (hb3.mono B2.out.size))
    obtain ⟨b,oo,rfl,hb,hc⟩:=R2.out.get hk
    have hc1:w3.cell? ⟨b,oo+k * 2+1,none⟩=some (.int .i64 l[k].ino):=(hb3.cell (p:=⟨b,oo+k * 2+1,none⟩) hb).trans (hc 1 _ rfl)
    generalize l[k].ino=z at *
    clear hb3 CS hc
    go_wp2
    go_ret2
    rw [HO3.out]
    exact ⟨rfl,B3.out⟩
  ·have HO3:Hid (o=(0,le)):=by show _=_;rw [HO1.out,if_pos h0]
   have h01:(le != 0)=true:=by simpa using h0
   clear HO1 h0
   go_enter Tryz.func39,Tryz.ntmps39
   go_wp2_with fail
   refine CM.out.mono ?_
   rintro e w1 ⟨rfl,hb1⟩
   have B1:=Lib.hid hb1
   clear hb1 CM
   go_wp2_with fail
   refine (CL.out _ ((HR.out.below B1.out).mono B1.out.size)).mono ?_
   rintro e w2 ⟨⟨v,rfl,hv⟩,hb2⟩
   have B2:=Lib.hid (B1.out.trans (hb2.mono B1.out.size))
   clear hb2 hv CL
   go_wp2
   go_ret2
   rw [HO3.out]
   exact ⟨rfl,B2.out⟩
theorem names_any (p:ByteArray) (w:World):Calls Tryz.prog 38 #[.string p] w fun e w'=>
  e=.returned (.func (.func 95) #[] #[.pointer (some ⟨w.heap.size,0,none⟩)])∧w.alloc (.cells #[.string p] 9)=w':=by
 go_enter Tryz.func38,Tryz.ntmps38
 go_wp2
 go_ret
 exact ⟨rfl,rfl⟩
abbrev Nm:Type:={l:List UInt8 // l.length≤200}
def nmS (x:Nm):ByteArray:=⟨x.val.toArray⟩
def valsN (xs:List Nm):List (List UInt8):=xs.map fun x=>x.val
theorem valsN_snoc (xs:List Nm) (x:Nm):valsN (xs++[x])=valsN xs++[x.val]:=by unfold valsN;simp
theorem valsN_len (xs:List Nm):(valsN xs).length=xs.length:=by unfold valsN;simp
def lenS (v:Value):Nat:=match v with
 | .string s=>s.size
 | _=>0
set_option maxHeartbeats 4000000 in
theorem names_stops (n:Nat) (hn:1≤n) (Bn:Nat) (p:ByteArray) (hp:p.size≤200) (Kp:World→World→Prop) (w:World) (hB:Blk w Bn 9 #[.string p]) :
  SeqStopsK Fence.wide n Tryz.prog 95 #[.pointer (some ⟨Bn,0,none⟩)] (fun x:Nm=>#[.string (nmS x)]) Kp (fun xs=>valsN xs=namesP p.data.toList) (fun pre=>∃ r,valsN pre++r=namesP p.data.toList) 201 w:=fun l J Jx W hW hJ hJx hY h0=>by
 have hBk:Blk W Bn 9 #[.string p]:=hB.below hW hB.lt
 have hBW:W.cell? ⟨Bn,0,none⟩=some (.string p):=hBk.cell 0 rfl
 have hsz:=hW.size
 have HY:=Lib.hid hY
 have HJ:Hid (∀ s A B,J s A→A.grownBy B none→J s B):=fun s A B hs hg=>hJ s A B none hs hg (fun r e=>by cases e)
 have H0:=Lib.hid h0
 have hpl:p.data.toList.length=p.size:=by rw [Array.length_toList];rfl
 clear hY hJ hJx h0 hB hW hBk
 refine callsIn_of_wp Tryz.func95 rfl trivial ?_
 simp only [Tryz.ntmps95,List.size_toArray,List.length_cons,List.length_nil,Nat.reduceAdd,Nat.reduceSub,Array.replicate_succ,Array.replicate_zero,List.push_toArray,List.append_toArray,List.nil_append,List.cons_append]
 by_cases htop:p.data.toList=[47]
 ·have hN:Hid (namesP p.data.toList=[]):=by show _=_;unfold namesP;rw [if_pos htop]
  have e:p=⟨#[47]⟩:=by
   obtain ⟨⟨l⟩⟩:=p
   dsimp only at htop
   subst htop
   rfl
  rw [e] at hBW
  clear htop e
  gi_wp2
  refine bodyPost_ret (results_none rfl _ _ _) rfl ?_
  exact ⟨⟨_,rfl⟩,.inl ⟨[],by rw [hN.out];rfl,H0.out⟩⟩
 ·have hN:Hid (namesP p.data.toList=namesL p.data.toList):=by show _=_;unfold namesP;rw [if_neg htop]
  have q0:(p.toList == [47])=false:=by rw [str_data];simpa using htop
  clear htop
  have hl0:(namesL p.data.toList).length≤200:=Nat.le_trans (namesL_len _ _ (Nat.le_refl _)) (by omega)
  have HPL:Hid (p.data.toList.length≤200):=by show _≤_;omega
  gi_wp2
  gi_loopw [3] (fun (i:Value) (wr:World)=>∃ (pre:List Nm) (b:ByteArray),i=Value.string b∧b.size≤200∧valsN pre++namesL b.data.toList=namesL p.data.toList∧Hid (J pre wr)) (fun i _=>lenS i)
  case atStart=>exact ⟨[],p,rfl,hp,rfl,H0⟩
  case round=>
   obtain ⟨pre,b,rfl,hr,hpre,JK⟩:=hrel
   obtain ⟨r,hrr⟩:∃ r,b.data.toList=r:=⟨_,rfl⟩
   have hrl:r.length=b.size:=by rw [← hrr,Array.length_toList];rfl
   rw [hrr] at hpre
   by_cases he:r=[]
   ·subst he
    have q1:b.toList.isEmpty=true:=by rw [str_data,hrr];rfl
    clear hrr
    gi_wp2
    go_end0
    exact ⟨⟨_,rfl⟩,.inl ⟨pre,by rw [hN.out,← hpre,namesL_nil,List.append_nil],JK.out⟩⟩
   ·have q1:b.toList.isEmpty=false:=by rw [str_data,hrr];simpa using he
    have hcons:=namesL_cons he
    have hlt:=restP_lt he
    have htl:=trimP_le r
    have hel:=endP_le (trimP r)
    obtain ⟨t,hht⟩:∃ t:ByteArray,t=⟨(trimP r).toArray⟩:=⟨_,rfl⟩
    have htd:t.data.toList=trimP r:=by rw [hht]
    have hts:t.size=(trimP r).length:=by rw [hht];show (trimP r).toArray.size=_;simp
    have CT:Hid (∀ w,Calls Tryz.prog 96 #[.string b,.string ⟨#[47]⟩] w fun e w'=>e=.returned (.string t)∧w'=w):=fun w=>by
     have:=Tryz.strings_TrimPrefix b ⟨#[47]⟩ w
     rw [hrr] at this
     rw [hht]
     exact this
    obtain ⟨ix,hix⟩:∃ ix,Lib.indexByte (trimP r) 47=ix:=⟨_,rfl⟩
    have CI:Hid (∀ w,Calls Tryz.prog 97 #[.string t,.int .u8 47] w fun e w'=>e=.returned (.int .i64 ix)∧w'=w):=fun w=>by
     have:=Tryz.strings_IndexByte t 47 w
     rw [htd] at this
     rw [← hix]
     exact this
    obtain ⟨e,hee⟩:∃ e,endP (trimP r)=e:=⟨_,rfl⟩
    have hb:=(index_lt (trimP r) 47).1
    rw [hix] at hb
    have hex:(ix<0→e=t.size)∧(¬ ix<0→(ix=(e:Int))):=by
     rw [← hee,hts]
     unfold endP
     rw [hix]
     exact ⟨fun h=>by rw [if_pos h],fun h=>by rw [if_neg h];omega⟩
    rw [hee] at hel
    have hhead:t.extract 0 e=⟨(headP r).toArray⟩:=by
     rw [hht]
     unfold headP
     rw [hee]
     apply ByteArray.ext
     rw [ByteArray.data_extract]
     simp
    have hrest:(t.extract e t.size).data.toList=restP r:=by
     rw [hts,hht]
     unfold restP
     rw [hee]
     rw [ByteArray.data_extract]
     simp [← List.length_drop]
    have hhl:(headP r).length≤200:=by unfold headP;rw [List.length_take];omega
    have hprl:pre.length<201:=by
     have:=congrArg List.length hpre
     rw [List.length_append,valsN_len] at this
     omega
    obtain ⟨fn,tmps,assign,body,hy0,hR⟩:=HY.out pre ⟨headP r,hhl⟩ wr JK.out hprl
    have hy:(Instr.yield l #[.string (t.extract 0 e)]).run Tryz.prog wr=.ok (.round l fn tmps assign body) wr:=by rw [hhead];exact hy0
    have HR:=Lib.hid hR
    have HH:=Lib.hid hhead
    have HRS:=Lib.hid (And.intro hrest (show (t.extract e t.size).size=(restP r).length by rw [← hrest,Array.length_toList];rfl))
    have s1:(0:Int)≤(e:Int):=by omega
    have s2:(e:Int)≤(t.size:Int):=by omega
    have htz:t.size<4294967296:=by omega
    have h1:(restP r).length≤200:=by omega
    have h2:Hid (valsN (pre++[(⟨headP r,hhl⟩:Nm)])++namesL (restP r)=namesL p.data.toList):=by
     show _=_
     rw [← hpre,hcons,valsN_snoc]
     simp
    have HLT:Hid ((restP r).length<b.size):=by show _<_;omega
    clear hR hy0 hhead hrest hht htd hcons htl hee hix hlt hel hts hb hpre hrl
    by_cases hi:ix<0
    ·obtain rfl:=hex.1 hi
     rw [ByteArray.extract_zero_size] at hy
     rw [show t.extract t.size t.size=ByteArray.empty by simp] at HRS
     gi_wp2_with fail
     refine ⟨trivial,callsIn_wide.2 ((CT.out _).mono ?_)⟩
     rintro e w' ⟨rfl,rfl⟩
     gi_wp2_with fail
     refine ⟨trivial,callsIn_wide.2 ((CI.out _).mono ?_)⟩
     rintro e w' ⟨rfl,rfl⟩
     gi_wp2
     refine HR.out.mono ?_
     rintro e' W3 (⟨rfl,hJ3,hk3⟩ | ⟨rfl,hJx3⟩)
     ·have J3:=Lib.hid hJ3
      clear hJ3 hk3 hy
      gi_wp2
      go_roundw
      case rel=>exact ⟨_,_,rfl,by rw [HRS.out.2];exact h1,by rw [HRS.out.1];exact h2.out,J3⟩
      case measure=>unfold lenS;dsimp only;rw [HRS.out.2];have:=HLT.out;omega
     ·clear hy
      gi_wp2
      refine bodyPost_ret (results_none rfl _ _ _) rfl ?_
      exact ⟨⟨_,rfl⟩,.inr ⟨_,⟨_,hN.out.trans h2.out.symm |>.symm⟩,hJx3⟩⟩
    ·obtain rfl:=hex.2 hi
     gi_wp2_with fail
     refine ⟨trivial,callsIn_wide.2 ((CT.out _).mono ?_)⟩
     rintro e w' ⟨rfl,rfl⟩
     gi_wp2_with fail
     refine ⟨trivial,callsIn_wide.2 ((CI.out _).mono ?_)⟩
     rintro e w' ⟨rfl,rfl⟩
     gi_wp2
     refine HR.out.mono ?_
     rintro e' W3 (⟨rfl,hJ3,hk3⟩ | ⟨rfl,hJx3⟩)
     ·have J3:=Lib.hid hJ3
      clear hJ3 hk3 hy
      gi_wp2
      go_roundw
      case rel=>exact ⟨_,_,rfl,by rw [HRS.out.2];exact h1,by rw [HRS.out.1];exact h2.out,J3⟩
      case measure=>unfold lenS;dsimp only;rw [HRS.out.2];have:=HLT.out;omega
     ·clear hy
      gi_wp2
      refine bodyPost_ret (results_none rfl _ _ _) rfl ?_
      exact ⟨⟨_,rfl⟩,.inr ⟨_,⟨_,hN.out.trans h2.out.symm |>.symm⟩,hJx3⟩⟩
open Go.RowKit Go.Shelf
attribute [local go_sem] Oper.semAt_some
structure MayI (w:World) (rb cb:Nat) (pre:List Nm) (W:World):Prop where
 fr:∃ b,Blk W rb 4 #[.bool b]
 fc:Blk W cb 3 #[.int .i64 (pre.length:Int)]
 ok:(valsN pre).all mayB=true
 below:Below w.heap.size w W
structure MayX (w:World) (rb:Nat) (pre:List Nm) (W:World):Prop where
 fr:Blk W rb 4 #[.bool false]
 no:(valsN pre).all mayB=false
 below:Below w.heap.size w W
theorem MayI.own {w:World} {rb cb:Nat} {B:Nat} (hB:w.heap.size≤B):OwnFrom B (fun pre W=>MayI w rb cb pre W):=fun s X Y row hs hg hr=>
 have hr':∀ r,row=some r→∃ o:Obj,X.heap[r]?=some o∧o.isCells=false:=fun r e=>(hr r e).2
 ⟨hs.fr.imp fun b h=>Blk.own rb _ (fun (_:Unit)=>_) () X Y row h hg hr',Blk.own cb _ (fun (_:Unit)=>_) () X Y row hs.fc hg hr',hs.ok,ownFrom_below (Nat.le_refl _) hB s X Y row hs.below hg hr⟩
theorem MayX.own {w:World} {rb:Nat} {B:Nat} (hB:w.heap.size≤B):OwnFrom B (fun pre W=>MayX w rb pre W):=fun s X Y row hs hg hr=>
 have hr':∀ r,row=some r→∃ o:Obj,X.heap[r]?=some o∧o.isCells=false:=fun r e=>(hr r e).2
 ⟨Blk.own rb _ (fun (_:Unit)=>_) () X Y row hs.fr hg hr',hs.no,ownFrom_below (Nat.le_refl _) hB s X Y row hs.below hg hr⟩
theorem MayI.later {w:World} {rb cb:Nat} {pre:List Nm} {X Y:World} (h:MayI w rb cb pre X) (hb:Below X.heap.size X Y):MayI w rb cb pre Y:=
 ⟨h.fr.imp fun _ h=>h.below hb h.lt,h.fc.below hb h.fc.lt,h.ok,h.below.trans (hb.mono h.below.size)⟩
set_option maxHeartbeats 4000000 in
theorem mayp_any (p:ByteArray) (w:World):Calls Tryz.prog 37 #[.string p] w fun e w'=>e=.returned (.bool (mayP p.data.toList))∧Below w.heap.size w w':=by
 have hpl:p.data.toList.length=p.size:=by rw [Array.length_toList];rfl
 have CH:Hid (∀ w,Calls Tryz.prog 89 #[.string p,.string ⟨#[47]⟩] w fun e w'=>e=.returned (.bool (Lib.hasPrefix p.data.toList [47]))∧w'=w):=fun w=>Tryz.strings_HasPrefix p ⟨#[47]⟩ w
 have B0:Hid (Below w.heap.size w (w.alloc (.cells #[.bool false] 4))):=(Below.refl _ _).alloc (Nat.le_refl _) _
 have HM:Hid (mayP p.data.toList=(Lib.hasPrefix p.data.toList [47] && decide (p.data.toList.length≤200) && (namesP p.data.toList).all mayB && decide ((namesP p.data.toList).length≤8))):=by show _=_;rfl
 obtain ⟨hp,hhp⟩:∃ b,Lib.hasPrefix p.data.toList [47]=b:=⟨_,rfl⟩
 obtain ⟨r,hr⟩:∃ r,mayP p.data.toList=r:=⟨_,rfl⟩
 rw [hr,hhp] at HM
 rw [hhp] at CH
 rw [hr]
 clear hr hhp
 cases hp with
 | false=>
  rw [Bool.false_and,Bool.false_and,Bool.false_and] at HM
  have hm:=HM.out
  subst hm
  clear hpl HM
  go_enter Tryz.func37,Tryz.ntmps37
  go_wp2_with fail
  refine (CH.out _).mono ?_
  rintro e w' ⟨rfl,rfl⟩
  go_wp2
  obtain ⟨W0,hW0⟩:∃ W0,w.alloc (.cells #[.bool false] 4)=W0:=⟨_,rfl⟩
  have c3:W0.cell? ⟨w.heap.size,0,none⟩=some (.bool false):=by rw [← hW0];exact (Blk.new w 4 #[.bool false]).cell 0 rfl
  have hB:Below w.heap.size w W0:=by rw [← hW0];exact B0.out
  rw [hW0]
  clear hW0
  refine bodyPost_ret (v:=.bool false) ?_ rfl ⟨rfl,hB⟩
  simp [results,Tryz.results37,go_sem,c3]
 | true=>
  by_cases hl:p.size≤200
  ·have hl2:(p.size:Int)≤200:=by omega
   have HM2:Hid (r=((namesP p.data.toList).all mayB && decide ((namesP p.data.toList).length≤8))):=by show _=_;rw [HM.out,hpl,decide_eq_true hl,Bool.true_and,Bool.true_and]
   have hnl:=namesP_len p.data.toList
   clear HM
   refine (callsIn_wide (n:=4)).1 ?_
   refine callsIn_of_wp_marks Tryz.func37 rfl trivial ?_
   simp only [Tryz.ntmps37,List.size_toArray,List.length_cons,List.length_nil,Nat.reduceAdd,Nat.reduceSub,Array.replicate_succ,Array.replicate_zero,List.push_toArray,List.append_toArray,List.nil_append,List.cons_append]
   refine wpIn_wide.2 ?_
   go_wp2_with fail
   refine (CH.out _).mono ?_
   rintro e w' ⟨rfl,rfl⟩
   go_wp2_with fail
   refine (names_any _ _).mono ?_
   rintro e w' ⟨rfl,rfl⟩
   go_wp2_with fail
   obtain ⟨W0,hW0⟩:∃ W0,((w.alloc (Obj.cells #[Value.bool false] 4)).alloc (Obj.cells #[Value.int .i64 0] 3)).alloc (.cells #[.string p] 9)=W0:=⟨_,rfl⟩
   have HI0:Hid (MayI w w.heap.size (w.heap.size+1) [] W0):=by
    rw [← hW0]
    refine ⟨⟨false,((Blk.new w _ _).alloc _).alloc _⟩,?_,rfl,(((Below.refl w.heap.size w).alloc (Nat.le_refl _) _).alloc (by simp) _).alloc (by simp;omega) _⟩
    have:=(Blk.new (w.alloc (Obj.cells #[Value.bool false] 4)) 3 #[.int .i64 0]).alloc (.cells #[.string p] 9)
    simp only [World.size_alloc] at this
    exact this
   have HBn:Hid (Blk W0 (w.heap.size+1+1) 9 #[.string p]):=by
    rw [← hW0]
    have:=(Blk.new ((w.alloc (Obj.cells #[Value.bool false] 4)).alloc (Obj.cells #[Value.int .i64 0] 3)) 9 #[.string p])
    simp only [World.size_alloc] at this
    exact this
   have hz0:W0.heap.size=w.heap.size+3:=by rw [← hW0];simp
   rw [hW0]
   clear hW0
   refine (wpIn_wide (n:=4)).1 ?_
   refine wpIn_rangeFunc_ownG_of_H rfl (by omega) (gf:=95) (lb:=#[.pointer (some ⟨w.heap.size+1+1,0,none⟩)]) rfl trivial (enters_of Tryz.func95 (by kernel_rfl) rfl)
    (names_stops 3 (by omega) (w.heap.size+1+1) p hl (fun _ _=>True) W0 HBn.out)
    (fun _ _=>trivial) (fun _ _ _ _ _ _ _ _=>trivial) (Below.refl _ _) (fun _=>rfl)
    (fun pre W=>MayI w w.heap.size (w.heap.size+1) pre W) (fun c pre W=>c=.ret∧MayX w w.heap.size pre W)
    (MayI.own (by omega)) (fun c s X Y row hs hg hr=>⟨hs.1,MayX.own (by omega) s X Y row hs.2 hg hr⟩) HI0.out
    (fun x=>{ tmps:=#[Value.string p,undef,Value.pointer (some { block:=w.heap.size,off:=0 }),Value.pointer (some { block:=w.heap.size+1,off:=0 }),.string (nmS x),Value.string p,Value.bool true,Value.bool false,Value.bool false,Value.string p,Value.int IntKind.i64 ↑p.size,Value.bool (decide (200<(p.size:Int))),Value.bool (decide (200<(p.size:Int))),Value.string p,Value.func (Fn.func 95) #[] #[Value.pointer (some { block:=w.heap.size+1+1,off:=0 })],.string (nmS x),undef,undef,undef,undef,undef,undef,undef],defers:=[] })
    ?hassign ?hbody ?hdone ?hstop ?hKr
   case hKr=>intro _;trivial
   case hassign=>
    intro l x W K hK
    gi_wp2
    exact hK
   case hbody=>
    rintro lp pre x W hi hlt
    have HI:=Lib.hid hi
    obtain ⟨bx,hbx⟩:=hi.fr
    have HB:=Lib.hid hbx
    have CM:=Lib.hid (fun w=>may_any (nmS x) w (by show (x.val.toArray).size≤_;rw [List.size_toArray];have:=x.2;omega))
    have hxd:(nmS x).data.toList=x.val:=by unfold nmS;simp
    rw [hxd] at CM
    have HS:=Lib.hid (valsN_snoc pre x)
    clear hi hbx
    cases hm:mayB x.val with
    | false=>
     rw [hm] at CM
     have HNO:Hid ((valsN (pre++[x])).all mayB=false):=by show _=_;rw [HS.out,List.all_append];simp [hm]
     gi_wp2_with fail
     refine ⟨trivial,CallsIn.inRound lp (callsIn_wide.2 ((CM.out _).mono ?_))⟩
     rintro e w1 ⟨rfl,hb1⟩
     have H1:=Lib.hid (HI.out.later hb1)
     have G1:=Lib.hid (HB.out.below hb1 HB.out.lt)
     have K1:=Lib.hid (keeps_below hb1)
     clear hb1 CM
     have c1:=G1.out.cell 0 rfl
     have c2:=G1.out.frozen 0
     gi_wp2
     exact ⟨(K1.out.trans (KeepsOthers.setCell _ _ _)).from _,rfl,G1.out.set_ 0 _,HNO.out,H1.out.below.setCell (by simp) _⟩
    | true=>
     rw [hm] at CM
     have HYES:Hid ((valsN (pre++[x])).all mayB=true):=by show _=_;rw [HS.out,List.all_append,HI.out.ok];simp [hm]
     gi_wp2_with fail
     refine ⟨trivial,CallsIn.inRound lp (callsIn_wide.2 ((CM.out _).mono ?_))⟩
     rintro e w1 ⟨rfl,hb1⟩
     have H1:=Lib.hid (HI.out.later hb1)
     have G1:=Lib.hid (HB.out.below hb1 HB.out.lt)
     have K1:=Lib.hid (keeps_below hb1)
     clear hb1 CM
     have c1:=H1.out.fc.cell 0 rfl
     have c2:=H1.out.fc.frozen 0
     have s1:IntKind.i64.wrap ((pre.length:Int)+1)=(pre.length:Int)+1:=IntWalk.i64_in _ (by omega)
     gi_wp2
     refine ⟨(K1.out.trans (KeepsOthers.setCell _ _ _)).from _,trivial,⟨_,(G1.out.far (by simp) _)⟩,?_,HYES.out,H1.out.below.setCell (by simp) _⟩
     have:=H1.out.fc.set_ 0 (.int .i64 ((pre.length:Int)+1))
     rw [List.length_append,List.length_singleton]
     exact this
   case hdone=>
    rintro D ys W hD hys hi hK
    have HI:=Lib.hid hi
    have HK:=Lib.hid hK
    obtain ⟨bx,hbx⟩:=hi.fr
    have HB:=Lib.hid hbx
    have hyl:=congrArg List.length hys
    rw [valsN_len] at hyl
    have HR2:Hid (r=decide ((ys.length:Int)≤8)):=by
     show _=_
     rw [HM2.out,← hys,HI.out.ok,Bool.true_and,valsN_len]
     exact decide_eq_decide.2 (by omega)
    have c1:W.cell? ⟨w.heap.size+1,0,none⟩=some (.int .i64 (ys.length:Int)):=HI.out.fc.cell 0 rfl
    have c0:W.cell? ⟨w.heap.size,0,none⟩=some (.bool bx):=HB.out.cell 0 rfl
    have c2:=HB.out.frozen 0
    obtain ⟨bb,hbb⟩:∃ bb,decide ((ys.length:Int)≤8)=bb:=⟨_,rfl⟩
    rw [hbb] at HR2
    have HBB:=Lib.hid hbb
    clear hi hK hbx hys hyl hbb
    go_wp2
    rw [HBB.out]
    obtain ⟨W2,hW2⟩:∃ W2,W.setCell ⟨w.heap.size,0,none⟩ (.bool bb)=W2:=⟨_,rfl⟩
    have hg2:W.grownBy W2 (some w.heap.size):=hW2▸only_setCell (World.grownBy.refl W _) 0 _
    have hr2:Blk W2 w.heap.size 4 #[.bool bb]:=hW2▸HB.out.set_ 0 _
    have hK2:W2.heap[D]?=some (.deferred (some [])):=(hg2.block D (Array.getElem?_eq_some_iff.1 HK.out).1 (by intro e;have:=Option.some.inj e;omega)).trans HK.out
    have hB2:Below w.heap.size w W2:=HI.out.below.grown hg2 HI.out.below.size (fun j e=>by have:=Option.some.inj e;omega)
    have hr3:Blk (W2.putObj D (.deferred none)) w.heap.size 4 #[.bool bb]:=hr2.grown (grownBy_putObj' W2 D _) (by intro e;have:=Option.some.inj e;omega)
    rw [hW2]
    refine ⟨by simp,.inl ⟨_,_,rfl,run_takeDeferred hK2,?_⟩⟩
    refine ⟨.bool bb,?_,by rw [HR2.out],hB2.trans (belowK_b (w:=W0) (by omega) W2 D _ _ (by omega) hK2 rfl rfl)⟩
    have c3:=hr3.cell 0 rfl
    simp [results,Tryz.results37,go_sem,c3]
   case hstop=>
    rintro D c pre W hD ⟨r2,hpre⟩ ⟨rfl,hx⟩ hK
    have hr:r=false:=by rw [HM2.out,← hpre,List.all_append,hx.no];rfl
    refine wpIn_wide.2 ?_
    go_wp2
    have hr3:Blk (W.putObj D (.deferred none)) w.heap.size 4 #[.bool false]:=hx.fr.grown (grownBy_putObj' W D _) (by intro e;have:=Option.some.inj e;omega)
    refine ⟨by simp,.inl ⟨_,_,rfl,run_takeDeferred hK,?_⟩⟩
    refine ⟨.bool false,?_,by rw [hr],hx.below.trans (belowK_b (w:=W0) (by omega) W D _ _ (by omega) hK rfl rfl)⟩
    have c3:=hr3.cell 0 rfl
    simp [results,Tryz.results37,go_sem,c3]
  ·have hm:r=false:=by rw [HM.out,hpl,decide_eq_false (by omega)];rfl
   have hl2:(200:Int)<(p.size:Int):=by omega
   subst hm
   clear hpl HM hl
   go_enter Tryz.func37,Tryz.ntmps37
   go_wp2_with fail
   refine (CH.out _).mono ?_
   rintro e w' ⟨rfl,rfl⟩
   go_wp2
   obtain ⟨W0,hW0⟩:∃ W0,w.alloc (.cells #[.bool false] 4)=W0:=⟨_,rfl⟩
   have c3:W0.cell? ⟨w.heap.size,0,none⟩=some (.bool false):=by rw [← hW0];exact (Blk.new w 4 #[.bool false]).cell 0 rfl
   have hB:Below w.heap.size w W0:=by rw [← hW0];exact B0.out
   rw [hW0]
   clear hW0
   refine bodyPost_ret (v:=.bool false) ?_ rfl ⟨rfl,hB⟩
   simp [results,Tryz.results37,go_sem,c3]
attribute [local go_sem] Oper.semAt_some
structure FindI (w:World) (A:Option Addr) (c:Nat) (xs:List ByteArray) (vb ab eb nb:Nat) (pre:List Nm) (W:World):Prop where
 fv:Blk W vb 24 #[.slice A xs.length c]
 fa:Blk W ab 3 #[.int .i64 0]
 fe:Blk W eb 32 #[.int .i64 0]
 fn:Blk W nb 3 #[.int .i64 (goO xs 1 (valsN pre)).1]
 ok:(goO xs 1 (valsN pre)).2=0
 below:Below w.heap.size w W
structure FindX (w:World) (xs:List ByteArray) (ab eb:Nat) (pre:List Nm) (W:World):Prop where
 fa:Blk W ab 3 #[.int .i64 0]
 fe:Blk W eb 32 #[.int .i64 (goO xs 1 (valsN pre)).2]
 no:(goO xs 1 (valsN pre)).2≠0
 below:Below w.heap.size w W
section
variable {w:World} {A:Option Addr} {c:Nat} {xs:List ByteArray} {vb ab eb nb:Nat} {B:Nat}
theorem FindI.own (hB:w.heap.size≤B):OwnFrom B (fun pre W=>FindI w A c xs vb ab eb nb pre W):=fun s X Y row hs hg hr=>
 have hr':∀ r,row=some r→∃ o:Obj,X.heap[r]?=some o∧o.isCells=false:=fun r e=>(hr r e).2
 ⟨Blk.own vb _ (fun (_:Unit)=>_) () X Y row hs.fv hg hr',Blk.own ab _ (fun (_:Unit)=>_) () X Y row hs.fa hg hr',Blk.own eb _ (fun (_:Unit)=>_) () X Y row hs.fe hg hr',
  Blk.own nb _ (fun (_:Unit)=>_) () X Y row hs.fn hg hr',hs.ok,ownFrom_below (Nat.le_refl _) hB s X Y row hs.below hg hr⟩
theorem FindX.own (hB:w.heap.size≤B):OwnFrom B (fun pre W=>FindX w xs ab eb pre W):=fun s X Y row hs hg hr=>
 have hr':∀ r,row=some r→∃ o:Obj,X.heap[r]?=some o∧o.isCells=false:=fun r e=>(hr r e).2
 ⟨Blk.own ab _ (fun (_:Unit)=>_) () X Y row hs.fa hg hr',Blk.own eb _ (fun (_:Unit)=>_) () X Y row hs.fe hg hr',hs.no,ownFrom_below (Nat.le_refl _) hB s X Y row hs.below hg hr⟩
theorem FindI.later {pre:List Nm} {X Y:World} (h:FindI w A c xs vb ab eb nb pre X) (hb:Below X.heap.size X Y):FindI w A c xs vb ab eb nb pre Y:=
 ⟨h.fv.below hb h.fv.lt,h.fa.below hb h.fa.lt,h.fe.below hb h.fe.lt,h.fn.below hb h.fn.lt,h.ok,h.below.trans (hb.mono h.below.size)⟩
end
set_option maxHeartbeats 4000000 in
theorem path_any (A:Option Addr) (c:Nat) (xs:List ByteArray) (p:ByteArray) (w:World) (hx:xs.length≤1000000) (h:RowAt w w.heap.size A (xs.map .string)) :
  Calls Tryz.prog 10 #[.slice A xs.length c,.string p] w fun e w'=>e=.returned (.tuple #[.int .i64 (pathO xs p.data.toList).1,.int .i64 (pathO xs p.data.toList).2])∧Below w.heap.size w w':=by
 have CM:=Lib.hid (mayp_any p)
 have HR:=Lib.hid h
 obtain ⟨W1,hW1⟩:∃ W1,((w.alloc (Obj.cells #[.slice A xs.length c] 24)).alloc (Obj.cells #[.int .i64 0] 3)).alloc (.cells #[.int .i64 0] 32)=W1:=⟨_,rfl⟩
 have B1:Hid (Below w.heap.size w W1):=by rw [← hW1];exact (((Below.refl w.heap.size w).alloc (Nat.le_refl _) _).alloc (by simp) _).alloc (by simp;omega) _
 have V1:Hid (Blk W1 w.heap.size 24 #[.slice A xs.length c]):=by rw [← hW1];exact ((Blk.new w _ _).alloc _).alloc _
 have A1:Hid (Blk W1 (w.heap.size+1) 3 #[.int .i64 0]):=by
  rw [← hW1]
  have:=(Blk.new (w.alloc (Obj.cells #[.slice A xs.length c] 24)) 3 #[.int .i64 0]).alloc (.cells #[.int .i64 0] 32)
  simp only [World.size_alloc] at this
  exact this
 have E1:Hid (Blk W1 (w.heap.size+1+1) 32 #[.int .i64 0]):=by
  rw [← hW1]
  have:=(Blk.new ((w.alloc (Obj.cells #[.slice A xs.length c] 24)).alloc (Obj.cells #[.int .i64 0] 3)) 32 #[.int .i64 0])
  simp only [World.size_alloc] at this
  exact this
 have hz1:W1.heap.size=w.heap.size+3:=by rw [← hW1];simp
 have HW1:=Lib.hid hW1
 obtain ⟨m,hm⟩:∃ m,mayP p.data.toList=m:=⟨_,rfl⟩
 rw [hm] at CM
 clear h hW1
 cases m with
 | false=>
  have HO:Hid (pathO xs p.data.toList=(0,7)):=by show _=_;unfold pathO;rw [if_pos hm]
  clear hm
  go_enter Tryz.func10,Tryz.ntmps10
  go_wp2_with fail
  rw [HW1.out]
  refine (CM.out _).mono ?_
  rintro e w2 ⟨rfl,hb2⟩
  have A2:=Lib.hid (A1.out.below hb2 A1.out.lt)
  have E2:=Lib.hid (E1.out.below hb2 E1.out.lt)
  have B2:=Lib.hid (B1.out.trans (hb2.mono B1.out.size))
  clear hb2 CM
  have c1:=A2.out.cell 0 rfl
  have c2:=A2.out.frozen 0
  have c3:=E2.out.cell 0 rfl
  have c4:=E2.out.frozen 0
  go_wp2
  obtain ⟨W3,hW3⟩:∃ W3,(w2.setCell ⟨w.heap.size+1,0,none⟩ (.int .i64 0)).setCell ⟨w.heap.size+1+1,0,none⟩ (.int .i64 7)=W3:=⟨_,rfl⟩
  have d1:W3.cell? ⟨w.heap.size+1,0,none⟩=some (.int .i64 0):=by rw [← hW3];exact ((A2.out.set_ 0 (.int .i64 0)).far (by simp) _).cell 0 rfl
  have d2:W3.cell? ⟨w.heap.size+1+1,0,none⟩=some (.int .i64 7):=by rw [← hW3];exact ((E2.out.far (by simp) _).set_ 0 (.int .i64 7)).cell 0 rfl
  have hB:Below w.heap.size w W3:=by rw [← hW3];exact (B2.out.setCell (by simp) _).setCell (by simp;omega) _
  rw [hW3,HO.out]
  clear hW3
  refine bodyPost_ret (v:=.tuple #[.int .i64 0,.int .i64 7]) ?_ rfl ⟨rfl,hB⟩
  simp [results,Tryz.results10,go_sem,d1,d2]
 | true=>
  have HM:Hid (pathO xs p.data.toList=goO xs 1 (namesP p.data.toList)):=by show _=_;unfold pathO;rw [if_neg (by rw [hm];simp)]
  have hpz:p.size≤200:=by
   unfold mayP at hm
   simp only [Bool.and_eq_true,decide_eq_true_eq] at hm
   have:=hm.1.1.2
   rw [Array.length_toList] at this
   exact this
  have HP:=Lib.hid hpz
  clear hm
  refine (callsIn_wide (n:=4)).1 ?_
  refine callsIn_of_wp_marks Tryz.func10 rfl trivial ?_
  simp only [Tryz.ntmps10,List.size_toArray,List.length_cons,List.length_nil,Nat.reduceAdd,Nat.reduceSub,Array.replicate_succ,Array.replicate_zero,List.push_toArray,List.append_toArray,List.nil_append,List.cons_append]
  refine wpIn_wide.2 ?_
  go_wp2_with fail
  rw [HW1.out]
  refine (CM.out _).mono ?_
  rintro e w2 ⟨rfl,hb2⟩
  have V2:=Lib.hid (V1.out.below hb2 V1.out.lt)
  have A2:=Lib.hid (A1.out.below hb2 A1.out.lt)
  have E2:=Lib.hid (E1.out.below hb2 E1.out.lt)
  have B2:=Lib.hid (B1.out.trans (hb2.mono B1.out.size))
  have hz2:=hb2.size
  clear hb2 CM HW1 V1 A1 E1 B1 hpz
  go_wp2_with fail
  refine (names_any _ _).mono ?_
  rintro e w' ⟨rfl,rfl⟩
  go_wp2_with fail
  obtain ⟨W0,hW0⟩:∃ W0,(w2.alloc (Obj.cells #[Value.int .i64 1] 3)).alloc (.cells #[.string p] 9)=W0:=⟨_,rfl⟩
  have HI0:Hid (FindI w A c xs w.heap.size (w.heap.size+1) (w.heap.size+1+1) w2.heap.size [] W0):=by
   rw [← hW0]
   refine ⟨(V2.out.alloc _).alloc _,(A2.out.alloc _).alloc _,(E2.out.alloc _).alloc _,(Blk.new w2 _ _).alloc _,rfl,((B2.out.alloc (by omega) _).alloc (by simp;omega) _)⟩
  have HBn:Hid (Blk W0 (w2.heap.size+1) 9 #[.string p]):=by
   rw [← hW0]
   have:=(Blk.new (w2.alloc (Obj.cells #[Value.int .i64 1] 3)) 9 #[.string p])
   simp only [World.size_alloc] at this
   exact this
  have hz0:W0.heap.size=w2.heap.size+2:=by rw [← hW0];simp
  rw [hW0]
  clear hW0 V2 A2 E2 B2
  generalize w2.heap.size=nb at *
  refine (wpIn_wide (n:=4)).1 ?_
  refine wpIn_rangeFunc_ownG_of_H rfl (by omega) (gf:=95) (lb:=#[.pointer (some ⟨nb+1,0,none⟩)]) rfl trivial (enters_of Tryz.func95 (by kernel_rfl) rfl)
   (names_stops 3 (by omega) (nb+1) p HP.out (fun _ _=>True) W0 HBn.out)
   (fun _ _=>trivial) (fun _ _ _ _ _ _ _ _=>trivial) (Below.refl _ _) (fun _=>rfl)
   (fun pre W=>FindI w A c xs w.heap.size (w.heap.size+1) (w.heap.size+1+1) nb pre W) (fun c pre W=>c=.ret∧FindX w xs (w.heap.size+1) (w.heap.size+1+1) pre W)
   (FindI.own (by omega)) (fun c s X Y row hs hg hr=>⟨hs.1,FindX.own (by omega) s X Y row hs.2 hg hr⟩) HI0.out
   (fun x=>{ tmps:=#[.slice A xs.length c,Value.string p,.pointer (some ⟨w.heap.size,0,none⟩),undef,.pointer (some ⟨w.heap.size+1,0,none⟩),.pointer (some ⟨w.heap.size+1+1,0,none⟩),.pointer (some ⟨nb,0,none⟩),.string (nmS x),undef,undef,.string p,.bool true,.bool false,.string p,Value.func (Fn.func 95) #[] #[Value.pointer (some { block:=nb+1,off:=0 })],.string (nmS x),undef,undef,undef,undef,undef,undef,undef,undef,undef,undef,undef,undef],defers:=[] })
   ?hassign ?hbody ?hdone ?hstop ?hKr
  case hKr=>intro _;trivial
  case hassign=>
   intro l x W K hK
   gi_wp2
   exact hK
  case hbody=>
   rintro lp pre x W hi hlt
   have HI:=Lib.hid hi
   obtain ⟨d,hd⟩:∃ d,(goO xs 1 (valsN pre)).1=d:=⟨_,rfl⟩
   have FN:=Lib.hid hi.fn
   rw [hd] at FN
   have CF:=Lib.hid (fun h=>find_any A c xs d (nmS x) W hx (by show (x.val.toArray).size≤_;rw [List.size_toArray];have:=x.2;omega) h)
   have HS:Hid (goO xs 1 (valsN (pre++[x]))=if (findO xs d (nmS x)).2≠0 then (0,(findO xs d (nmS x)).2) else ((findO xs d (nmS x)).1,0)):=by
    show _=_
    rw [valsN_snoc,goO_snoc _ _ _ _ hi.ok,hd]
    rfl
   obtain ⟨m,e,hf⟩:∃ m e,findO xs d (nmS x)=(m,e):=⟨_,_,rfl⟩
   rw [hf] at CF HS
   have c1:=HI.out.fv.cell 0 rfl
   have c2:W.cell? ⟨nb,0,none⟩=some (.int .i64 d):=FN.out.cell 0 rfl
   clear hi hf hd
   by_cases he:e=0
   ·subst he
    gi_wp2_with fail
    refine ⟨trivial,CallsIn.inRound lp (callsIn_wide.2 ((CF.out ((HR.out.below HI.out.below).mono HI.out.below.size)).mono ?_))⟩
    rintro e w1 ⟨rfl,hb1⟩
    have H1:=Lib.hid (HI.out.later hb1)
    have K1:=Lib.hid (keeps_below hb1)
    clear hb1 CF c1 c2
    have c3:=H1.out.fn.cell 0 rfl
    have c4:=H1.out.fn.frozen 0
    gi_wp2
    refine ⟨(K1.out.trans (KeepsOthers.setCell _ _ _)).from _,trivial,H1.out.fv.far (by simp;omega) _,H1.out.fa.far (by simp;omega) _,H1.out.fe.far (by simp;omega) _,?_,?_,H1.out.below.setCell (by simp;omega) _⟩
    ·have:=H1.out.fn.set_ 0 (.int .i64 m)
     rw [HS.out]
     exact this
    ·rw [HS.out];rfl
   ·have he':(e != 0)=true:=by simpa using he
    gi_wp2_with fail
    refine ⟨trivial,CallsIn.inRound lp (callsIn_wide.2 ((CF.out ((HR.out.below HI.out.below).mono HI.out.below.size)).mono ?_))⟩
    rintro e w1 ⟨rfl,hb1⟩
    have H1:=Lib.hid (HI.out.later hb1)
    have K1:=Lib.hid (keeps_below hb1)
    clear hb1 CF c1 c2
    have c1:=H1.out.fa.cell 0 rfl
    have c2:=H1.out.fa.frozen 0
    have c3:=H1.out.fe.cell 0 rfl
    have c4:=H1.out.fe.frozen 0
    gi_wp2
    rw [if_pos he] at HS
    refine ⟨((K1.out.trans (KeepsOthers.setCell _ _ _)).trans (KeepsOthers.setCell _ _ _)).from _,rfl,?_,?_,by rw [HS.out];exact he,(H1.out.below.setCell (by simp) _).setCell (by simp;omega) _⟩
    ·exact (H1.out.fa.set_ 0 (.int .i64 0)).far (by simp) _
    ·rw [HS.out]
     exact (H1.out.fe.far (by simp) _).set_ 0 (.int .i64 e)
  case hdone=>
   rintro D ys W hD hys hi hK
   have HI:=Lib.hid hi
   have HK:=Lib.hid hK
   obtain ⟨d,hd⟩:∃ d,(goO xs 1 (valsN ys)).1=d:=⟨_,rfl⟩
   have HO:Hid (pathO xs p.data.toList=(d,0)):=by
    show _=_
    rw [HM.out,← hys,← hd,← hi.ok]
   have FN:=Lib.hid hi.fn
   rw [hd] at FN
   have c0:W.cell? ⟨nb,0,none⟩=some (.int .i64 d):=FN.out.cell 0 rfl
   have c1:=HI.out.fa.cell 0 rfl
   have c2:=HI.out.fa.frozen 0
   have c3:=HI.out.fe.cell 0 rfl
   have c4:=HI.out.fe.frozen 0
   clear hi hK hd hys
   go_wp2
   obtain ⟨W1',hW1'⟩:∃ W1',(W.setCell ⟨w.heap.size+1,0,none⟩ (.int .i64 d)).setCell ⟨w.heap.size+1+1,0,none⟩ (.int .i64 0)=W1':=⟨_,rfl⟩
   have ha1:Blk W1' (w.heap.size+1) 3 #[.int .i64 d]:=hW1'▸(HI.out.fa.set_ 0 (.int .i64 d)).far (by simp) _
   have he1:Blk W1' (w.heap.size+1+1) 32 #[.int .i64 0]:=hW1'▸(HI.out.fe.far (by simp) _).set_ 0 (.int .i64 0)
   have hK1:W1'.heap[D]?=some (.deferred (some [])):=by
    rw [← hW1',Below.heap_setCell _ _ _ D (by show D≠w.heap.size+1+1;omega),Below.heap_setCell _ _ _ D (by show D≠w.heap.size+1;omega)]
    exact HK.out
   have hB1:Below w.heap.size w W1':=hW1'▸(HI.out.below.setCell (by simp) _).setCell (by simp;omega) _
   have ha3:Blk (W1'.putObj D (.deferred none)) (w.heap.size+1) 3 #[.int .i64 d]:=ha1.grown (grownBy_putObj' W1' D _) (by intro e;have:=Option.some.inj e;omega)
   have he3:Blk (W1'.putObj D (.deferred none)) (w.heap.size+1+1) 32 #[.int .i64 0]:=he1.grown (grownBy_putObj' W1' D _) (by intro e;have:=Option.some.inj e;omega)
   rw [hW1']
   refine ⟨by simp,.inl ⟨_,_,rfl,run_takeDeferred hK1,?_⟩⟩
   refine ⟨.tuple #[.int .i64 d,.int .i64 0],?_,by rw [HO.out],hB1.trans (belowK_b (w:=W0) (by omega) W1' D _ _ (by omega) hK1 rfl rfl)⟩
   have e1:=ha3.cell 0 rfl
   have e2:=he3.cell 0 rfl
   simp [results,Tryz.results10,go_sem,e1,e2]
  case hstop=>
   rintro D c pre W hD ⟨r2,hpre⟩ ⟨rfl,hx⟩ hK
   obtain ⟨d,hd⟩:∃ d,(goO xs 1 (valsN pre)).2=d:=⟨_,rfl⟩
   have HO:Hid (pathO xs p.data.toList=(0,d)):=by
    show _=_
    rw [HM.out,← hpre,goO_stop _ _ _ _ hx.no,hd]
   have hfe:=hx.fe
   rw [hd] at hfe
   refine wpIn_wide.2 ?_
   go_wp2
   have ha3:Blk (W.putObj D (.deferred none)) (w.heap.size+1) 3 #[.int .i64 0]:=hx.fa.grown (grownBy_putObj' W D _) (by intro e;have:=Option.some.inj e;omega)
   have he3:Blk (W.putObj D (.deferred none)) (w.heap.size+1+1) 32 #[.int .i64 d]:=hfe.grown (grownBy_putObj' W D _) (by intro e;have:=Option.some.inj e;omega)
   refine ⟨by simp,.inl ⟨_,_,rfl,run_takeDeferred hK,?_⟩⟩
   refine ⟨.tuple #[.int .i64 0,.int .i64 d],?_,by rw [HO.out],hx.below.trans (belowK_b (w:=W0) (by omega) W D _ _ (by omega) hK rfl rfl)⟩
   have e1:=ha3.cell 0 rfl
   have e2:=he3.cell 0 rfl
   simp [results,Tryz.results10,go_sem,e1,e2]
theorem getR_fit {xs:List ByteArray} {m k:Nat} (hv:IsVol xs m) (h1:1≤k) (h2:k≤m):FitN (getR xs (k:Int)):=by
 rw [getR_vol hv h1 h2];exact inoR_fit _ _
theorem writeO_le {xs:List ByteArray} (hx:xs.length≤1000000) (n off:Int) (d:List UInt8):(writeO xs n off d).1.length≤1000000:=by
 by_cases h0:inoE xs n=0
 ·obtain ⟨m,nn,hv,rfl,h1,h2,_⟩:=inoE_ok h0
  unfold writeO
  rw [h0,if_neg (by simp)]
  by_cases hneg:off<0
  ·rw [if_pos hneg];simp
  ·rw [if_neg hneg]
   by_cases hbig:8960<off∨8960<off+(d.length:Int)
   ·rw [if_pos hbig];simp
   ·rw [if_neg hbig,mO_vol hv]
    cases hw:wriG noK xs m (getR xs (nn:Int)) off.toNat d with
    | none=>simp
    | some r=>
     have:=wriG_ok (noK_ok m) (⟨hv,rfl,getR_fit hv h1 h2⟩:OkS xs.length m (xs,getR xs (nn:Int))) (by omega) hw
     dsimp only
     rw [putV_length,this.len];exact hx
 ·unfold writeO
  rw [if_pos h0];simp
theorem cutO_le {xs:List ByteArray} (hx:xs.length≤1000000) (n size:Int):(cutO xs n size).1.length≤1000000:=by
 by_cases h0:inoE xs n=0
 ·obtain ⟨m,nn,hv,rfl,h1,h2,_⟩:=inoE_ok h0
  unfold cutO
  rw [h0,if_neg (by simp)]
  by_cases hneg:size<0
  ·rw [if_pos hneg];simp
  ·rw [if_neg hneg]
   by_cases hbig:8960<size
   ·rw [if_pos hbig];simp
   ·rw [if_neg hbig,mO_vol hv]
    have:=cutG_ok (noK_ok m) (⟨hv,rfl,getR_fit hv h1 h2⟩:OkS xs.length m (xs,getR xs (nn:Int))) (size:=size.toNat) (by omega)
    dsimp only
    rw [putV_length,this.len];exact hx
 ·unfold cutO
  rw [if_pos h0];simp
end Go.Proofs.YtdldlendppkknaaGreatDoor
