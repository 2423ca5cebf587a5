/-
  Contracts and plain laws: FsA, FsB, FsC, DirF.
-/
import Derived.Laws.AppendOwnNone
import Derived.Test.YtdldlendppkknaaGreatDoorPackV19
namespace Go.Proofs.YtdldlendppkknaaGreatDoor
open Go.RowKit
set_option linter.unusedVariables false
set_option linter.unusedSimpArgs false
set_option maxRecDepth 100000
theorem OwnRow.keep {ys:List ByteArray} {w w1 w2:World} {v:Value} (h:OwnRow ys w v w1) (hb:Below w1.heap.size w1 w2):OwnRow ys w v w2:=own_below h hb
theorem any_succ (p:Nat→Bool) (k:Nat):(List.range (k+1)).any p=((List.range k).any p || p k):=by
 rw [List.range_succ,List.any_append];simp
theorem any_of {p:Nat→Bool} {k n:Nat} (hk:k<n) (h:p k=true):(List.range n).any p=true:=by
 rw [List.any_eq_true]
 exact ⟨k,List.mem_range.2 hk,h⟩
theorem limitO_range (xs:List ByteArray) (o:Int):0≤(limitO xs o).1∧(limitO xs o).1<65536:=by
 unfold limitO
 split
 ·have:=limN_lt xs o.toNat
  dsimp only
  omega
 ·dsimp only;omega
set_option maxHeartbeats 4000000 in
theorem beyond_any (A A2:Option Addr) (c c2:Nat) (xs ys:List ByteArray) (w:World) (hx:xs.length≤1000000) (hy:ys.length≤1000000) (h:RowAt w w.heap.size A (xs.map .string)) (h2:RowAt w w.heap.size A2 (ys.map .string)) :
  Calls Tryz.prog 105 #[.slice A xs.length c,.slice A2 ys.length c2] w fun e w'=>e=.returned (.bool (beyondO xs ys))∧Below w.heap.size w w':=by
 have HR:=Lib.hid h
 have HR2:=Lib.hid h2
 have HB0:Hid (beyondO xs ys=(List.range 16).any (beyB xs ys)):=by show _=_;rfl
 clear h h2
 go_enter Tryz.func105,Tryz.ntmps105
 go_wp2
 go_loopw [9] (fun i wr=>∃ k:Nat,k≤16∧i=.int .i64 k∧(List.range k).any (beyB xs ys)=false∧Hid (Below w.heap.size w wr)) (fun i _=>16-(intOf i).toNat)
 case atStart=>exact ⟨0,by omega,rfl,rfl,Lib.hid (Below.refl _ _)⟩
 case round=>
  obtain ⟨k,hk,rfl,hno,BK⟩:=hrel
  by_cases hlt:k<16
  ·have hlt':(k:Int)<16:=by omega
   have CL:=Lib.hid (quo_limit A2 c2 ys (k:Int) wr hy ((HR2.out.below BK.out).mono BK.out.size))
   have CU:=Lib.hid (fun w' (hb:Below w.heap.size w w')=>used_quo A2 c2 ys (k:Int) w' hy ((HR2.out.below hb).mono hb.size))
   have CV:=Lib.hid (fun w' (hb:Below w.heap.size w w')=>used_quo A c xs (k:Int) w' hx ((HR.out.below hb).mono hb.size))
   have hu1:=usedO_le xs (k:Int)
   have hu2:=usedO_le ys (k:Int)
   have hlr:=limitO_range ys (k:Int)
   have HY:Hid (beyB xs ys k=(decide ((limitO ys (k:Int)).2=0) && decide ((limitO ys (k:Int)).1≠0) && decide ((limitO ys (k:Int)).1<(usedO ys (k:Int):Int)) && decide (usedO xs (k:Int)<usedO ys (k:Int)))):=by show _=_;rfl
   have HSU:=Lib.hid (any_succ (beyB xs ys) k)
   have HOF:=Lib.hid (fun h=>any_of (p:=beyB xs ys) hlt h)
   generalize limitO ys (k:Int)=lo at *
   obtain ⟨lm,le⟩:=lo
   generalize usedO ys (k:Int)=u2 at *
   generalize usedO xs (k:Int)=u1 at *
   dsimp only at *
   by_cases he:le=0
   ·subst he
    by_cases hl:lm=0
    ·subst hl
     have HN:Hid ((List.range (k+1)).any (beyB xs ys)=false):=by show _=_;rw [HSU.out,hno,HY.out];simp
     go_wp2_with fail
     refine CL.out.mono ?_
     rintro e w1 ⟨rfl,hb1⟩
     have B1:=Lib.hid (BK.out.trans (hb1.mono BK.out.size))
     clear hb1 CL
     go_wp2
     go_roundw
     case rel=>exact ⟨k+1,by omega,by go_num,HN.out,B1⟩
     case measure=>simp [intOf];omega
    ·have hl2:(lm == 0)=false:=by simpa using hl
     by_cases hu:lm<(u2:Int)
     ·by_cases hv:u1<u2
      ·have hv2:(u1:Int)<(u2:Int):=by omega
       have HN:Hid (beyondO xs ys=true):=by show _=_;rw [HB0.out];refine HOF.out ?_;rw [HY.out];simp [hl,hu,hv]
       go_wp2_with fail
       refine CL.out.mono ?_
       rintro e w1 ⟨rfl,hb1⟩
       have B1:=Lib.hid (BK.out.trans (hb1.mono BK.out.size))
       clear hb1 CL
       go_wp2_with fail
       refine (CU.out _ B1.out).mono ?_
       rintro e w2 ⟨rfl,hb2⟩
       have B2:=Lib.hid (B1.out.trans (hb2.mono B1.out.size))
       clear hb2 CU
       go_wp2_with fail
       refine (CV.out _ B2.out).mono ?_
       rintro e w3 ⟨rfl,hb3⟩
       have B3:=Lib.hid (B2.out.trans (hb3.mono B2.out.size))
       clear hb3 CV
       go_wp2
       go_ret
       rw [HN.out]
       exact ⟨rfl,B3.out⟩
      ·have hv2:¬ (u1:Int)<(u2:Int):=by omega
       have HN:Hid ((List.range (k+1)).any (beyB xs ys)=false):=by show _=_;rw [HSU.out,hno,HY.out];simp [hv]
       go_wp2_with fail
       refine CL.out.mono ?_
       rintro e w1 ⟨rfl,hb1⟩
       have B1:=Lib.hid (BK.out.trans (hb1.mono BK.out.size))
       clear hb1 CL
       go_wp2_with fail
       refine (CU.out _ B1.out).mono ?_
       rintro e w2 ⟨rfl,hb2⟩
       have B2:=Lib.hid (B1.out.trans (hb2.mono B1.out.size))
       clear hb2 CU
       go_wp2_with fail
       refine (CV.out _ B2.out).mono ?_
       rintro e w3 ⟨rfl,hb3⟩
       have B3:=Lib.hid (B2.out.trans (hb3.mono B2.out.size))
       clear hb3 CV
       go_wp2
       go_roundw
       case rel=>exact ⟨k+1,by omega,by go_num,HN.out,B3⟩
       case measure=>simp [intOf];omega
     ·have HN:Hid ((List.range (k+1)).any (beyB xs ys)=false):=by show _=_;rw [HSU.out,hno,HY.out];simp [hu]
      go_wp2_with fail
      refine CL.out.mono ?_
      rintro e w1 ⟨rfl,hb1⟩
      have B1:=Lib.hid (BK.out.trans (hb1.mono BK.out.size))
      clear hb1 CL
      go_wp2_with fail
      refine (CU.out _ B1.out).mono ?_
      rintro e w2 ⟨rfl,hb2⟩
      have B2:=Lib.hid (B1.out.trans (hb2.mono B1.out.size))
      clear hb2 CU
      go_wp2
      go_roundw
      case rel=>exact ⟨k+1,by omega,by go_num,HN.out,B2⟩
      case measure=>simp [intOf];omega
   ·have he2:(le != 0)=true:=by simpa using he
    have HN:Hid ((List.range (k+1)).any (beyB xs ys)=false):=by show _=_;rw [HSU.out,hno,HY.out];simp [he]
    go_wp2_with fail
    refine CL.out.mono ?_
    rintro e w1 ⟨rfl,hb1⟩
    have B1:=Lib.hid (BK.out.trans (hb1.mono BK.out.size))
    clear hb1 CL
    go_wp2
    go_roundw
    case rel=>exact ⟨k+1,by omega,by go_num,HN.out,B1⟩
    case measure=>simp [intOf];omega
  ·obtain rfl:k=16:=by omega
   have HN:Hid (beyondO xs ys=false):=by show _=_;rw [HB0.out,hno]
   go_wp2
   go_ret
   rw [HN.out]
   exact ⟨rfl,BK.out⟩
def Weigh (r:List ByteArray × Int) (B:Nat) (Q:World→Prop) (w:World) (e:Ending) (w':World):Prop:=(∃ v,e=.returned (.tuple #[v,.int .i64 r.2])∧OwnRow r.1 w v w')∧Below B w w'∧Q w'
theorem Weigh.of_row {r:List ByteArray × Int} {w:World} {e:Ending} {w':World} (h:RowCode r.1 r.2 w e w'):Weigh r w.heap.size (fun _=>True) w e w':=⟨h.1,h.2,trivial⟩
set_option maxHeartbeats 4000000 in
theorem weighed_any (A:Option Addr) (c:Nat) (xs:List ByteArray) (g:FuncId) (lb:Array Value) (r:List ByteArray × Int) (B:Nat) (Q:World→Prop) (w:World) (hx:xs.length≤1000000) (hr:r.1.length≤1000000)
  (eg:∀ args w,(callFunc g args).run Tryz.prog w=.ok (.enter g args) w) (hB:B≤w.heap.size) (h:RowAt w B A (xs.map .string)) (hQ:∀ X Y,Q X→Below X.heap.size X Y→Q Y) (hc:Calls Tryz.prog g lb w (Weigh r B Q w)) :
  Calls Tryz.prog 44 #[.slice A xs.length c,.func (.func g) #[] lb] w (Weigh (weighO xs r) B Q w):=by
 obtain ⟨rs,code⟩:=r
 have CC:=Lib.hid hc
 have HR:=Lib.hid h
 have HQ:=Lib.hid hQ
 have HO:Hid (weighO xs (rs,code)=if code≠0 then ([],code) else if beyondO xs rs=true then ([],13) else (rs,0)):=by show _=_;rfl
 clear hc h hQ
 by_cases he:code=0
 ·subst he
  rw [if_neg (by simp)] at HO
  cases hb:beyondO xs rs with
  | true=>
   rw [if_pos hb] at HO
   have hlb:(#[]:Array Value)++lb=lb:=by simp
   go_enter Tryz.func44,Tryz.ntmps44
   go_wp2_with fail
   refine CC.out.mono ?_
   rintro e w1 ⟨⟨v,rfl,hown⟩,hb1,hq1⟩
   obtain ⟨A1,c1,rfl,hrow⟩:=OwnRow.read hown
   have B1:=Lib.hid hb1
   have Q1:=Lib.hid hq1
   have CB:=Lib.hid (beyond_any A A1 c c1 xs rs w1 hx hr ((HR.out.below B1.out).mono (Nat.le_trans hB B1.out.size)) hrow)
   rw [hb] at CB
   clear hb1 hq1 CC hown hrow
   go_wp2_with fail
   refine CB.out.mono ?_
   rintro e w2 ⟨rfl,hb2⟩
   have B2:=Lib.hid (B1.out.trans (hb2.mono (Nat.le_trans hB B1.out.size)))
   have Q2:=Lib.hid (HQ.out _ _ Q1.out hb2)
   clear hb2 CB
   go_wp2
   go_ret2
   rw [HO.out]
   exact ⟨⟨_,rfl,own_nil _ _⟩,B2.out,Q2.out⟩
  | false=>
   rw [if_neg (by rw [hb];simp)] at HO
   go_enter Tryz.func44,Tryz.ntmps44
   go_wp2_with fail
   refine CC.out.mono ?_
   rintro e w1 ⟨⟨v,rfl,hown⟩,hb1,hq1⟩
   have ON:=Lib.hid hown
   obtain ⟨A1,c1,rfl,hrow⟩:=OwnRow.read hown
   have B1:=Lib.hid hb1
   have Q1:=Lib.hid hq1
   have CB:=Lib.hid (beyond_any A A1 c c1 xs rs w1 hx hr ((HR.out.below B1.out).mono (Nat.le_trans hB B1.out.size)) hrow)
   rw [hb] at CB
   clear hb1 hq1 CC hown hrow
   go_wp2_with fail
   refine CB.out.mono ?_
   rintro e w2 ⟨rfl,hb2⟩
   have B2:=Lib.hid (B1.out.trans (hb2.mono (Nat.le_trans hB B1.out.size)))
   have Q2:=Lib.hid (HQ.out _ _ Q1.out hb2)
   have O2:=Lib.hid (OwnRow.keep ON.out hb2)
   clear hb2 CB
   go_wp2
   go_ret2
   rw [HO.out]
   exact ⟨⟨_,rfl,O2.out⟩,B2.out,Q2.out⟩
 ·rw [if_pos he] at HO
  have he2:(code != 0)=true:=by simpa using he
  go_enter Tryz.func44,Tryz.ntmps44
  go_wp2_with fail
  refine CC.out.mono ?_
  rintro e w1 ⟨⟨v,rfl,hown⟩,hb1,hq1⟩
  have B1:=Lib.hid hb1
  have Q1:=Lib.hid hq1
  clear hb1 hq1 CC hown
  go_wp2
  go_ret2
  rw [HO.out]
  exact ⟨⟨_,rfl,own_nil _ _⟩,B1.out,Q1.out⟩
theorem last_range (p:ByteArray):-1≤Lib.lastIndexByte p 47∧Lib.lastIndexByte p 47<(p.size:Int):=by
 rcases Lib.lastIdx_spec p 47 p.size with ⟨h,_⟩ | ⟨i,hi,h,_⟩
 ·unfold Lib.lastIndexByte;rw [h];omega
 ·unfold Lib.lastIndexByte;rw [h];omega
set_option maxHeartbeats 4000000 in
theorem split_any (p:ByteArray) (w:World) (h1:1≤p.size) (hs:p.size≤140737488355328):Calls Tryz.prog 62 #[.string p] w fun e w'=>e=.returned (.tuple #[.string (aboveB p),.string (lastB p)])∧Below w.heap.size w w':=by
 have CI:Hid (∀ w,Calls Tryz.prog 124 #[.string p,.int .u8 47] w fun e w'=>e=.returned (.int .i64 (Lib.lastIndexByte p 47))∧w'=w):=fun w=>Tryz.strings_LastIndexByte p 47 (by omega) w
 have HA:Hid (aboveB p=p.extract 0 (max (Lib.lastIndexByte p 47) 1).toNat):=by show _=_;rfl
 have HL:Hid (lastB p=p.extract (Lib.lastIndexByte p 47+1).toNat p.size):=by show _=_;rfl
 have hr:=last_range p
 generalize Lib.lastIndexByte p 47=ix at *
 have s1:IntKind.i64.wrap (ix+1)=ix+1:=IntWalk.i64_in _ (by omega)
 have s2:(0:Int)≤ix+1:=by omega
 have s3:ix+1≤(p.size:Int):=by omega
 have s4:(0:Int)≤max ix 1:=by omega
 have s5:max ix 1≤(p.size:Int):=by omega
 go_enter Tryz.func62,Tryz.ntmps62
 go_wp2_with fail
 refine (CI.out _).mono ?_
 rintro e w1 ⟨rfl,rfl⟩
 clear CI hr
 go_wp2_with fail
 go_region
 go_wp2
 go_ret2
 rw [HA.out,HL.out]
 exact ⟨rfl,(Below.refl _ _).drew⟩
theorem last_len (p:ByteArray):(lastB p).size≤p.size:=by unfold lastB;rw [ByteArray.size_extract];omega
theorem mayP_size {p:ByteArray} (h:mayP p.data.toList=true):1≤p.size∧p.size≤200:=by
 unfold mayP at h
 simp only [Bool.and_eq_true,decide_eq_true_eq] at h
 obtain ⟨⟨⟨h1,h2⟩,_⟩,_⟩:=h
 rw [Array.length_toList] at h2
 refine ⟨?_,h2⟩
 rcases Nat.eq_zero_or_pos p.size with h0 | h0
 ·have:p.data.toList=[]:=List.eq_nil_of_length_eq_zero (by rw [Array.length_toList];exact h0)
  rw [this] at h1
  cases h1
 ·exact h0
def VacPost (o:Int × ByteArray × Int) (w:World) (e:Ending) (w':World):Prop:=e=.returned (.tuple #[.int .i64 o.1,.string o.2.1,.int .i64 o.2.2])∧Below w.heap.size w w'
set_option maxHeartbeats 4000000 in
theorem vacant_any (A:Option Addr) (c:Nat) (xs:List ByteArray) (p:ByteArray) (w:World) (hx:xs.length≤1000000) (h:RowAt w w.heap.size A (xs.map .string)) :
  Calls Tryz.prog 86 #[.slice A xs.length c,.string p] w (VacPost (vacO xs p) w):=by
 have HR:=Lib.hid h
 have CM:=Lib.hid (mayp_any p w)
 obtain ⟨b,hb⟩:∃ b,mayP p.data.toList=b:=⟨_,rfl⟩
 rw [hb] at CM
 clear h
 cases b with
 | false=>
  have HO:Hid (vacO xs p=(0,noB,7)):=by show _=_;unfold vacO;rw [if_pos hb]
  clear hb
  go_enter Tryz.func86,Tryz.ntmps86
  go_wp2_with fail
  refine CM.out.mono ?_
  rintro e w1 ⟨rfl,hb1⟩
  have B1:=Lib.hid hb1
  clear hb1 CM
  go_wp2
  go_ret3
  rw [HO.out]
  exact ⟨rfl,B1.out⟩
 | true=>
  obtain ⟨hz1,hz2⟩:=mayP_size hb
  by_cases ht:p.data.toList=[47]
  ·have HO:Hid (vacO xs p=(0,noB,8)):=by show _=_;unfold vacO;rw [if_neg (by rw [hb];simp),if_pos ht]
   have q0:(p.toList == [47])=true:=by rw [str_data,ht];rfl
   clear hb ht
   go_enter Tryz.func86,Tryz.ntmps86
   go_wp2_with fail
   refine CM.out.mono ?_
   rintro e w1 ⟨rfl,hb1⟩
   have B1:=Lib.hid hb1
   clear hb1 CM
   go_wp2
   go_ret3
   rw [HO.out]
   exact ⟨rfl,B1.out⟩
  ·have q0:(p.toList == [47])=false:=by rw [str_data];simpa using ht
   have CS:=Lib.hid (fun w=>split_any p w hz1 (by omega))
   have hl2:=last_len p
   have CP:=Lib.hid (fun w h=>path_any A c xs (aboveB p) w hx h)
   obtain ⟨d,e,hd⟩:∃ d e,pathO xs (aboveB p).data.toList=(d,e):=⟨_,_,rfl⟩
   rw [hd] at CP
   have CF:=Lib.hid (fun w h=>find_any A c xs d (lastB p) w hx (by omega) h)
   obtain ⟨m,f,hf⟩:∃ m f,findO xs d (lastB p)=(m,f):=⟨_,_,rfl⟩
   rw [hf] at CF
   have HO:Hid (vacO xs p=if e≠0 then (0,noB,e) else if f=9 then (d,lastB p,0) else if f=0 then (0,noB,8) else (0,noB,f)):=by
    show _=_
    unfold vacO
    rw [if_neg (by rw [hb];simp),if_neg ht,hd]
    dsimp only
    rw [hf]
   generalize aboveB p=pa at *
   generalize lastB p=pl at *
   clear hb ht hd hf hl2
   go_enter Tryz.func86,Tryz.ntmps86
   go_wp2_with fail
   refine CM.out.mono ?_
   rintro e w1 ⟨rfl,hb1⟩
   have B1:=Lib.hid hb1
   clear hb1 CM
   go_wp2_with fail
   refine (CS.out _).mono ?_
   rintro e w2 ⟨rfl,hb2⟩
   have B2:=Lib.hid (B1.out.trans (hb2.mono B1.out.size))
   clear hb2 CS
   go_wp2_with fail
   refine (CP.out _ ((HR.out.below B2.out).mono B2.out.size)).mono ?_
   rintro e' w3 ⟨rfl,hb3⟩
   have B3:=Lib.hid (B2.out.trans (hb3.mono B2.out.size))
   clear hb3 CP
   go_wp2_with fail
   ·rename_i hc
    go_ret3
    rw [HO.out,if_pos (by simpa using hc)]
    exact ⟨rfl,B3.out⟩
   ·have hc:(e != 0)=false:=by assumption
    rw [if_neg (by simpa using hc)] at HO
    refine (CF.out _ ((HR.out.below B3.out).mono B3.out.size)).mono ?_
    rintro e' w4 ⟨rfl,hb4⟩
    have B4:=Lib.hid (B3.out.trans (hb4.mono B3.out.size))
    clear hb4 CF
    by_cases h9:f=9
    ·subst h9
     go_wp2
     go_ret3
     rw [HO.out]
     exact ⟨rfl,B4.out⟩
    ·rw [if_neg h9] at HO
     have h9':(f == 9)=false:=by simpa using h9
     by_cases h0:f=0
     ·subst h0
      go_wp2
      go_ret3
      rw [HO.out]
      exact ⟨rfl,B4.out⟩
     ·rw [if_neg h0] at HO
      have h0':(f == 0)=false:=by simpa using h0
      go_wp2
      go_ret3
      rw [HO.out]
      exact ⟨rfl,B4.out⟩
theorem box1 (w:World) (t1:TypeId) (v1:Value):Below w.heap.size w (w.alloc (.cells #[v1] t1))∧Blk (w.alloc (.cells #[v1] t1)) w.heap.size t1 #[v1]:=⟨(Below.refl _ _).alloc (Nat.le_refl _) _,Blk.new w _ _⟩
theorem box2 (w:World) (t1 t2:TypeId) (v1 v2:Value):Below w.heap.size w ((w.alloc (.cells #[v1] t1)).alloc (.cells #[v2] t2))∧Blk ((w.alloc (.cells #[v1] t1)).alloc (.cells #[v2] t2)) w.heap.size t1 #[v1]∧Blk ((w.alloc (.cells #[v1] t1)).alloc (.cells #[v2] t2)) (w.heap.size+1) t2 #[v2]:=by
 obtain ⟨h1,h2⟩:=box1 w t1 v1
 refine ⟨h1.alloc (by simp) _,h2.alloc _,?_⟩
 have:=Blk.new (w.alloc (.cells #[v1] t1)) t2 #[v2]
 simp only [World.size_alloc] at this
 exact this
theorem box3 (w:World) (t1 t2 t3:TypeId) (v1 v2 v3:Value):∀ W,((w.alloc (.cells #[v1] t1)).alloc (.cells #[v2] t2)).alloc (.cells #[v3] t3)=W→Below w.heap.size w W∧Blk W w.heap.size t1 #[v1]∧Blk W (w.heap.size+1) t2 #[v2]∧Blk W (w.heap.size+1+1) t3 #[v3]:=by
 rintro W rfl
 obtain ⟨h1,h2,h3⟩:=box2 w t1 t2 v1 v2
 refine ⟨h1.alloc (by simp;omega) _,h2.alloc _,h3.alloc _,?_⟩
 have:=Blk.new ((w.alloc (.cells #[v1] t1)).alloc (.cells #[v2] t2)) t3 #[v3]
 simp only [World.size_alloc] at this
 exact this
theorem box4 (w:World) (t1 t2 t3 t4:TypeId) (v1 v2 v3 v4:Value):∀ W,(((w.alloc (.cells #[v1] t1)).alloc (.cells #[v2] t2)).alloc (.cells #[v3] t3)).alloc (.cells #[v4] t4)=W→Below w.heap.size w W∧Blk W w.heap.size t1 #[v1]∧Blk W (w.heap.size+1) t2 #[v2]∧Blk W (w.heap.size+1+1) t3 #[v3]∧Blk W (w.heap.size+1+1+1) t4 #[v4]:=by
 rintro W rfl
 obtain ⟨h1,h2,h3,h4⟩:=box3 w t1 t2 t3 v1 v2 v3 _ rfl
 refine ⟨h1.alloc (by simp;omega) _,h2.alloc _,h3.alloc _,h4.alloc _,?_⟩
 have:=Blk.new (((w.alloc (.cells #[v1] t1)).alloc (.cells #[v2] t2)).alloc (.cells #[v3] t3)) t4 #[v4]
 simp only [World.size_alloc] at this
 exact this
theorem box5 (w:World) (t1 t2 t3 t4 t5:TypeId) (v1 v2 v3 v4 v5:Value):∀ W,((((w.alloc (.cells #[v1] t1)).alloc (.cells #[v2] t2)).alloc (.cells #[v3] t3)).alloc (.cells #[v4] t4)).alloc (.cells #[v5] t5)=W→Below w.heap.size w W∧Blk W w.heap.size t1 #[v1]∧Blk W (w.heap.size+1) t2 #[v2]∧Blk W (w.heap.size+1+1) t3 #[v3]∧Blk W (w.heap.size+1+1+1) t4 #[v4]∧Blk W (w.heap.size+1+1+1+1) t5 #[v5]:=by
 rintro W rfl
 obtain ⟨h1,h2,h3,h4,h5⟩:=box4 w t1 t2 t3 t4 v1 v2 v3 v4 _ rfl
 refine ⟨h1.alloc (by simp;omega) _,h2.alloc _,h3.alloc _,h4.alloc _,h5.alloc _,?_⟩
 have:=Blk.new ((((w.alloc (.cells #[v1] t1)).alloc (.cells #[v2] t2)).alloc (.cells #[v3] t3)).alloc (.cells #[v4] t4)) t5 #[v5]
 simp only [World.size_alloc] at this
 exact this
set_option maxHeartbeats 4000000 in
theorem file_any (A:Option Addr) (c:Nat) (xs:List ByteArray) (n:Int) (w:World) (hx:xs.length≤1000000) (h:RowAt w w.heap.size A (xs.map .string)) :
  Calls Tryz.prog 40 #[.slice A xs.length c,.int .i64 n] w fun e w'=>e=.returned (.int .i64 (fileO xs n))∧Below w.heap.size w w':=by
 have CG:=Lib.hid (get_ino A c xs n w hx h)
 obtain ⟨a0,a1,a2,a3,a4,a5,a6,a7,a8,a9,a10,a11,hg⟩:=len12 (getR_len xs n)
 have HO:Hid (fileO xs n=if inoE xs n≠0 then inoE xs n else if a0≠1 then 11 else 0):=by show _=_;unfold fileO;rw [hg];rfl
 rw [hg] at CG
 unfold inoC at CG
 simp only [List.map_cons,List.map_nil] at CG
 generalize inoE xs n=e at *
 clear hg h
 go_enter Tryz.func40,Tryz.ntmps40
 go_wp2_with fail
 refine CG.out.mono ?_
 rintro e' w1 ⟨rfl,hb1⟩
 have B1:=Lib.hid hb1
 clear hb1 CG
 by_cases he:e=0
 ·subst he
  rw [if_neg (by simp)] at HO
  by_cases h1:a0=1
  ·subst h1
   go_wp2
   go_ret
   rw [HO.out]
   exact ⟨rfl,B1.out.alloc B1.out.size _⟩
  ·rw [if_pos h1] at HO
   have h1':((a0:Int) != 1)=true:=by simpa using (by omega:¬ (a0:Int)=1)
   go_wp2
   go_ret
   rw [HO.out]
   exact ⟨rfl,B1.out.alloc B1.out.size _⟩
 ·rw [if_pos he] at HO
  have he':(e != 0)=true:=by simpa using he
  go_wp2
  go_ret
  rw [HO.out]
  exact ⟨rfl,B1.out.alloc B1.out.size _⟩
set_option maxHeartbeats 4000000 in
theorem write_cl (vb nb ob db:Nat) (A:Option Addr) (c:Nat) (xs:List ByteArray) (n off:Int) (d:ByteArray) (w:World) (hx:xs.length≤1000000) (hoff:-9223372036854775808≤off∧off≤9223372036854775807) (hd:d.size≤140737488355328)
  (h:RowAt w w.heap.size A (xs.map .string)) (h1:w.cell? ⟨vb,0,none⟩=some (.slice A xs.length c)) (h2:w.cell? ⟨nb,0,none⟩=some (.int .i64 n)) (h3:w.cell? ⟨ob,0,none⟩=some (.int .i64 off)) (h4:w.cell? ⟨db,0,none⟩=some (.string d)) :
  Calls Tryz.prog 45 #[.pointer (some ⟨vb,0,none⟩),.pointer (some ⟨nb,0,none⟩),.pointer (some ⟨ob,0,none⟩),.pointer (some ⟨db,0,none⟩)] w (RowCode (writeO xs n off d.data.toList).1 (writeO xs n off d.data.toList).2 w):=by
 have CW:=Lib.hid (write_any A c xs n off d w hx hoff hd h)
 generalize writeO xs n off d.data.toList=r at *
 obtain ⟨rs,e⟩:=r
 unfold RowCode at CW
 dsimp only at CW
 clear h
 go_enter Tryz.func45,Tryz.ntmps45
 go_wp2_with fail
 refine CW.out.mono ?_
 rintro e' w1 ⟨⟨v,rfl,hown⟩,hb1⟩
 have ON:=Lib.hid hown
 have B1:=Lib.hid hb1
 clear hown hb1 CW
 go_wp2
 go_ret2
 exact ⟨⟨_,rfl,ON.out⟩,B1.out⟩
set_option maxHeartbeats 4000000 in
theorem cut_cl (vb nb ob:Nat) (A:Option Addr) (c:Nat) (xs:List ByteArray) (n size:Int) (w:World) (hx:xs.length≤1000000)
  (h:RowAt w w.heap.size A (xs.map .string)) (h1:w.cell? ⟨vb,0,none⟩=some (.slice A xs.length c)) (h2:w.cell? ⟨nb,0,none⟩=some (.int .i64 n)) (h3:w.cell? ⟨ob,0,none⟩=some (.int .i64 size)) :
  Calls Tryz.prog 90 #[.pointer (some ⟨vb,0,none⟩),.pointer (some ⟨nb,0,none⟩),.pointer (some ⟨ob,0,none⟩)] w (RowCode (cutO xs n size).1 (cutO xs n size).2 w):=by
 have CW:=Lib.hid (cut_any A c xs n size w hx h)
 generalize cutO xs n size=r at *
 obtain ⟨rs,e⟩:=r
 unfold RowCode at CW
 dsimp only at CW
 clear h
 go_enter Tryz.func90,Tryz.ntmps90
 go_wp2_with fail
 refine CW.out.mono ?_
 rintro e' w1 ⟨⟨v,rfl,hown⟩,hb1⟩
 have ON:=Lib.hid hown
 have B1:=Lib.hid hb1
 clear hown hb1 CW
 go_wp2
 go_ret2
 exact ⟨⟨_,rfl,ON.out⟩,B1.out⟩
set_option maxHeartbeats 4000000 in
theorem writeF_any (A:Option Addr) (c:Nat) (xs:List ByteArray) (n off:Int) (d:ByteArray) (w:World) (hx:xs.length≤1000000) (hoff:-9223372036854775808≤off∧off≤9223372036854775807) (hd:d.size≤140737488355328)
  (h:RowAt w w.heap.size A (xs.map .string)) :
  Calls Tryz.prog 13 #[.slice A xs.length c,.int .i64 n,.int .i64 off,.string d] w (RowCode (writeF xs n off d.data.toList).1 (writeF xs n off d.data.toList).2 w):=by
 have HR:=Lib.hid h
 have HO:Hid (writeF xs n off d.data.toList=if fileO xs n≠0 then ([],fileO xs n) else weighO xs (writeO xs n off d.data.toList)):=by show _=_;rfl
 have CF:=Lib.hid (fun w h=>file_any A c xs n w hx h)
 have CW:=Lib.hid (fun vb nb ob db w h=>write_cl vb nb ob db A c xs n off d w hx hoff hd h)
 have HL:=Lib.hid (writeO_le hx n off d.data.toList)
 obtain ⟨W1,hW1⟩:∃ W1,(((w.alloc (Obj.cells #[.slice A xs.length c] 24)).alloc (Obj.cells #[.int .i64 n] 3)).alloc (.cells #[.int .i64 off] 3)).alloc (.cells #[.string d] 9)=W1:=⟨_,rfl⟩
 obtain ⟨b1,v1,n1,o1,d1⟩:=box4 _ _ _ _ _ _ _ _ _ _ hW1
 have B1:=Lib.hid b1
 have V1:=Lib.hid v1
 have N1:=Lib.hid n1
 have O1:=Lib.hid o1
 have D1:=Lib.hid d1
 have HW1:=Lib.hid hW1
 generalize fileO xs n=e at *
 generalize writeO xs n off d.data.toList=r at *
 generalize writeF xs n off d.data.toList=z at *
 have c1:=v1.cell 0 rfl
 have c2:=n1.cell 0 rfl
 clear h hW1 b1 v1 n1 o1 d1
 go_enter Tryz.func13,Tryz.ntmps13
 go_wp2_with fail
 rw [HW1.out]
 refine (CF.out _ ((HR.out.below B1.out).mono B1.out.size)).mono ?_
 rintro e' w2 ⟨rfl,hb2⟩
 have B2:=Lib.hid (B1.out.trans (hb2.mono B1.out.size))
 have V2:=Lib.hid (V1.out.below hb2 V1.out.lt)
 have N2:=Lib.hid (N1.out.below hb2 N1.out.lt)
 have O2:=Lib.hid (O1.out.below hb2 O1.out.lt)
 have D2:=Lib.hid (D1.out.below hb2 D1.out.lt)
 clear hb2 CF c1 c2 HW1
 have c1:=V2.out.cell 0 rfl
 go_wp2_with fail
 ·rename_i hc
  go_ret2
  rw [HO.out,if_pos (by simpa using hc)]
  exact ⟨⟨_,rfl,own_nil _ _⟩,B2.out⟩
 ·have hc:(e != 0)=false:=by assumption
  rw [if_neg (by simpa using hc)] at HO
  have R2:=Lib.hid ((HR.out.below B2.out).mono B2.out.size)
  refine (weighed_any A c xs 45 _ r w2.heap.size (fun _=>True) w2 hx HL.out (enters_of Tryz.func45 (by kernel_rfl) rfl) (Nat.le_refl _) R2.out (fun _ _ _ _=>trivial)
   ((CW.out _ _ _ _ w2 R2.out (V2.out.cell 0 rfl) (N2.out.cell 0 rfl) (O2.out.cell 0 rfl) (D2.out.cell 0 rfl)).mono fun _ _ h=>Weigh.of_row h)).mono ?_
  rw [← HO.out]
  rintro e' w3 ⟨⟨v,rfl,hown⟩,hb3,_⟩
  have ON:=Lib.hid (OwnRow.base hown B2.out.size)
  have B3:=Lib.hid (B2.out.trans (hb3.mono B2.out.size))
  clear hown hb3
  go_wp2
  go_ret2
  exact ⟨⟨_,rfl,ON.out⟩,B3.out⟩
set_option maxHeartbeats 4000000 in
theorem cutF_any (A:Option Addr) (c:Nat) (xs:List ByteArray) (n size:Int) (w:World) (hx:xs.length≤1000000) (h:RowAt w w.heap.size A (xs.map .string)) :
  Calls Tryz.prog 35 #[.slice A xs.length c,.int .i64 n,.int .i64 size] w (RowCode (cutF xs n size).1 (cutF xs n size).2 w):=by
 have HR:=Lib.hid h
 have HO:Hid (cutF xs n size=if fileO xs n≠0 then ([],fileO xs n) else weighO xs (cutO xs n size)):=by show _=_;rfl
 have CF:=Lib.hid (fun w h=>file_any A c xs n w hx h)
 have CW:=Lib.hid (fun vb nb ob w h=>cut_cl vb nb ob A c xs n size w hx h)
 have HL:=Lib.hid (cutO_le hx n size)
 obtain ⟨W1,hW1⟩:∃ W1,((w.alloc (Obj.cells #[.slice A xs.length c] 24)).alloc (Obj.cells #[.int .i64 n] 3)).alloc (.cells #[.int .i64 size] 3)=W1:=⟨_,rfl⟩
 obtain ⟨b1,v1,n1,o1⟩:=box3 _ _ _ _ _ _ _ _ hW1
 have B1:=Lib.hid b1
 have V1:=Lib.hid v1
 have N1:=Lib.hid n1
 have O1:=Lib.hid o1
 have HW1:=Lib.hid hW1
 generalize fileO xs n=e at *
 generalize cutO xs n size=r at *
 generalize cutF xs n size=z at *
 have c1:=v1.cell 0 rfl
 have c2:=n1.cell 0 rfl
 clear h hW1 b1 v1 n1 o1
 go_enter Tryz.func35,Tryz.ntmps35
 go_wp2_with fail
 rw [HW1.out]
 refine (CF.out _ ((HR.out.below B1.out).mono B1.out.size)).mono ?_
 rintro e' w2 ⟨rfl,hb2⟩
 have B2:=Lib.hid (B1.out.trans (hb2.mono B1.out.size))
 have V2:=Lib.hid (V1.out.below hb2 V1.out.lt)
 have N2:=Lib.hid (N1.out.below hb2 N1.out.lt)
 have O2:=Lib.hid (O1.out.below hb2 O1.out.lt)
 clear hb2 CF c1 c2 HW1
 have c1:=V2.out.cell 0 rfl
 go_wp2_with fail
 ·rename_i hc
  go_ret2
  rw [HO.out,if_pos (by simpa using hc)]
  exact ⟨⟨_,rfl,own_nil _ _⟩,B2.out⟩
 ·have hc:(e != 0)=false:=by assumption
  rw [if_neg (by simpa using hc)] at HO
  have R2:=Lib.hid ((HR.out.below B2.out).mono B2.out.size)
  refine (weighed_any A c xs 90 _ r w2.heap.size (fun _=>True) w2 hx HL.out (enters_of Tryz.func90 (by kernel_rfl) rfl) (Nat.le_refl _) R2.out (fun _ _ _ _=>trivial)
   ((CW.out _ _ _ w2 R2.out (V2.out.cell 0 rfl) (N2.out.cell 0 rfl) (O2.out.cell 0 rfl)).mono fun _ _ h=>Weigh.of_row h)).mono ?_
  rw [← HO.out]
  rintro e' w3 ⟨⟨v,rfl,hown⟩,hb3,_⟩
  have ON:=Lib.hid (OwnRow.base hown B2.out.size)
  have B3:=Lib.hid (B2.out.trans (hb3.mono B2.out.size))
  clear hown hb3
  go_wp2
  go_ret2
  exact ⟨⟨_,rfl,ON.out⟩,B3.out⟩
theorem OwnEnts.form {l:List EntV} {w w':World} {v:Value} (h:OwnEnts l w v w'):v=.slice none 0 0∧l=[]∨∃ g c,v=.slice (some ⟨g,0,none⟩) l.length c∧l.length≤c∧c≤maxLen∧w.heap.size≤g∧g<w'.heap.size∧∀ j u,(entC l)[j]?=some u→w'.cell? ⟨g,j,none⟩=some u:=by
 have h2:=h
 obtain ⟨h1,h3⟩:=h2
 rcases h3 with ⟨hv,hn⟩ | ⟨g,cap,cur,hv,hg,hh,hnc,hm,hsz,ht⟩
 ·exact .inl ⟨hv,List.eq_nil_of_length_eq_zero hn⟩
 ·subst hv
  refine .inr ⟨g,cap,rfl,hnc,hm,hg,?_,fun j u hu=>?_⟩
  ·rcases Nat.lt_or_ge g w'.heap.size with hlt | hge
   ·exact hlt
   ·rw [Array.getElem?_eq_none hge] at hh;cases hh
  ·have:cur[j]?=some u:=by
    rw [← ht,List.getElem?_take] at hu
    split at hu
    ·simpa using hu
    ·cases hu
   simp [World.cell?,hh,this]
theorem one_ent (w:World) (nm:ByteArray) (ino:Int):∀ j u,[Value.string nm,Value.int .i64 ino][j]?=some u→(w.alloc (.cells #[.string nm,.int .i64 ino] 168)).cell? ((⟨w.heap.size,0,none⟩:Addr).add j)=some u:=fun j u hu=>by
 have hB:=Blk.new w 168 #[.string nm,.int .i64 ino]
 rw [add_zero_addr,Nat.zero_add]
 exact hB.cell j (by simpa using hu)
theorem row_drop {w w':World} {g k:Nat} {l:List EntV} (hb:Below w.heap.size w w') (hg:g<w.heap.size) (h:∀ j u,(entC l)[j]?=some u→w.cell? ⟨g,j,none⟩=some u) {j:Nat} {u:Value} (hu:(entC (l.drop k))[j]?=some u) :
  w'.cell? ((⟨g,k * 2,none⟩:Addr).add j)=some u:=by
 rw [Addr.add_mid]
 refine (hb.cell (p:=⟨g,k * 2+j,none⟩) hg).trans (h _ _ ?_)
 rw [← entC_drop,List.getElem?_drop] at hu
 exact hu
theorem row_past {w:World} {g k:Nat} {l:List EntV} (h:l.length≤k) {j:Nat} {u:Value} (hu:(entC (l.drop k))[j]?=some u):w.cell? ((⟨g,0,none⟩:Addr).add j)=some u:=by
 rw [List.drop_eq_nil_of_le h] at hu
 simp [entC] at hu
theorem add_row {w:World} {base k:Nat} {v:Value} {l L2:List EntV} {nm:ByteArray} {ino:Int} (h:w.ownsRow base 168 2 v (0+k+1+(l.length-k)) ([]++entC (l.take k)++[.string nm,.int .i64 ino]++entC (l.drop k))) (hk:k≤l.length)
  (he:entC (l.take k)++[Value.string nm,Value.int .i64 ino]++entC (l.drop k)=entC L2):w.ownsRow base 168 2 v (l.length+1) (entC L2):=by
 rw [List.nil_append,he,show 0+k+1+(l.length-k)=l.length+1 by omega] at h
 exact h
set_option maxHeartbeats 8000000 in
theorem add_main (A:Option Addr) (c:Nat) (xs:List ByteArray) (n:Int) (nm:ByteArray) (ino:Int) (w:World) (hx:xs.length≤1000000) (hs:nm.size≤140737488355328) (h:RowAt w w.heap.size A (xs.map .string))
  (hm:mayB nm.data.toList=true) (hi1:1≤ino) (hi2:ino≤64) (h0:(listO xs n).2=0) (hh:hasE (listO xs n).1 nm=false) :
  Calls Tryz.prog 87 #[.slice A xs.length c,.int .i64 n,.string nm,.int .i64 ino] w (RowCode (addO xs n nm ino).1 (addO xs n nm ino).2 w):=by
 have CM:=Lib.hid (may_any nm w hs)
 have CL:=Lib.hid (fun w h=>list_any A c xs n w hx h)
 have HR:=Lib.hid h
 have HV:=Lib.hid (listO_valid (xs:=xs) (n:=n))
 have HN:=Lib.hid (listO_len (xs:=xs) (n:=n))
 have ha:addO xs n nm ino=writeO xs n 0 (bytesE (insE (listO xs n).1 ⟨nm,ino⟩)):=by
  unfold addO
  rw [if_neg (by rw [hm];simp),if_neg (by omega),if_neg (by rw [h0];simp),if_neg (by rw [hh];simp)]
 rw [ha]
 clear ha
 rw [hm] at CM
 generalize listO xs n=lo at *
 obtain ⟨l,le⟩:=lo
 dsimp only at HV HN h0 hh ⊢
 subst h0
 have CS:=Lib.hid (fun A c w h=>search_any A c l nm w HN.out HV.out.rise h)
 rw [hh] at CS
 have HVI:=Lib.hid (insE_valid (x:=⟨nm,ino⟩) HV.out (by unfold okE;dsimp only;rw [hm,Bool.true_and,decide_eq_true_iff];exact ⟨hi1,hi2⟩) hh)
 have hlen:=insE_len l ⟨nm,ino⟩
 have hb:=bytesE_len HVI.out.ok
 rw [hlen] at hb
 have CB:=Lib.hid (fun A c w h=>bytes_any A c (insE l ⟨nm,ino⟩) w (by rw [hlen];have:=HN.out;omega) (fun x hx=>by have:=okE_ok (HVI.out.ok x hx);omega) h)
 have CW:=Lib.hid (fun w h=>write_any A c xs n 0 ⟨(bytesE (insE l ⟨nm,ino⟩)).toArray⟩ w hx (by omega) (by show (bytesE (insE l ⟨nm,ino⟩)).toArray.size≤_;rw [List.size_toArray,hb];have:=HN.out;omega) h)
 rw [hlen] at CB
 dsimp only at CW
 unfold RowCode at CW
 have hat:=atE_le l nm
 have HIE:Hid (entC (l.take (atE l nm))++[Value.string nm,Value.int .i64 ino]++entC (l.drop (atE l nm))=entC (insE l ⟨nm,ino⟩)):=by
  show _=_
  unfold insE
  rw [entC_app,List.append_assoc]
  rfl
 generalize writeO xs n 0 (bytesE (insE l ⟨nm,ino⟩))=wo at *
 generalize insE l ⟨nm,ino⟩=L2 at *
 generalize (⟨(bytesE L2).toArray⟩:ByteArray)=bt at *
 generalize atE l nm=k at *
 obtain ⟨ys,ye⟩:=wo
 dsimp only at CW ⊢
 unfold ListPost at CL
 dsimp only at CL
 obtain ⟨i0,q1,q2,q3,q4⟩:=info_parts ent_info
 have I0:=Lib.hid (And.intro q1 (And.intro q2 (And.intro q3 q4)))
 have HL2:=Lib.hid hlen
 have o1:¬ ino<1:=by omega
 have o2:¬ (64:Int)<ino:=by omega
 have o3:decide (ino<1)=false:=decide_eq_false o1
 clear q1 q2 q3 q4 h hm hh hlen hb HVI
 go_enter Tryz.func87,Tryz.ntmps87
 go_wp2_with fail
 refine CM.out.mono ?_
 rintro e w1 ⟨rfl,hb1⟩
 have B1:=Lib.hid hb1
 clear hb1 CM
 go_wp2_with fail
 refine (CL.out _ ((HR.out.below B1.out).mono B1.out.size)).mono ?_
 rintro e w2 ⟨⟨v,rfl,hv⟩,hb2⟩
 have B2:=Lib.hid (B1.out.trans (hb2.mono B1.out.size))
 obtain ⟨A2,c2,hA2,hr2⟩:=OwnEnts.read2 hv
 have HF:=Lib.hid (hA2▸hv.form)
 have R2:=Lib.hid hr2
 subst hA2
 clear hb2 hv hr2 CL
 go_wp2_with fail
 refine (CS.out _ _ _ R2.out).mono ?_
 rintro e w3 ⟨rfl,hb3⟩
 have B3:=Lib.hid (B2.out.trans (hb3.mono B2.out.size))
 have R3:=Lib.hid ((R2.out.below hb3).mono hb3.size)
 have G0:=Lib.hid (Below.refl w3.heap.size w3)
 have H17:Hid (∀ u ∈ [Value.string nm,Value.int .i64 ino],u.oneCell'=true):=fun u hu=>by
  rcases List.mem_cons.1 hu with rfl | hu
  ·rfl
  ·rcases List.mem_cons.1 hu with rfl | hu
   ·rfl
   ·cases hu
 have HN280:=HN.out
 rcases HF.out with ⟨hv,hl⟩ | ⟨g,cc,hv,hc1,hc2,hg1,hg2,hcells⟩
 ·injection hv with e1 e2 e3
  subst e1
  subst e3
  subst hl
  obtain rfl:k=0:=by simpa using hat
  have HL1:Hid (L2.length=1):=HL2.out
  have CB1:Hid (∀ A c w,EntsAt w w.heap.size A L2→Calls Tryz.prog 125 #[.slice A 1 c] w fun e w'=>e=.returned (.string bt)∧Below w.heap.size w w'):=CB.out
  have HIE1:Hid ([]++[Value.string nm,Value.int .i64 ino]=entC L2):=by
   show _=_
   have:=HIE.out
   simpa [entC] using this
  have G5:=Lib.hid (G0.out.alloc G0.out.size (.cells #[.string nm,.int .i64 ino] 168))
  have HC5:=Lib.hid (one_ent w3 nm ino)
  clear hb3 CS R2 HF e2 CB HIE HL2
  go_wp2_with (first
   | (at_builtin;refine wpList_append_own_none rfl (.const (.slice none 0 0)) (.tmp 42) 123 rfl w3.heap.size 168 i0 2 Tryz.underlying123 I0.out.1 _ 0 [] rfl (World.ownsRow_nil _ _ _ _) rfl ?_)
   | (at_builtin;refine wpList_append_own _ rfl (.tmp 44) (.tmp 48) 123 rfl w3.heap.size 168 i0 (.agg #[.string ⟨#[]⟩,.int .i64 0]) 2 24 Tryz.underlying123 I0.out.1 I0.out.2.1 I0.out.2.2.1 I0.out.2.2.2 rfl (by decide) _ 0 [] rfl (World.ownsRow_nil _ _ _ _) ⟨w3.heap.size,0,none⟩ 1 1 [.string nm,.int .i64 ino] rfl rfl HC5.out H17.out (by unfold maxLen;omega) (by omega) G5.out.size ?_;intro v6 w6 own hg hv6;have G8:=Lib.hid (G5.out.grown hg G5.out.size (fun j e=>by cases e));have O9:Hid (w6.ownsRow w3.heap.size 168 2 v6 1 (entC L2)):=HIE1.out▸own;clear own hg hv6 HC5 G5)
   | (at_builtin;refine wpList_append_own_none rfl (.tmp 52) (.tmp 55) 123 rfl w3.heap.size 168 i0 2 Tryz.underlying123 I0.out.1 _ 1 (entC L2) rfl O9.out rfl ?_;obtain ⟨A8,c8,hv8,hr8⟩:=own_ents O9.out HL1.out;subst hv8;have R8:=Lib.hid hr8;clear hr8)
   | (go_at_call 125;refine (CB1.out _ _ _ R8.out).mono ?_;rintro e w9 ⟨rfl,hb9⟩;have B9:=Lib.hid (B3.out.trans ((G8.out.trans (hb9.mono G8.out.size)).mono B3.out.size));clear hb9)
   | (go_at_call 46;refine (CW.out _ ((HR.out.below B9.out).mono B9.out.size)).mono ?_;rintro e w10 ⟨⟨v,rfl,hv⟩,hb10⟩;have O10:=Lib.hid (own_low hv B9.out.size);have B10:=Lib.hid (B9.out.trans (hb10.mono B9.out.size));clear hv hb10))
  go_ret2
  exact ⟨⟨_,rfl,O10.out⟩,B10.out⟩
 ·injection hv with e1 e2 e3
  subst e1
  subst e3
  have HC3:Hid (∀ j u,(entC l)[j]?=some u→w3.cell? ⟨g,j,none⟩=some u):=fun j u hu=>(hb3.cell (p:=⟨g,j,none⟩) hg2).trans (hcells j u hu)
  have HG3:Hid (g<w3.heap.size):=Nat.lt_of_lt_of_le hg2 hb3.size
  have k1:(k:Int)≤(c2:Int):=by omega
  have k2:(0:Int)≤(k:Int):=by omega
  have k3:(k:Int)≤(l.length:Int):=by omega
  have hT:∀ j u,(entC (l.take k))[j]?=some u→w3.cell? ((⟨g,0,none⟩:Addr).add j)=some u:=fun j u hu=>by
   rw [add_zero_addr,Nat.zero_add]
   refine HC3.out j u ?_
   rw [← entC_take,List.getElem?_take] at hu
   split at hu
   ·exact hu
   ·cases hu
  have HT:=Lib.hid hT
  clear hb3 CS R2 HF hcells e2 hT
  by_cases hkc:k=c2
  ·subst hkc
   have HC1:=Lib.hid hc1
   clear hc1
   go_wp2_with (first
    | (at_builtin;refine wpList_append_own _ rfl (.const (.slice none 0 0)) (.tmp 42) 123 rfl w3.heap.size 168 i0 (.agg #[.string ⟨#[]⟩,.int .i64 0]) 2 24 Tryz.underlying123 I0.out.1 I0.out.2.1 I0.out.2.2.1 I0.out.2.2.2 rfl (by decide) _ 0 [] rfl (World.ownsRow_nil _ _ _ _) ⟨g,0,none⟩ k k (entC (l.take k)) rfl (by rw [entC_len,List.length_take];omega) HT.out (entC_one _) (by unfold maxLen;omega) (by omega) (Nat.le_refl _) ?_;intro v4 w4 own hg hv4;have O4:Hid (w4.ownsRow w3.heap.size 168 2 v4 (0+k) ([]++entC (l.take k))):=own;have G4:=Lib.hid (G0.out.grown hg (Nat.le_refl _) (fun j e=>by cases e));have O5:=Lib.hid (World.ownsRow.alloc O4.out (.cells #[.string nm,.int .i64 ino] 168));have G5:=Lib.hid (G4.out.alloc G4.out.size (.cells #[.string nm,.int .i64 ino] 168));have HC5:=Lib.hid (one_ent w4 nm ino);clear own hg hv4 HT O4 G4)
    | (at_builtin;refine wpList_append_own _ rfl (.tmp 44) (.tmp 48) 123 rfl w3.heap.size 168 i0 (.agg #[.string ⟨#[]⟩,.int .i64 0]) 2 24 Tryz.underlying123 I0.out.1 I0.out.2.1 I0.out.2.2.1 I0.out.2.2.2 rfl (by decide) _ (0+k) ([]++entC (l.take k)) rfl O5.out ⟨w4.heap.size,0,none⟩ 1 1 [.string nm,.int .i64 ino] rfl rfl HC5.out H17.out (by unfold maxLen;omega) (by omega) G5.out.size ?_;intro v6 w6 own hg hv6;have O6:Hid (w6.ownsRow w3.heap.size 168 2 v6 (0+k+1) ([]++entC (l.take k)++[Value.string nm,Value.int .i64 ino])):=own;have G6:=Lib.hid (G5.out.grown hg G5.out.size (fun j e=>(O5.out.lt j e).1));have HC6:=Lib.hid (fun j u hu=>row_past (w:=w6) (g:=g) HC1.out (j:=j) (u:=u) hu);clear own hg hv6 O5 G5 HC5)
    | (at_builtin;refine wpList_append_own _ rfl (.tmp 52) (.tmp 55) 123 rfl w3.heap.size 168 i0 (.agg #[.string ⟨#[]⟩,.int .i64 0]) 2 24 Tryz.underlying123 I0.out.1 I0.out.2.1 I0.out.2.2.1 I0.out.2.2.2 rfl (by decide) _ (0+k+1) ([]++entC (l.take k)++[Value.string nm,Value.int .i64 ino]) rfl O6.out ⟨g,0,none⟩ (l.length-k) 0 (entC (l.drop k)) rfl (by rw [entC_len,List.length_drop]) HC6.out (entC_one _) (by unfold maxLen;omega) (by omega) G6.out.size ?_;intro v8 w8 own hg hv8;have O8:Hid (w8.ownsRow w3.heap.size 168 2 v8 (0+k+1+(l.length-k)) ([]++entC (l.take k)++[.string nm,.int .i64 ino]++entC (l.drop k))):=own;have G8:=Lib.hid (G6.out.grown hg G6.out.size (fun j e=>(O6.out.lt j e).1));have O9:Hid (w8.ownsRow w3.heap.size 168 2 v8 (l.length+1) (entC L2)):=add_row O8.out hat HIE.out;obtain ⟨A8,c8,hv8,hr8⟩:=own_ents O9.out HL2.out;subst hv8;have R8:=Lib.hid hr8;clear own hg O6 G6 HC6 O8 hr8)
    | (go_at_call 125;refine (CB.out _ _ _ R8.out).mono ?_;rintro e w9 ⟨rfl,hb9⟩;have B9:=Lib.hid (B3.out.trans ((G8.out.trans (hb9.mono G8.out.size)).mono B3.out.size));clear hb9)
    | (go_at_call 46;refine (CW.out _ ((HR.out.below B9.out).mono B9.out.size)).mono ?_;rintro e w10 ⟨⟨v,rfl,hv⟩,hb10⟩;have O10:=Lib.hid (own_low hv B9.out.size);have B10:=Lib.hid (B9.out.trans (hb10.mono B9.out.size));clear hv hb10))
   go_ret2
   exact ⟨⟨_,rfl,O10.out⟩,B10.out⟩
  ·have k4:¬ c2=k:=fun e=>hkc e.symm
   have k5:(k:Int)<(c2:Int):=by omega
   go_wp2_with (first
    | (at_builtin;refine wpList_append_own _ rfl (.const (.slice none 0 0)) (.tmp 42) 123 rfl w3.heap.size 168 i0 (.agg #[.string ⟨#[]⟩,.int .i64 0]) 2 24 Tryz.underlying123 I0.out.1 I0.out.2.1 I0.out.2.2.1 I0.out.2.2.2 rfl (by decide) _ 0 [] rfl (World.ownsRow_nil _ _ _ _) ⟨g,0,none⟩ k c2 (entC (l.take k)) rfl (by rw [entC_len,List.length_take];omega) HT.out (entC_one _) (by unfold maxLen;omega) (by omega) (Nat.le_refl _) ?_;intro v4 w4 own hg hv4;have O4:Hid (w4.ownsRow w3.heap.size 168 2 v4 (0+k) ([]++entC (l.take k))):=own;have G4:=Lib.hid (G0.out.grown hg (Nat.le_refl _) (fun j e=>by cases e));have O5:=Lib.hid (World.ownsRow.alloc O4.out (.cells #[.string nm,.int .i64 ino] 168));have G5:=Lib.hid (G4.out.alloc G4.out.size (.cells #[.string nm,.int .i64 ino] 168));have HC5:=Lib.hid (one_ent w4 nm ino);clear own hg hv4 HT O4 G4)
    | (at_builtin;refine wpList_append_own _ rfl (.tmp 44) (.tmp 48) 123 rfl w3.heap.size 168 i0 (.agg #[.string ⟨#[]⟩,.int .i64 0]) 2 24 Tryz.underlying123 I0.out.1 I0.out.2.1 I0.out.2.2.1 I0.out.2.2.2 rfl (by decide) _ (0+k) ([]++entC (l.take k)) rfl O5.out ⟨w4.heap.size,0,none⟩ 1 1 [.string nm,.int .i64 ino] rfl rfl HC5.out H17.out (by unfold maxLen;omega) (by omega) G5.out.size ?_;intro v6 w6 own hg hv6;have O6:Hid (w6.ownsRow w3.heap.size 168 2 v6 (0+k+1) ([]++entC (l.take k)++[Value.string nm,Value.int .i64 ino])):=own;have G6:=Lib.hid (G5.out.grown hg G5.out.size (fun j e=>(O5.out.lt j e).1));have HC6:=Lib.hid (fun j u hu=>row_drop (G6.out) HG3.out HC3.out (k:=k) (j:=j) (u:=u) hu);clear own hg hv6 O5 G5 HC5)
    | (at_builtin;refine wpList_append_own _ rfl (.tmp 52) (.tmp 55) 123 rfl w3.heap.size 168 i0 (.agg #[.string ⟨#[]⟩,.int .i64 0]) 2 24 Tryz.underlying123 I0.out.1 I0.out.2.1 I0.out.2.2.1 I0.out.2.2.2 rfl (by decide) _ (0+k+1) ([]++entC (l.take k)++[Value.string nm,Value.int .i64 ino]) rfl O6.out ⟨g,k * 2,none⟩ (l.length-k) (c2-k) (entC (l.drop k)) rfl (by rw [entC_len,List.length_drop]) HC6.out (entC_one _) (by unfold maxLen;omega) (by omega) G6.out.size ?_;intro v8 w8 own hg hv8;have O8:Hid (w8.ownsRow w3.heap.size 168 2 v8 (0+k+1+(l.length-k)) ([]++entC (l.take k)++[.string nm,.int .i64 ino]++entC (l.drop k))):=own;have G8:=Lib.hid (G6.out.grown hg G6.out.size (fun j e=>(O6.out.lt j e).1));have O9:Hid (w8.ownsRow w3.heap.size 168 2 v8 (l.length+1) (entC L2)):=add_row O8.out hat HIE.out;obtain ⟨A8,c8,hv8,hr8⟩:=own_ents O9.out HL2.out;subst hv8;have R8:=Lib.hid hr8;clear own hg O6 G6 HC6 O8 hr8)
    | (go_at_call 125;refine (CB.out _ _ _ R8.out).mono ?_;rintro e w9 ⟨rfl,hb9⟩;have B9:=Lib.hid (B3.out.trans ((G8.out.trans (hb9.mono G8.out.size)).mono B3.out.size));clear hb9)
    | (go_at_call 46;refine (CW.out _ ((HR.out.below B9.out).mono B9.out.size)).mono ?_;rintro e w10 ⟨⟨v,rfl,hv⟩,hb10⟩;have O10:=Lib.hid (own_low hv B9.out.size);have B10:=Lib.hid (B9.out.trans (hb10.mono B9.out.size));clear hv hb10))
   go_ret2
   exact ⟨⟨_,rfl,O10.out⟩,B10.out⟩
theorem RowCode.none {w w':World} {c:Int} (h:Below w.heap.size w w'):RowCode [] c w (.returned (.tuple #[.slice none 0 0,.int .i64 c])) w':=⟨⟨_,rfl,own_nil _ _⟩,h⟩
set_option maxHeartbeats 4000000 in
theorem add_any (A:Option Addr) (c:Nat) (xs:List ByteArray) (n:Int) (nm:ByteArray) (ino:Int) (w:World) (hx:xs.length≤1000000) (hs:nm.size≤140737488355328) (h:RowAt w w.heap.size A (xs.map .string)) :
  Calls Tryz.prog 87 #[.slice A xs.length c,.int .i64 n,.string nm,.int .i64 ino] w (RowCode (addO xs n nm ino).1 (addO xs n nm ino).2 w):=by
 have CM:=Lib.hid (may_any nm w hs)
 cases hm:mayB nm.data.toList with
 | false=>
  have HO:Hid (addO xs n nm ino=([],7)):=by show _=_;unfold addO;rw [if_pos hm]
  rw [hm] at CM
  clear hm h
  go_enter Tryz.func87,Tryz.ntmps87
  go_wp2_with fail
  refine CM.out.mono ?_
  rintro e w1 ⟨rfl,hb1⟩
  have B1:=Lib.hid hb1
  go_wp2
  go_ret2
  rw [HO.out]
  exact RowCode.none B1.out
 | true=>
  by_cases hr:ino<1∨64<ino
  ·have HO:Hid (addO xs n nm ino=([],2)):=by show _=_;unfold addO;rw [if_neg (by rw [hm];simp),if_pos hr]
   rw [hm] at CM
   clear hm h
   by_cases h1:ino<1
   ·have o3:decide (ino<1)=true:=decide_eq_true h1
    clear hr
    go_enter Tryz.func87,Tryz.ntmps87
    go_wp2_with fail
    refine CM.out.mono ?_
    rintro e w1 ⟨rfl,hb1⟩
    have B1:=Lib.hid hb1
    go_wp2
    go_ret2
    rw [HO.out]
    exact RowCode.none B1.out
   ·have o3:decide (ino<1)=false:=decide_eq_false h1
    have o2:(64:Int)<ino:=by omega
    have o4:decide ((64:Int)<ino)=true:=decide_eq_true o2
    clear hr
    go_enter Tryz.func87,Tryz.ntmps87
    go_wp2_with fail
    refine CM.out.mono ?_
    rintro e w1 ⟨rfl,hb1⟩
    have B1:=Lib.hid hb1
    go_wp2
    go_ret2
    rw [HO.out]
    exact RowCode.none B1.out
  ·by_cases h0:(listO xs n).2=0
   ·cases hh:hasE (listO xs n).1 nm with
    | false=>exact add_main A c xs n nm ino w hx hs h hm (by omega) (by omega) h0 hh
    | true=>
     have HO:Hid (addO xs n nm ino=([],8)):=by show _=_;unfold addO;rw [if_neg (by rw [hm];simp),if_neg hr,if_neg (by rw [h0];simp),if_pos hh]
     rw [hm] at CM
     have CL:=Lib.hid (fun w h=>list_any A c xs n w hx h)
     have HV:=Lib.hid (listO_valid (xs:=xs) (n:=n))
     have HN:=Lib.hid (listO_len (xs:=xs) (n:=n))
     have HR:=Lib.hid h
     generalize listO xs n=lo at *
     obtain ⟨l,le⟩:=lo
     dsimp only at HV HN h0 hh
     subst h0
     have CS:=Lib.hid (fun A c w h=>search_any A c l nm w HN.out HV.out.rise h)
     rw [hh] at CS
     unfold ListPost at CL
     dsimp only at CL
     have o1:¬ ino<1:=by omega
     have o2:¬ (64:Int)<ino:=by omega
     have o3:decide (ino<1)=false:=decide_eq_false o1
     clear hm h hr hh
     go_enter Tryz.func87,Tryz.ntmps87
     go_wp2_with fail
     refine CM.out.mono ?_
     rintro e w1 ⟨rfl,hb1⟩
     have B1:=Lib.hid hb1
     clear hb1 CM
     go_wp2_with fail
     refine (CL.out _ ((HR.out.below B1.out).mono B1.out.size)).mono ?_
     rintro e w2 ⟨⟨v,rfl,hv⟩,hb2⟩
     have B2:=Lib.hid (B1.out.trans (hb2.mono B1.out.size))
     obtain ⟨A2,c2,rfl,hr2⟩:=OwnEnts.read2 hv
     have R2:=Lib.hid hr2
     clear hb2 hv hr2 CL
     go_wp2_with fail
     refine (CS.out _ _ _ R2.out).mono ?_
     rintro e w3 ⟨rfl,hb3⟩
     have B3:=Lib.hid (B2.out.trans (hb3.mono B2.out.size))
     clear hb3 CS
     go_wp2
     go_ret2
     rw [HO.out]
     exact RowCode.none B3.out
   ·have HO:Hid (addO xs n nm ino=([],(listO xs n).2)):=by show _=_;unfold addO;rw [if_neg (by rw [hm];simp),if_neg hr,if_pos h0]
    rw [hm] at CM
    have CL:=Lib.hid (fun w h=>list_any A c xs n w hx h)
    have HR:=Lib.hid h
    generalize listO xs n=lo at *
    obtain ⟨l,le⟩:=lo
    dsimp only at h0 HO
    unfold ListPost at CL
    dsimp only at CL
    have h01:(le != 0)=true:=by simpa using h0
    have o1:¬ ino<1:=by omega
    have o2:¬ (64:Int)<ino:=by omega
    have o3:decide (ino<1)=false:=decide_eq_false o1
    clear hm h hr h0
    go_enter Tryz.func87,Tryz.ntmps87
    go_wp2_with fail
    refine CM.out.mono ?_
    rintro e w1 ⟨rfl,hb1⟩
    have B1:=Lib.hid hb1
    clear hb1 CM
    go_wp2_with fail
    refine (CL.out _ ((HR.out.below B1.out).mono B1.out.size)).mono ?_
    rintro e w2 ⟨⟨v,rfl,hv⟩,hb2⟩
    have B2:=Lib.hid (B1.out.trans (hb2.mono B1.out.size))
    clear hb2 hv CL
    go_wp2
    go_ret2
    rw [HO.out]
    exact RowCode.none B2.out
end Go.Proofs.YtdldlendppkknaaGreatDoor
