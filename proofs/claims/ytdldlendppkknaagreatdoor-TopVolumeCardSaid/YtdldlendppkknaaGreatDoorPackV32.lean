/-
  Contracts and plain laws: TopF, TopC, LawVol.
-/
import Derived.Test.YtdldlendppkknaaGreatDoorPackV31
namespace Go.Proofs.YtdldlendppkknaaGreatDoor
set_option linter.unusedVariables false
set_option linter.unusedSimpArgs false
set_option maxRecDepth 100000
section
variable {V W X ys:List ByteArray} {m n k off size:Nat} {d:List UInt8}
theorem act_keep (h:FsT V m) (a:DeedV):FsT (actO V a).1 m∧(actO V a).1.length=V.length:=by
 unfold actO
 by_cases he:(actI V a).2=0
 ·rw [if_pos he]
  show FsT (actI V a).1 m∧(actI V a).1.length=V.length
  unfold actI at he ⊢
  by_cases h0:a.kind=0
  ·rw [if_pos h0] at he ⊢
   exact TreeX.made h he
  rw [if_neg h0] at he ⊢
  by_cases h1:a.kind=1
  ·rw [if_pos h1] at he ⊢
   exact TreeX.made h he
  rw [if_neg h1] at he ⊢
  by_cases h2:a.kind=2
  ·rw [if_pos h2] at he ⊢
   exact TreeX.link h he
  rw [if_neg h2] at he ⊢
  by_cases h3:a.kind=3
  ·rw [if_pos h3] at he ⊢
   exact TreeX.remove h he
  rw [if_neg h3] at he ⊢
  by_cases h4:a.kind=4
  ·rw [if_pos h4] at he ⊢
   exact TreeX.rename h he
  rw [if_neg h4] at he ⊢
  by_cases h5:a.kind=5
  ·rw [if_pos h5] at he ⊢
   exact TreeX.write h he
  rw [if_neg h5] at he ⊢
  by_cases h6:a.kind=6
  ·rw [if_pos h6] at he ⊢
   exact TreeX.cut h he
  rw [if_neg h6] at he ⊢
  by_cases h7:a.kind=7
  ·rw [if_pos h7] at he ⊢
   obtain ⟨x,y,_⟩:=TreeX.setattr h he
   exact ⟨x,y⟩
  rw [if_neg h7] at he ⊢
  by_cases h8:a.kind=8
  ·rw [if_pos h8] at he ⊢
   obtain ⟨x,y⟩:=TreeX.limit h he
   exact ⟨x,y.len⟩
  rw [if_neg h8] at he
  exact absurd he (by decide)
 ·rw [if_neg he]
  exact ⟨h,rfl⟩
end
open Go.RowKit
theorem plan_of (x y:Nat):planE ((20+x % 40:Nat):Int) ((4+y % 12:Nat):Int)=0∧9≤(20+x % 40)-dataN (4+y % 12):=by
 constructor
 ·unfold planE
  rw [if_neg (by omega),if_neg (by omega)]
 ·unfold dataN
  omega
set_option maxHeartbeats 4000000 in
theorem volume_any (x y:Nat) (w:World) (hx:x<256) (hy:y<256):Calls Tryz.prog 6 #[.int .u8 x,.int .u8 y] w fun e w'=>(∃ v,e=.returned (.tuple #[v,.bool true])∧OwnRow (startV (20+x % 40) (4+y % 12)) w v w')∧Below w.heap.size w w':=by
 obtain ⟨hp,hr⟩:=plan_of x y
 have s1:IntKind.i64.wrap (x:Int)=(x:Int):=IntWalk.i64_in _ (by omega)
 have s1':wrap64 (x:Int)=(x:Int):=by unfold wrap64;omega
 have s2:IntKind.i64.wrap (y:Int)=(y:Int):=IntWalk.i64_in _ (by omega)
 have s2':wrap64 (y:Int)=(y:Int):=by unfold wrap64;omega
 obtain ⟨xm,hxm⟩:∃ xm,xm=x % 40:=⟨_,rfl⟩
 obtain ⟨ym,hym⟩:∃ ym,ym=y % 12:=⟨_,rfl⟩
 have s3:(x:Int).tmod 40=(xm:Int):=by rw [Int.tmod_eq_emod_of_nonneg (by omega)];omega
 have s4:(y:Int).tmod 12=(ym:Int):=by rw [Int.tmod_eq_emod_of_nonneg (by omega)];omega
 rw [← hxm,← hym] at hp hr ⊢
 obtain ⟨b,hb⟩:∃ b,b=20+xm:=⟨_,rfl⟩
 obtain ⟨m,hm⟩:∃ m,m=4+ym:=⟨_,rfl⟩
 rw [← hb,← hm] at hp hr ⊢
 have s5:IntKind.i64.wrap ((20:Int)+(xm:Int))=(b:Int):=by rw [show (20:Int)+(xm:Int)=(b:Int) by omega];exact IntWalk.i64_in _ (by omega)
 have s6:IntKind.i64.wrap ((4:Int)+(ym:Int))=(m:Int):=by rw [show (4:Int)+(ym:Int)=(m:Int) by omega];exact IntWalk.i64_in _ (by omega)
 have hb6:b≤59:=by omega
 obtain ⟨t1,_,_,t4,_⟩:=top_tree hp
 obtain ⟨f1,f2,_,_,_,_,_,f8⟩:=file_made hp hr
 obtain ⟨g1,g2,g3,_⟩:=start_ok hp hr
 have CM:Hid (∀ w,Calls Tryz.prog 25 #[.int .i64 b,.int .i64 m] w (RowCode (topV b m) 0 w)):=fun w=>by
  have h:=make_any (b:Int) (m:Int) w (fun _=>by rw [Int.toNat_natCast,fmtV_length];omega)
  rw [top_make hp] at h
  exact h
 have CC:Hid (∀ A c w,RowAt w w.heap.size A ((topV b m).map .string)→Calls Tryz.prog 26 #[.slice A (topV b m).length c,.string initP,.int .i64 0] w (RowNumCode (fileV b m,2,0) w)):=fun A c w h=>by
  have h:=create_any A c (topV b m) initP 0 w (by omega) (by decide) h
  rw [f1] at h
  exact h
 have CW:Hid (∀ A c w,RowAt w w.heap.size A ((fileV b m).map .string)→Calls Tryz.prog 13 #[.slice A (fileV b m).length c,.int .i64 2,.int .i64 0,.string fileB] w (RowCode (startV b m) 0 w)):=fun A c w h=>by
  have h:=writeF_any A c (fileV b m) 2 0 fileB w (by omega) (by decide) (by decide) h
  rw [g1] at h
  exact h
 unfold RowCode at CM CW
 unfold RowNumCode at CC
 dsimp only at CM CC CW
 generalize topV b m=V1 at *
 generalize fileV b m=V2 at *
 generalize startV b m=V3 at *
 have hI:initP=⟨#[47,105,110,105,116]⟩:=rfl
 have hF:fileB=⟨#[97,32,102,105,108,101]⟩:=rfl
 rw [hI] at CC
 rw [hF] at CW
 clear hp hr t1 t4 f1 f2 f8 g1 g2 g3 hxm hym hb hm hx hy hb6 hI hF
 go_enter Tryz.func6,Tryz.ntmps6
 go_wp2_with fail
 refine (CM.out _).mono ?_
 rintro e w1 ⟨⟨v,rfl,hown⟩,hb1⟩
 obtain ⟨A1,c1,rfl,hrow⟩:=OwnRow.read hown
 have R1:=Lib.hid hrow
 have B1:=Lib.hid hb1
 clear hown hb1 hrow CM
 go_wp2_with fail
 refine (CC.out _ _ _ R1.out).mono ?_
 rintro e w2 ⟨⟨v,rfl,hown⟩,hb2⟩
 obtain ⟨A2,c2,rfl,hrow⟩:=OwnRow.read hown
 have R2:=Lib.hid hrow
 have B2:=Lib.hid (B1.out.trans (hb2.mono B1.out.size))
 clear hown hb2 hrow CC
 go_wp2_with fail
 refine (CW.out _ _ _ R2.out).mono ?_
 rintro e w3 ⟨⟨v,rfl,hown⟩,hb3⟩
 have ON:=Lib.hid (own_low hown B2.out.size)
 have B3:=Lib.hid (B2.out.trans (hb3.mono B2.out.size))
 clear hown hb3 CW
 go_wp2
 go_ret2
 exact ⟨⟨_,rfl,ON.out⟩,B3.out⟩
theorem great_facts {l:List DeedV} (h:greatB l=false) (hn:∀ a ∈ l,-9223372036854775808≤a.n∧a.n≤9223372036854775807):l.length≤24∧∀ a ∈ l,DeedOk a:=by
 unfold greatB at h
 rw [Bool.or_eq_false_iff] at h
 obtain ⟨h1,h2⟩:=h
 rw [List.any_eq_false] at h1
 refine ⟨by have:=of_decide_eq_false h2;omega,fun a ha=>?_⟩
 have h3:=h1 a ha
 unfold greatD at h3
 rw [decide_eq_true_iff] at h3
 exact ⟨hn a ha,by omega,by omega,by omega⟩
set_option maxHeartbeats 16000000 in
theorem law_volume (A:Option Addr) (c:Nat) (l:List DeedV) (x y:Nat) (w:World) (hx:x<256) (hy:y<256) (hl:l.length≤9223372036854775807) (hn:∀ a ∈ l,-9223372036854775808≤a.n∧a.n≤9223372036854775807)
  (CS:∀ w',Below w.heap.size w w'→Calls Tryz.prog 8 #[] w' fun e w2=>e=.returned (.bool true)∧Below w'.heap.size w' w2) (h:RowAt w w.heap.size A (deedsC l)) :
  Calls Tryz.prog 5 #[.int .u8 x,.int .u8 y,.slice A l.length c] w fun e w'=>e=.returned (.bool true)∧Below w.heap.size w w':=by
 have HR:=Lib.hid h
 have CS:=Lib.hid CS
 obtain ⟨hp0,hr0⟩:=plan_of x y
 obtain ⟨_,_,s3,s4⟩:=start_ok hp0 hr0
 have s2:=And.intro (start_root hp0 hr0) (LimT.none s4)
 clear s4
 have CV:=Lib.hid (fun w=>volume_any x y w hx hy)
 have CG:=Lib.hid (fun w h=>great_any A c l w hl h)
 have HGF:=Lib.hid (fun h=>great_facts (l:=l) h hn)
 have hb59:20+x % 40≤59:=by omega
 generalize startV (20+x % 40) (4+y % 12)=V0 at *
 generalize 20+x % 40=b at *
 generalize 4+y % 12=m at *
 have HF0:=Lib.hid s2
 have HL0:=Lib.hid s3
 have HB59:=Lib.hid hb59
 have HL:=Lib.hid hl
 clear h hp0 hr0 s2 s3 hx hy hn hb59 hl
 go_enter Tryz.func5,Tryz.ntmps5
 go_wp2_with fail
 refine (CV.out _).mono ?_
 rintro e w1 ⟨⟨v1,rfl,hown⟩,hb1⟩
 obtain ⟨A1,c1,rfl,hrow⟩:=OwnRow.read hown
 rw [HL0.out]
 have R1:=Lib.hid hrow
 have B1:=Lib.hid hb1
 clear hown hb1 hrow CV
 go_wp2_with fail
 refine (CG.out _ (row_keep HR.out B1.out B1.out.size)).mono ?_
 rintro e w2 ⟨rfl,hb2⟩
 have B2:=Lib.hid (B1.out.trans (hb2.mono B1.out.size))
 have R2:=Lib.hid (row_keep R1.out hb2 hb2.size)
 clear hb2 CG R1 B1
 generalize greatB l=bg at *
 cases bg with
 | true=>
  go_wp2_with fail
  refine (CS.out _ B2.out).mono ?_
  rintro e w3 ⟨rfl,hb3⟩
  go_wp2
  go_ret
  exact ⟨rfl,B2.out.trans (hb3.mono B2.out.size)⟩
 | false=>
  obtain ⟨hl24,hok⟩:=HGF.out rfl
  have HOK:=Lib.hid hok
  clear hok HGF
  go_wp2
  go_loopw [7,10,11,12,26] (fun v _ _ _ i wr=>∃ (k:Nat) (V:List ByteArray) (A2:Option Addr) (c2:Nat),k≤l.length∧i=.int .i64 (k:Int)∧v=.slice A2 b c2∧Hid (RootT V m∧LimT V)∧Hid (V.length=b)∧Hid (RowAt wr wr.heap.size A2 (V.map .string))∧Hid (Below w.heap.size w wr)) (fun _ _ _ _ i _=>l.length-(intOf i).toNat)
  case atStart=>exact ⟨0,V0,A1,c1,Nat.zero_le _,rfl,rfl,HF0,HL0,R2,B2⟩
  case round=>
   clear R2 B2 HF0 HL0
   obtain ⟨k,V,A2,c2,hk,rfl,rfl,HF,HLV,RV,B⟩:=hrel
   by_cases hlt:k<l.length
   ·obtain ⟨bA,oA,rfl,hbA,hrA⟩:=deed_at (RowAt.below HR.out B.out) hlt
    have CA:Hid (∀ w3,RowAt w3 w3.heap.size A2 (V.map .string)→Calls Tryz.prog 9 #[.slice A2 b c2,.agg (deedC l[k])] w3 (ActPost (actO V l[k]) w3)):=fun w3 h=>by
     have h5:=HB59.out
     have h6:=HLV.out
     have:=act_any A2 c2 V m l[k] w3 (by omega) HF.out.1.tree.dir (HOK.out _ (List.getElem_mem hlt)) h
     rwa [HLV.out] at this
    have HK:=Lib.hid (And.intro (And.intro (act_root HF.out.1 l[k]) (act_lim HF.out.1.tree HF.out.2 l[k])) (act_keep HF.out.1.tree l[k]).2)
    have HND:Hid ((actO V l[k]).2=false→(actO V l[k]).1=V):=fun h=>by
     unfold actO at h ⊢
     split at h
     ·cases h
     ·rename_i hc;rw [if_neg hc]
    generalize l[k]=dd at *
    generalize actO V dd=r at *
    obtain ⟨r1,r2⟩:=r
    dsimp only at HK
    obtain ⟨kd,n,p1,q1,d1,o⟩:=dd
    have HR1:Hid (wr.rangeAt bA (oA+k * 6) [.int .i64 kd,.int .i64 n,.string p1,.string q1,.string d1,.int .i64 o]):=hrA
    have B4:=Lib.hid (B.out.alloc B.out.size (.cells #[.int .i64 kd,.int .i64 n,.string p1,.string q1,.string d1,.int .i64 o] 30))
    have RV4:=Lib.hid (row_keep RV.out ((Below.refl wr.heap.size wr).alloc (Nat.le_refl _) (.cells #[.int .i64 kd,.int .i64 n,.string p1,.string q1,.string d1,.int .i64 o] 30)) (by simp))
    have i2:(k:Int)<(l.length:Int):=by omega
    have i3:(0:Int)≤(k:Int):=by omega
    have ws:IntKind.i64.wrap ((k:Int)+1)=(k:Int)+1:=IntWalk.i64_in _ (by have:=HL.out;omega)
    clear hrA
    go_wp2_with (refine wpList_load_mid rfl 30 (.tmp 28) rfl bA (oA+k * 6) rfl _ _ HR1.out Tryz.underlying30 rfl (by kernel_rfl) ?_;go_frame)
    refine (CA.out _ RV4.out).mono ?_
    rintro e w4 ⟨⟨A4,c4,he,hr4⟩,hb4⟩
    dsimp only at he hr4 HND
    have h5:=HB59.out
    have hlen:=HK.out.2.trans HLV.out
    rw [hlen] at he
    subst he
    have R4:=Lib.hid hr4
    have B5:=Lib.hid (B4.out.trans (hb4.mono B4.out.size))
    have RV5:=Lib.hid (row_keep RV4.out hb4 hb4.size)
    have HLE:=Lib.hid hlen
    have CAL:Hid (r2=false→∀ w5,RowAt w5 w5.heap.size A2 (V.map .string)→RowAt w5 w5.heap.size A4 (r1.map .string)→Calls Tryz.prog 22 #[.slice A2 b c2,.slice A4 b c4] w5 fun e w'=>e=.returned (.bool true)∧Below w5.heap.size w5 w'):=fun h w5 h1 h2=>by
     have e:=HND.out h
     have h6:=HLV.out
     rw [e] at h2
     have:=alike_self A2 A4 c2 c4 V w5 (by omega) h1 h2
     rwa [h6] at this
    have CLK:Hid (∀ w5,RowAt w5 w5.heap.size A4 (r1.map .string)→Calls Tryz.prog 23 #[.slice A4 b c4] w5 fun e w'=>e=.returned (.slice none 0 0)∧Below w5.heap.size w5 w'):=fun w5 h=>by
     have:=look_any A4 c4 r1 m w5 (by omega) HK.out.1.1 HK.out.1.2 h
     rwa [hlen] at this
    have CCH:Hid (∀ w5,RowAt w5 w5.heap.size A4 (r1.map .string)→Calls Tryz.prog 24 #[.slice A4 b c4] w5 fun e w'=>e=.returned (.int .i64 0)∧Below w5.heap.size w5 w'):=fun w5 h=>by
     have:=check_quo A4 c4 r1 w5 (by omega) h
     rwa [HK.out.1.2.check HK.out.1.1.vol,hlen] at this
    clear hr4 hb4 CA RV4 B4 hlen h5
    cases r2 with
    | false=>
     go_wp2_with fail
     refine (CAL.out (by first | trivial | rfl) _ RV5.out R4.out).mono ?_
     rintro e w5 ⟨rfl,hb5⟩
     have B6:=Lib.hid (B5.out.trans (hb5.mono B5.out.size))
     have R5:=Lib.hid (row_keep R4.out hb5 hb5.size)
     clear hb5 B5 R4
     go_wp2_with fail
     refine (CLK.out _ R5.out).mono ?_
     rintro e w6 ⟨rfl,hb6⟩
     have B7:=Lib.hid (B6.out.trans (hb6.mono B6.out.size))
     have R6:=Lib.hid (row_keep R5.out hb6 hb6.size)
     clear hb6 B6 R5
     go_wp2_with fail
     refine (CCH.out _ R6.out).mono ?_
     rintro e w7 ⟨rfl,hb7⟩
     have B8:=Lib.hid (B7.out.trans (hb7.mono B7.out.size))
     have R7:=Lib.hid (row_keep R6.out hb7 hb7.size)
     clear hb7 B7 R6
     go_wp2
     go_roundw
     case rel=>exact ⟨k+1,r1,A4,c4,by omega,by go_num,rfl,HK.out.1,HLE,R7,B8⟩
     case measure=>simp [intOf];omega
    | true=>
     go_wp2_with fail
     refine (CLK.out _ R4.out).mono ?_
     rintro e w6 ⟨rfl,hb6⟩
     have B7:=Lib.hid (B5.out.trans (hb6.mono B5.out.size))
     have R6:=Lib.hid (row_keep R4.out hb6 hb6.size)
     clear hb6 B5 R4
     go_wp2_with fail
     refine (CCH.out _ R6.out).mono ?_
     rintro e w7 ⟨rfl,hb7⟩
     have B8:=Lib.hid (B7.out.trans (hb7.mono B7.out.size))
     have R7:=Lib.hid (row_keep R6.out hb7 hb7.size)
     clear hb7 B7 R6
     go_wp2
     go_roundw
     case rel=>exact ⟨k+1,r1,A4,c4,by omega,by go_num,rfl,HK.out.1,HLE,R7,B8⟩
     case measure=>simp [intOf];omega
   ·obtain rfl:k=l.length:=by omega
    have i2:¬ (l.length:Int)<(l.length:Int):=by omega
    go_wp2_with fail
    refine (CS.out _ B.out).mono ?_
    rintro e w3 ⟨rfl,hb3⟩
    have B9:=Lib.hid (B.out.trans (hb3.mono B.out.size))
    clear hb3
    go_wp2
    go_ret
    exact ⟨rfl,B9.out⟩
end Go.Proofs.YtdldlendppkknaaGreatDoor
