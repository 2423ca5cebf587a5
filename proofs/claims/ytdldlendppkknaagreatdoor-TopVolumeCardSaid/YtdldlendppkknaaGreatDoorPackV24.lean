/-
  Contracts and plain laws: FsF, FsG, FsI, TreeD.
-/
import Derived.Test.YtdldlendppkknaaGreatDoorPackV23
namespace Go.Proofs.YtdldlendppkknaaGreatDoor
open Go.RowKit
set_option linter.unusedVariables false
set_option linter.unusedSimpArgs false
set_option maxRecDepth 100000
theorem give_code {xs:List ByteArray} {i:Int} {w w':World} {e:Ending} (hx:xs.length≤1000000) (h:GivePost xs i w e w'):RowCode (giveO xs i).1 (giveO xs i).2 w e w':=by
 unfold GivePost at h
 unfold giveO RowCode
 obtain ⟨hb,h⟩:=h
 refine ⟨?_,hb⟩
 cases hr:ofR xs with
 | none=>rw [hr] at h;exact ⟨_,h,own_nil _ _⟩
 | some m=>
  rw [hr] at h
  dsimp only at h ⊢
  by_cases h1:i<(dataN m:Int)∨(xs.length:Int)≤i
  ·rw [if_pos h1] at h ⊢; exact ⟨_,h,own_nil _ _⟩
  ·rw [if_neg h1] at h ⊢
   by_cases h2:bitL (blkL xs 2) i.toNat=false
   ·rw [if_pos h2] at h ⊢; exact ⟨_,h,own_nil _ _⟩
   ·rw [if_neg h2] at h ⊢
    obtain ⟨v,e1,hn⟩:=h
    exact ⟨v,e1,hn.own (by rw [turnV_length];exact Nat.le_trans hx (by decide))⟩
theorem giveO_le {xs:List ByteArray} (h:xs.length≤1000000) (i:Int):(giveO xs i).1.length≤1000000:=by
 unfold giveO
 repeat' split
 all_goals first | exact Nat.zero_le _ | (dsimp only;rw [turnV_length];exact h)
set_option maxHeartbeats 4000000 in
theorem gone_any (A:Option Addr) (c:Nat) (xs:List ByteArray) (n:Int) (w:World) (hx:xs.length≤1000000) (h:RowAt w w.heap.size A (xs.map .string)) :
  Calls Tryz.prog 64 #[.slice A xs.length c,.int .i64 n] w (RowCode (goneO xs n).1 (goneO xs n).2 w):=by
 have CC:=Lib.hid (cut_any A c xs n 0 w hx h)
 have HL:=Lib.hid (cutO_le hx n 0)
 have HO:Hid (goneO xs n=if (cutO xs n 0).2≠0 then ([],(cutO xs n 0).2)
 else if inoE (cutO xs n 0).1 n≠0 then ([],inoE (cutO xs n 0).1 n)
 else putO (goneV (cutO xs n 0).1 n) n (List.replicate 12 0)):=by show _=_;rfl
 obtain ⟨ys,e1,hc⟩:∃ a b,cutO xs n 0=(a,b):=⟨_,_,rfl⟩
 rw [hc] at CC HL HO
 dsimp only at HL HO
 have CG:=Lib.hid (fun A c w h=>get_ino A c ys n w HL.out h)
 obtain ⟨a0,a1,a2,a3,a4,a5,a6,a7,a8,a9,a10,a11,hg⟩:=len12 (getR_len ys n)
 have HG:Hid (goneV ys n=if (giveO ys (a11:Nat)).2=0 then (giveO ys (a11:Nat)).1 else ys):=by show _=_;unfold goneV;rw [hg];rfl
 have CT:=Lib.hid (fun A c w h=>(give_any A c ys (a11:Nat) w HL.out h).mono fun _ _ h=>give_code HL.out h)
 have HT:=Lib.hid (giveO_le HL.out (a11:Nat))
 rw [hg] at CG
 unfold inoC at CG
 simp only [List.map_cons,List.map_nil] at CG
 generalize inoE ys n=e2 at *
 generalize goneV ys n=gv at *
 obtain ⟨gs,e3,ht⟩:∃ a b,giveO ys (a11:Nat)=(a,b):=⟨_,_,rfl⟩
 rw [ht] at CT HT HG
 unfold RowCode at CC CT
 dsimp only at CC CG CT HT HG
 generalize goneO xs n=z at *
 clear h hc hg ht hx
 go_enter Tryz.func64,Tryz.ntmps64
 go_wp2_with fail
 refine CC.out.mono ?_
 rintro e' w1 ⟨⟨v,rfl,hown⟩,hb1⟩
 have B1:=Lib.hid hb1
 obtain ⟨A1,c1,rfl,hrow⟩:=OwnRow.read hown
 have O1:=Lib.hid hown
 have R1:=Lib.hid hrow
 clear hb1 CC hown hrow
 go_wp2_with fail
 ·rename_i hc
  go_ret2
  rw [HO.out,if_pos (by simpa using hc)]
  exact ⟨⟨_,rfl,own_nil _ _⟩,B1.out⟩
 have hc:(e1 != 0)=false:=by assumption
 rw [if_neg (by simpa using hc)] at HO
 clear hc
 refine (CG.out _ _ _ R1.out).mono ?_
 rintro e' w2 ⟨rfl,hb2⟩
 have B2:=Lib.hid (B1.out.trans (hb2.mono B1.out.size))
 have O2:=Lib.hid (OwnRow.keep O1.out hb2)
 obtain ⟨W3,hW3⟩:∃ W3,w2.alloc (.cells #[.int .i64 a0,.int .i64 a1,.int .i64 a2,.int .i64 a3,.int .i64 a4,.int .i64 a5,.int .i64 a6,.int .i64 a7,.int .i64 a8,.int .i64 a9,.int .i64 a10,.int .i64 a11] 39)=W3:=⟨_,rfl⟩
 have hb3:Below w2.heap.size w2 W3:=hW3▸(Below.refl _ _).alloc (Nat.le_refl _) _
 have B3:=Lib.hid (B2.out.trans (hb3.mono B2.out.size))
 have O3:=Lib.hid (OwnRow.keep O2.out hb3)
 have X3:Hid (Blk W3 w2.heap.size 39 #[.int .i64 a0,.int .i64 a1,.int .i64 a2,.int .i64 a3,.int .i64 a4,.int .i64 a5,.int .i64 a6,.int .i64 a7,.int .i64 a8,.int .i64 a9,.int .i64 a10,.int .i64 a11]):=hW3▸Blk.new w2 _ _
 have HW3:=Lib.hid hW3
 clear hb2 hb3 CG hW3 O1 R1 O2
 go_wp2_with fail
 ·rename_i hc
  rw [HW3.out]
  go_ret2
  rw [HO.out,if_pos (by simpa using hc)]
  exact ⟨⟨_,rfl,own_nil _ _⟩,B3.out⟩
 have hc:(e2 != 0)=false:=by assumption
 rw [if_neg (by simpa using hc)] at HO
 clear hc
 rw [HW3.out]
 clear HW3
 have x11:=X3.out.cell 11 rfl
 obtain ⟨A3,c3,he3,hr3⟩:=OwnRow.read O3.out
 cases he3
 go_wp2_with fail
 refine (CT.out _ _ _ hr3).mono ?_
 rintro e' w4 ⟨⟨v,rfl,hown⟩,hb4⟩
 have B4:=Lib.hid (B3.out.trans (hb4.mono B3.out.size))
 have O4:=Lib.hid (OwnRow.keep O3.out hb4)
 obtain ⟨A4,c4,rfl,hrow⟩:=OwnRow.read hown
 obtain ⟨A5,c5,he5,hr5⟩:=OwnRow.read O4.out
 cases he5
 have R4:=Lib.hid hrow
 have R5:=Lib.hid hr5
 clear hb4 CT x11 X3 O3 O4 hown hrow hr3 hr5
 have L0:∀ z ∈ (List.replicate 12 (0:Int)),-9223372036854775808≤z∧z≤9223372036854775807:=by decide
 have LL:=Lib.hid L0
 clear L0
 go_wp2_with fail
 ·have hc:(e3 == 0)=true:=by assumption
  rw [if_pos (by simpa using hc)] at HG
  rw [HG.out] at HO
  refine (put_ino _ _ gs n (List.replicate 12 0) w4 HT.out R4.out rfl LL.out).mono ?_
  generalize putO gs n (List.replicate 12 0)=r at *
  obtain ⟨zs,e5⟩:=r
  rintro e' w7 ⟨⟨v,rfl,hown⟩,hb7⟩
  have hz:=B4.out.size
  have ON7:=Lib.hid (own_low hown hz)
  have B7:=Lib.hid (B4.out.trans (hb7.mono hz))
  clear hown hb7
  go_wp2
  go_ret2
  rw [HO.out]
  exact ⟨⟨_,rfl,ON7.out⟩,B7.out⟩
 ·have hc:(e3 == 0)=false:=by assumption
  rw [if_neg (by simpa using hc)] at HG
  rw [HG.out] at HO
  refine (put_ino _ _ ys n (List.replicate 12 0) w4 HL.out R5.out rfl LL.out).mono ?_
  generalize putO ys n (List.replicate 12 0)=r at *
  obtain ⟨zs,e5⟩:=r
  rintro e' w7 ⟨⟨v,rfl,hown⟩,hb7⟩
  have hz:=B4.out.size
  have ON7:=Lib.hid (own_low hown hz)
  have B7:=Lib.hid (B4.out.trans (hb7.mono hz))
  clear hown hb7
  go_wp2
  go_ret2
  rw [HO.out]
  exact ⟨⟨_,rfl,ON7.out⟩,B7.out⟩
theorem path_size {xs:List ByteArray} {p:ByteArray} (h:(pathO xs p.data.toList).2=0):1≤p.size:=by
 cases hm:mayP p.data.toList with
 | true=>exact (mayP_size hm).1
 | false=>unfold pathO at h;rw [hm,if_pos rfl] at h;exact absurd h (by decide)
set_option maxHeartbeats 16000000 in
theorem remove_cl (vb pb:Nat) (A:Option Addr) (c:Nat) (xs:List ByteArray) (p:ByteArray) (w:World) (hx:xs.length≤1000000) (hp:p.size≤140737488355328)
  (h:RowAt w w.heap.size A (xs.map .string)) (h1:Blk w vb 24 #[.slice A xs.length c]) (h2:Blk w pb 9 #[.string p]) :
  Calls Tryz.prog 60 #[.pointer (some ⟨vb,0,none⟩),.pointer (some ⟨pb,0,none⟩)] w (RowCode (removeI xs p).1 (removeI xs p).2 w):=by
 have HR:=Lib.hid h
 have V0:=Lib.hid h1
 have P0:=Lib.hid h2
 have CP:=Lib.hid (path_any A c xs p w hx h)
 have HO:Hid (removeI xs p=if (pathO xs p.data.toList).2≠0 then ([],(pathO xs p.data.toList).2)
 else if p.data.toList=[47] then ([],12)
 else if (inoE xs (pathO xs p.data.toList).1=0∧(getR xs (pathO xs p.data.toList).1).getD 0 0=2)∧((listO xs (pathO xs p.data.toList).1).2≠0∨(listO xs (pathO xs p.data.toList).1).1≠[]) then ([],12)
 else if (pathO xs (aboveB p).data.toList).2≠0 then ([],(pathO xs (aboveB p).data.toList).2)
 else if (dropO xs (pathO xs (aboveB p).data.toList).1 (lastB p)).2≠0∨inoE xs (pathO xs p.data.toList).1≠0 then dropO xs (pathO xs (aboveB p).data.toList).1 (lastB p)
 else if (getR xs (pathO xs p.data.toList).1).getD 1 0≤1∨(getR xs (pathO xs p.data.toList).1).getD 0 0=2 then goneO (dropO xs (pathO xs (aboveB p).data.toList).1 (lastB p)).1 (pathO xs p.data.toList).1
 else putO (dropO xs (pathO xs (aboveB p).data.toList).1 (lastB p)).1 (pathO xs p.data.toList).1 (intsL ((getR xs (pathO xs p.data.toList).1).set 1 ((getR xs (pathO xs p.data.toList).1).getD 1 0-1)))):=by show _=_;rfl
 have HZ:Hid ((pathO xs p.data.toList).2=0→1≤p.size):=fun h=>path_size h
 obtain ⟨pn,e1,hpn⟩:∃ a b,pathO xs p.data.toList=(a,b):=⟨_,_,rfl⟩
 have CG:=Lib.hid (fun w h=>get_ino A c xs pn w hx h)
 have CL:=Lib.hid (fun w h=>list_any A c xs pn w hx h)
 have CF:=Lib.hid (fun w h=>path_any A c xs (aboveB p) w hx h)
 have CD:=Lib.hid (fun w h=>drop_any A c xs (pathO xs (aboveB p).data.toList).1 (lastB p) w hx (by have:=last_len p;omega) h)
 have HL:=Lib.hid (dropO_le hx (pathO xs (aboveB p).data.toList).1 (lastB p))
 have CS:Hid (1≤p.size→∀ w,Calls Tryz.prog 62 #[.string p] w fun e w'=>e=.returned (.tuple #[.string (aboveB p),.string (lastB p)])∧Below w.heap.size w w'):=fun h1 w=>split_any p w h1 hp
 obtain ⟨a0,a1,a2,a3,a4,a5,a6,a7,a8,a9,a10,a11,hg⟩:=len12 (getR_len xs pn)
 have LR:Hid (1≤a1→∀ z ∈ intsL [a0,a1-1,a2,a3,a4,a5,a6,a7,a8,a9,a10,a11],-9223372036854775808≤z∧z≤9223372036854775807):=fun _=>by
  have hz:=getR_lt xs pn
  rw [hg] at hz
  exact ints_lt hz (v:=a1-1) (by have:=hz a1 (by simp);omega)
 have LA:Hid (a1<4294967296):=by
  have hz:=getR_lt xs pn
  rw [hg] at hz
  exact hz a1 (by simp)
 rw [hpn] at CP HO HZ
 dsimp only at HO HZ
 rw [hg] at CG HO
 unfold inoC at CG
 simp only [List.map_cons,List.map_nil,List.getD_cons_zero,List.getD_cons_succ,List.set_cons_zero,List.set_cons_succ] at CG HO
 generalize inoE xs pn=e2 at *
 obtain ⟨E,e5,hl⟩:∃ a b,listO xs pn=(a,b):=⟨_,_,rfl⟩
 rw [hl] at CL HO
 obtain ⟨d,e3,hd⟩:∃ a b,pathO xs (aboveB p).data.toList=(a,b):=⟨_,_,rfl⟩
 rw [hd] at CF CD HL HO
 dsimp only at CD HL HO
 generalize aboveB p=pa at *
 generalize lastB p=pl at *
 obtain ⟨ys,e4,ha⟩:∃ a b,dropO xs d pl=(a,b):=⟨_,_,rfl⟩
 rw [ha] at CD HL HO
 unfold RowCode at CD
 unfold ListPost at CL
 dsimp only at CP CL CF CD HL HO
 generalize removeI xs p=z at *
 have c1:=h1.cell 0 rfl
 have c2:=h2.cell 0 rfl
 clear h h1 h2 hpn hg hl hd ha hx hp
 go_enter Tryz.func60,Tryz.ntmps60
 go_wp2_with fail
 refine CP.out.mono ?_
 rintro e' w1 ⟨rfl,hb1⟩
 have B1:=Lib.hid hb1
 have V1:=Lib.hid (V0.out.below hb1 V0.out.lt)
 have P1:=Lib.hid (P0.out.below hb1 P0.out.lt)
 clear hb1 CP c1 c2 V0 P0
 have c1:=V1.out.cell 0 rfl
 have c2:=P1.out.cell 0 rfl
 by_cases hc:e1=0
 case neg=>
  have hc':(e1 != 0)=true:=by simpa using hc
  rw [if_pos hc] at HO
  go_wp2
  go_ret2
  rw [HO.out]
  exact ⟨⟨_,rfl,own_nil _ _⟩,B1.out⟩
 subst hc
 rw [if_neg (by simp)] at HO
 have hz1:=HZ.out rfl
 have CS:=Lib.hid (CS.out hz1)
 clear HZ
 by_cases ht:p.data.toList=[47]
 case pos=>
  rw [if_pos ht] at HO
  have q0:(p.toList == [47])=true:=by rw [str_data,ht];rfl
  clear ht
  go_wp2
  go_ret2
  rw [HO.out]
  exact ⟨⟨_,rfl,own_nil _ _⟩,B1.out⟩
 rw [if_neg ht] at HO
 have q0:(p.toList == [47])=false:=by rw [str_data];simpa using ht
 clear ht
 go_wp2_with fail
 refine (CG.out _ (row_keep HR.out B1.out B1.out.size)).mono ?_
 rintro e' w2 ⟨rfl,hb2⟩
 have B2:=Lib.hid (B1.out.trans (hb2.mono B1.out.size))
 have V2:=Lib.hid (V1.out.below hb2 V1.out.lt)
 have P2:=Lib.hid (P1.out.below hb2 P1.out.lt)
 obtain ⟨W3,hW3⟩:∃ W3,w2.alloc (.cells #[.int .i64 a0,.int .i64 a1,.int .i64 a2,.int .i64 a3,.int .i64 a4,.int .i64 a5,.int .i64 a6,.int .i64 a7,.int .i64 a8,.int .i64 a9,.int .i64 a10,.int .i64 a11] 39)=W3:=⟨_,rfl⟩
 have B3:Hid (Below w.heap.size w W3):=hW3▸B2.out.alloc B2.out.size _
 have V3:Hid (Blk W3 vb _ _):=hW3▸V2.out.alloc _
 have P3:Hid (Blk W3 pb _ _):=hW3▸P2.out.alloc _
 have X3:Hid (Blk W3 w2.heap.size 39 #[.int .i64 a0,.int .i64 a1,.int .i64 a2,.int .i64 a3,.int .i64 a4,.int .i64 a5,.int .i64 a6,.int .i64 a7,.int .i64 a8,.int .i64 a9,.int .i64 a10,.int .i64 a11]):=hW3▸Blk.new w2 _ _
 have v3:=V3.out.cell 0 rfl
 have p3:=P3.out.cell 0 rfl
 rw [← hW3] at v3 p3
 have HW3:=Lib.hid hW3
 have F3:Hid (w.heap.size≤w2.heap.size):=B2.out.size
 clear hb2 CG c1 c2 V1 P1 V2 P2 hW3 q0
 by_cases h2:e2=0
 case neg=>
  have h2':(e2 == 0)=false:=by simpa using h2
  have h2'':(e2 != 0)=true:=by simpa using h2
  rw [if_neg (fun h=>h2 h.1.1)] at HO
  go_wp2_with fail
  rw [HW3.out]
  refine (CS.out _).mono ?_
  rintro e' w5 ⟨rfl,hb5⟩
  have B5:=Lib.hid (B3.out.trans (hb5.mono B3.out.size))
  have V5:=Lib.hid (V3.out.below hb5 V3.out.lt)
  have X5:=Lib.hid (X3.out.below hb5 X3.out.lt)
  clear hb5 CS
  have v5:=V5.out.cell 0 rfl
  go_wp2_with fail
  refine (CF.out _ (row_keep HR.out B5.out B5.out.size)).mono ?_
  rintro e' w6 ⟨rfl,hb6⟩
  have B6:=Lib.hid (B5.out.trans (hb6.mono B5.out.size))
  have V6:=Lib.hid (V5.out.below hb6 V5.out.lt)
  have X6:=Lib.hid (X5.out.below hb6 X5.out.lt)
  clear hb6 CF v5 V5 X5
  have v6:=V6.out.cell 0 rfl
  go_wp2_with fail
  ·rename_i hc
   go_ret2
   rw [HO.out,if_pos (by simpa using hc)]
   exact ⟨⟨_,rfl,own_nil _ _⟩,B6.out⟩
  have hc:(e3 != 0)=false:=by assumption
  rw [if_neg (by simpa using hc)] at HO
  clear hc
  refine (CD.out _ (row_keep HR.out B6.out B6.out.size)).mono ?_
  rintro e' w7 ⟨⟨v,rfl,hown⟩,hb7⟩
  have B7:=Lib.hid (B6.out.trans (hb7.mono B6.out.size))
  have X7:=Lib.hid (X6.out.below hb7 X6.out.lt)
  obtain ⟨A7,c7,rfl,hrow⟩:=OwnRow.read hown
  have hz6:=B6.out.size
  have OL:=Lib.hid (own_low hown hz6)
  have ON:=Lib.hid hown
  have R7:=Lib.hid hrow
  clear hb7 CD v6 V6 X6 hown hrow hz6
  have x70:=X7.out.cell 0 rfl
  have x71:=X7.out.cell 1 rfl
  by_cases h4:e4=0
  case neg=>
   rw [if_pos (.inl h4)] at HO
   have h4':(e4 != 0)=true:=by simpa using h4
   go_wp2
   go_ret2
   rw [HO.out]
   exact ⟨⟨_,rfl,OL.out⟩,B7.out⟩
  subst h4
  rw [if_pos (.inr h2)] at HO
  go_wp2
  go_ret2
  rw [HO.out]
  exact ⟨⟨_,rfl,OL.out⟩,B7.out⟩
 subst h2
 by_cases h0:a0=2
 case neg=>
  have h0':((a0:Int) == 2)=false:=by simpa using (by omega:¬ (a0:Int)=2)
  rw [if_neg (fun h=>h0 h.1.2)] at HO
  go_wp2_with fail
  rw [HW3.out]
  refine (CS.out _).mono ?_
  rintro e' w5 ⟨rfl,hb5⟩
  have B5:=Lib.hid (B3.out.trans (hb5.mono B3.out.size))
  have V5:=Lib.hid (V3.out.below hb5 V3.out.lt)
  have X5:=Lib.hid (X3.out.below hb5 X3.out.lt)
  clear hb5 CS
  have v5:=V5.out.cell 0 rfl
  go_wp2_with fail
  refine (CF.out _ (row_keep HR.out B5.out B5.out.size)).mono ?_
  rintro e' w6 ⟨rfl,hb6⟩
  have B6:=Lib.hid (B5.out.trans (hb6.mono B5.out.size))
  have V6:=Lib.hid (V5.out.below hb6 V5.out.lt)
  have X6:=Lib.hid (X5.out.below hb6 X5.out.lt)
  clear hb6 CF v5 V5 X5
  have v6:=V6.out.cell 0 rfl
  go_wp2_with fail
  ·rename_i hc
   go_ret2
   rw [HO.out,if_pos (by simpa using hc)]
   exact ⟨⟨_,rfl,own_nil _ _⟩,B6.out⟩
  have hc:(e3 != 0)=false:=by assumption
  rw [if_neg (by simpa using hc)] at HO
  clear hc
  refine (CD.out _ (row_keep HR.out B6.out B6.out.size)).mono ?_
  rintro e' w7 ⟨⟨v,rfl,hown⟩,hb7⟩
  have B7:=Lib.hid (B6.out.trans (hb7.mono B6.out.size))
  have X7:=Lib.hid (X6.out.below hb7 X6.out.lt)
  obtain ⟨A7,c7,rfl,hrow⟩:=OwnRow.read hown
  have hz6:=B6.out.size
  have OL:=Lib.hid (own_low hown hz6)
  have ON:=Lib.hid hown
  have R7:=Lib.hid hrow
  clear hb7 CD v6 V6 X6 hown hrow hz6
  have x70:=X7.out.cell 0 rfl
  have x71:=X7.out.cell 1 rfl
  by_cases h4:e4=0
  case neg=>
   rw [if_pos (.inl h4)] at HO
   have h4':(e4 != 0)=true:=by simpa using h4
   go_wp2
   go_ret2
   rw [HO.out]
   exact ⟨⟨_,rfl,OL.out⟩,B7.out⟩
  subst h4
  rw [if_neg (fun h=>h.elim (fun h=>h rfl) (fun h=>h rfl))] at HO
  by_cases h1:a1≤1
  case pos=>
   have h1':decide ((a1:Int)≤1)=true:=decide_eq_true (by omega)
   rw [if_pos (.inl h1)] at HO
   go_wp2_with fail
   refine (gone_any _ _ ys pn w7 HL.out R7.out).mono ?_
   generalize goneO ys pn=r at *
   obtain ⟨zs,e6⟩:=r
   rintro e' w8 ⟨⟨v,rfl,hown⟩,hb8⟩
   have hz:=B7.out.size
   have ON8:=Lib.hid (own_low hown hz)
   have B8:=Lib.hid (B7.out.trans (hb8.mono hz))
   clear hown hb8
   go_wp2
   go_ret2
   rw [HO.out]
   exact ⟨⟨_,rfl,ON8.out⟩,B8.out⟩
  have h1':decide ((a1:Int)≤1)=false:=decide_eq_false (by omega)
  rw [if_neg (fun h=>h.elim h1 h0)] at HO
  have s1:IntKind.i64.wrap ((a1:Int)-1)=(a1:Int)-1:=IntWalk.i64_in _ (by have:=LA.out;omega)
  have f7:=X7.out.frozen 1
  have X8:Hid (Blk (w7.setCell ⟨w2.heap.size,1,none⟩ (.int .i64 ((a1:Int)-1))) w2.heap.size 39 #[.int .i64 a0,.int .i64 ((a1:Int)-1),.int .i64 a2,.int .i64 a3,.int .i64 a4,.int .i64 a5,.int .i64 a6,.int .i64 a7,.int .i64 a8,.int .i64 a9,.int .i64 a10,.int .i64 a11]):=X7.out.set_ 1 _
  have O8:Hid (OwnRow ys w6 (.slice A7 ys.length c7) (w7.setCell ⟨w2.heap.size,1,none⟩ (.int .i64 ((a1:Int)-1)))):=World.ownsRow.kept ON.out (only_setCell (World.grownBy.refl w7 _) 1 _) (.inr (own_ne ON.out X7.out (by decide)).symm)
  have B8:Hid (Below w.heap.size w (w7.setCell ⟨w2.heap.size,1,none⟩ (.int .i64 ((a1:Int)-1)))):=B7.out.setCell (p:=⟨w2.heap.size,1,none⟩) F3.out _
  go_wp2_with first
   | fail
   | (refine load_blk 39 (.tmp 6) w2.heap.size 39 #[.int .i64 a0,.int .i64 ((a1:Int)-1),.int .i64 a2,.int .i64 a3,.int .i64 a4,.int .i64 a5,.int .i64 a6,.int .i64 a7,.int .i64 a8,.int .i64 a9,.int .i64 a10,.int .i64 a11] _ rfl rfl rfl X8.out Tryz.underlying39 rfl (by kernel_rfl) ?_;go_frame)
  obtain ⟨A8,c8,he8,hr8⟩:=OwnRow.read O8.out
  cases he8
  have ea:((a1:Int)-1)=((a1-1:Nat):Int):=by omega
  have CU:=Lib.hid (put_ino A7 c7 ys pn (intsL [a0,a1-1,a2,a3,a4,a5,a6,a7,a8,a9,a10,a11]) _ HL.out hr8 rfl (LR.out (by omega)))
  generalize putO ys pn (intsL [a0,a1-1,a2,a3,a4,a5,a6,a7,a8,a9,a10,a11])=r at *
  obtain ⟨zs,e6⟩:=r
  unfold RowCode at CU
  dsimp only at CU
  unfold intsL at CU
  simp only [List.map_cons,List.map_nil,← ea] at CU
  refine CU.out.mono ?_
  rintro e' w9 ⟨⟨v,rfl,hown⟩,hb9⟩
  have hz:=B8.out.size
  have ON9:=Lib.hid (own_low hown hz)
  have B9:=Lib.hid (B8.out.trans (hb9.mono hz))
  clear hown hb9 CU X8 O8 B8
  go_wp2
  go_ret2
  rw [HO.out]
  exact ⟨⟨_,rfl,ON9.out⟩,B9.out⟩
 subst h0
 have HW3:Hid (w2.alloc (.cells #[.int .i64 2,.int .i64 a1,.int .i64 a2,.int .i64 a3,.int .i64 a4,.int .i64 a5,.int .i64 a6,.int .i64 a7,.int .i64 a8,.int .i64 a9,.int .i64 a10,.int .i64 a11] 39)=W3):=HW3
 have v3:(w2.alloc (.cells #[.int .i64 2,.int .i64 a1,.int .i64 a2,.int .i64 a3,.int .i64 a4,.int .i64 a5,.int .i64 a6,.int .i64 a7,.int .i64 a8,.int .i64 a9,.int .i64 a10,.int .i64 a11] 39)).cell? ⟨vb,0,none⟩=_:=v3
 have p3:(w2.alloc (.cells #[.int .i64 2,.int .i64 a1,.int .i64 a2,.int .i64 a3,.int .i64 a4,.int .i64 a5,.int .i64 a6,.int .i64 a7,.int .i64 a8,.int .i64 a9,.int .i64 a10,.int .i64 a11] 39)).cell? ⟨pb,0,none⟩=_:=p3
 have X3:Hid (Blk W3 w2.heap.size 39 #[.int .i64 2,.int .i64 a1,.int .i64 a2,.int .i64 a3,.int .i64 a4,.int .i64 a5,.int .i64 a6,.int .i64 a7,.int .i64 a8,.int .i64 a9,.int .i64 a10,.int .i64 a11]):=X3
 go_wp2_with fail
 rw [HW3.out]
 refine (CL.out _ (row_keep HR.out B3.out B3.out.size)).mono ?_
 rintro e' w4 ⟨⟨v,rfl,hown⟩,hb4⟩
 have B4:=Lib.hid (B3.out.trans (hb4.mono B3.out.size))
 have V4:=Lib.hid (V3.out.below hb4 V3.out.lt)
 have P4:=Lib.hid (P3.out.below hb4 P3.out.lt)
 have X4:=Lib.hid (X3.out.below hb4 X3.out.lt)
 obtain ⟨A4,c4,rfl,_⟩:=OwnEnts.read hown
 clear hb4 CL v3 p3 V3 P3 X3 hown
 have v4:=V4.out.cell 0 rfl
 have p4:=P4.out.cell 0 rfl
 by_cases h5:e5=0
 case neg=>
  have h5':(e5 != 0)=true:=by simpa using h5
  rw [if_pos ⟨by simp,.inl h5⟩] at HO
  go_wp2
  go_ret2
  rw [HO.out]
  exact ⟨⟨_,rfl,own_nil _ _⟩,B4.out⟩
 subst h5
 by_cases h6:E=[]
 case neg=>
  have h6':decide (0<E.length)=true:=decide_eq_true (List.length_pos_iff.2 h6)
  have h6'':decide ((0:Int)<(E.length:Int))=true:=decide_eq_true (by have:=List.length_pos_iff.2 h6;omega)
  rw [if_pos ⟨by simp,.inr h6⟩] at HO
  go_wp2
  go_ret2
  rw [HO.out]
  exact ⟨⟨_,rfl,own_nil _ _⟩,B4.out⟩
 have h6':E.length=0:=by rw [h6];rfl
 rw [if_neg (fun h=>h.2.elim (fun h=>h rfl) (fun h=>h h6))] at HO
 clear h6
 rw [h6']
 go_wp2_with fail
 refine (CS.out _).mono ?_
 rintro e' w5 ⟨rfl,hb5⟩
 have B5:=Lib.hid (B4.out.trans (hb5.mono B4.out.size))
 have V5:=Lib.hid (V4.out.below hb5 V4.out.lt)
 have X5:=Lib.hid (X4.out.below hb5 X4.out.lt)
 clear hb5 CS
 have v5:=V5.out.cell 0 rfl
 go_wp2_with fail
 refine (CF.out _ (row_keep HR.out B5.out B5.out.size)).mono ?_
 rintro e' w6 ⟨rfl,hb6⟩
 have B6:=Lib.hid (B5.out.trans (hb6.mono B5.out.size))
 have V6:=Lib.hid (V5.out.below hb6 V5.out.lt)
 have X6:=Lib.hid (X5.out.below hb6 X5.out.lt)
 clear hb6 CF v5 V5 X5
 have v6:=V6.out.cell 0 rfl
 go_wp2_with fail
 ·rename_i hc
  go_ret2
  rw [HO.out,if_pos (by simpa using hc)]
  exact ⟨⟨_,rfl,own_nil _ _⟩,B6.out⟩
 have hc:(e3 != 0)=false:=by assumption
 rw [if_neg (by simpa using hc)] at HO
 clear hc
 refine (CD.out _ (row_keep HR.out B6.out B6.out.size)).mono ?_
 rintro e' w7 ⟨⟨v,rfl,hown⟩,hb7⟩
 have B7:=Lib.hid (B6.out.trans (hb7.mono B6.out.size))
 have X7:=Lib.hid (X6.out.below hb7 X6.out.lt)
 obtain ⟨A7,c7,rfl,hrow⟩:=OwnRow.read hown
 have hz6:=B6.out.size
 have OL:=Lib.hid (own_low hown hz6)
 have ON:=Lib.hid hown
 have R7:=Lib.hid hrow
 clear hb7 CD v6 V6 X6 hown hrow hz6
 have x70:=X7.out.cell 0 rfl
 have x71:=X7.out.cell 1 rfl
 by_cases h4:e4=0
 case neg=>
  rw [if_pos (.inl h4)] at HO
  have h4':(e4 != 0)=true:=by simpa using h4
  go_wp2
  go_ret2
  rw [HO.out]
  exact ⟨⟨_,rfl,OL.out⟩,B7.out⟩
 subst h4
 rw [if_neg (fun h=>h.elim (fun h=>h rfl) (fun h=>h rfl)),if_pos (.inr (by simp))] at HO
 by_cases h1:a1≤1
 case pos=>
  have h1':decide ((a1:Int)≤1)=true:=decide_eq_true (by omega)
  go_wp2_with fail
  refine (gone_any _ _ ys pn w7 HL.out R7.out).mono ?_
  generalize goneO ys pn=r at *
  obtain ⟨zs,e6⟩:=r
  rintro e' w8 ⟨⟨v,rfl,hown⟩,hb8⟩
  have hz:=B7.out.size
  have ON8:=Lib.hid (own_low hown hz)
  have B8:=Lib.hid (B7.out.trans (hb8.mono hz))
  clear hown hb8
  go_wp2
  go_ret2
  rw [HO.out]
  exact ⟨⟨_,rfl,ON8.out⟩,B8.out⟩
 have h1':decide ((a1:Int)≤1)=false:=decide_eq_false (by omega)
 go_wp2_with fail
 refine (gone_any _ _ ys pn w7 HL.out R7.out).mono ?_
 generalize goneO ys pn=r at *
 obtain ⟨zs,e6⟩:=r
 rintro e' w8 ⟨⟨v,rfl,hown⟩,hb8⟩
 have hz:=B7.out.size
 have ON8:=Lib.hid (own_low hown hz)
 have B8:=Lib.hid (B7.out.trans (hb8.mono hz))
 clear hown hb8
 go_wp2
 go_ret2
 rw [HO.out]
 exact ⟨⟨_,rfl,ON8.out⟩,B8.out⟩
theorem ite_le {c:Prop} [Decidable c] {a b:List ByteArray × Int} {N:Nat} (h1:c→a.1.length≤N) (h2:¬ c→b.1.length≤N):(if c then a else b).1.length≤N:=by
 split
 ·exact h1 (by assumption)
 ·exact h2 (by assumption)
theorem goneO_le {xs:List ByteArray} (h:xs.length≤1000000) (n:Int):(goneO xs n).1.length≤1000000:=by
 unfold goneO
 refine ite_le (fun _=>Nat.zero_le _) fun _=>ite_le (fun _=>Nat.zero_le _) fun _=>putO_le ?_ _ _
 unfold goneV
 split
 ·exact giveO_le (cutO_le h _ _) _
 ·exact cutO_le h _ _
theorem removeI_le {xs:List ByteArray} (h:xs.length≤1000000) (p:ByteArray):(removeI xs p).1.length≤1000000:=by
 unfold removeI
 refine ite_le (fun _=>Nat.zero_le _) fun _=>ite_le (fun _=>Nat.zero_le _) fun _=>ite_le (fun _=>Nat.zero_le _) fun _=>ite_le (fun _=>Nat.zero_le _) fun _=>ite_le (fun _=>dropO_le h _ _) fun _=>ite_le (fun _=>goneO_le (dropO_le h _ _) _) fun _=>putO_le (dropO_le h _ _) _ _
set_option maxHeartbeats 4000000 in
theorem remove_any (A:Option Addr) (c:Nat) (xs:List ByteArray) (p:ByteArray) (w:World) (hx:xs.length≤1000000) (hp:p.size≤140737488355328) (h:RowAt w w.heap.size A (xs.map .string)) :
  Calls Tryz.prog 21 #[.slice A xs.length c,.string p] w (RowCode (removeO xs p).1 (removeO xs p).2 w):=by
 obtain ⟨W1,hW1⟩:∃ W1,(w.alloc (Obj.cells #[.slice A xs.length c] 24)).alloc (.cells #[.string p] 9)=W1:=⟨_,rfl⟩
 obtain ⟨b1,v1,p1⟩:Below w.heap.size w W1∧Blk W1 w.heap.size _ _∧Blk W1 (w.heap.size+1) _ _:=hW1▸box2 w _ _ _ _
 have HW1:=Lib.hid hW1
 have HR:=Lib.hid h
 have B1:=Lib.hid b1
 have CC:=Lib.hid (remove_cl w.heap.size (w.heap.size+1) A c xs p W1 hx hp (row_keep h b1 b1.size) v1 p1)
 have WW:=Lib.hid (weighed_any A c xs 60 _ _ W1.heap.size (fun _=>True) W1 hx (removeI_le hx p) (enters_of Tryz.func60 (by kernel_rfl) rfl) (Nat.le_refl _) (row_keep h b1 b1.size) (fun _ _ _ _=>trivial) (CC.out.mono fun _ _ h=>Weigh.of_row h))
 have c1:=v1.cell 0 rfl
 have HO:Hid (removeO xs p=weighO xs (removeI xs p)):=by show _=_;rfl
 rw [← HO.out] at WW
 generalize removeO xs p=z at *
 obtain ⟨rs,e⟩:=z
 unfold Weigh at WW
 dsimp only at WW
 clear h hW1 b1 v1 p1 CC HO
 go_enter Tryz.func21,Tryz.ntmps21
 go_wp2_with fail
 rw [HW1.out]
 refine WW.out.mono ?_
 rintro e' w2 ⟨⟨v,rfl,hown⟩,hb2,_⟩
 have B2:=Lib.hid (B1.out.trans (hb2.mono B1.out.size))
 have ON:=Lib.hid (own_low hown B1.out.size)
 clear hb2 hown WW c1 HW1
 go_wp2
 go_ret2
 exact ⟨⟨_,rfl,ON.out⟩,B2.out⟩
def setF (xs:List ByteArray) (n:Int) (l:List AttV) (nm v:ByteArray):List ByteArray × Int:=weighO xs (setA xs n l nm v)
theorem takeO_le {xs:List ByteArray} (h:xs.length≤1000000):(takeO xs).1.length≤1000000:=by
 unfold takeO
 repeat' split
 all_goals first | exact Nat.zero_le _ | (dsimp only;rw [takeV_length];exact h)
theorem setA_le {xs:List ByteArray} (h:xs.length≤1000000) (n:Int) (l:List AttV) (nm v:ByteArray):(setA xs n l nm v).1.length≤1000000:=by
 unfold setA
 exact ite_le (fun _=>Nat.zero_le _) fun _=>ite_le (fun _=>Nat.zero_le _) fun _=>ite_le (fun _=>Nat.zero_le _) fun _=>ite_le (fun _=>Nat.zero_le _) fun _=>ite_le (fun _=>by dsimp only;rw [List.length_set];exact h) fun _=>ite_le (fun _=>Nat.zero_le _) fun _=>ite_le (fun _=>Nat.zero_le _) fun _=>by
  dsimp only
  rw [List.length_set]
  exact putO_le (takeO_le h) _ _
set_option maxHeartbeats 4000000 in
theorem setattr_any (A:Option Addr) (c:Nat) (xs:List ByteArray) (n:Int) (l:List AttV) (nm v:ByteArray) (w:World) (hx:xs.length≤1000000) (hnm:nm.size≤140737488355328) (hls:l.Pairwise ltN) (hlt:∀ t ∈ textsA l,t.size≤127) (hl:l.length≤100) (hA:inoE xs n=0→(getR xs n).getD 0 0≠0→AttAt xs n l) (h:RowAt w w.heap.size A (xs.map .string)) :
  Calls Tryz.prog 15 #[.slice A xs.length c,.int .i64 n,.string nm,.string v] w (RowCode (setF xs n l nm v).1 (setF xs n l nm v).2 w):=by
 have HO:Hid (setF xs n l nm v=weighO xs (setA xs n l nm v)):=by show _=_;rfl
 obtain ⟨W1,hW1⟩:∃ W1,(((w.alloc (Obj.cells #[.slice A xs.length c] 24)).alloc (Obj.cells #[.int .i64 n] 3)).alloc (.cells #[.string nm] 9)).alloc (.cells #[.string v] 9)=W1:=⟨_,rfl⟩
 obtain ⟨b1,v1,n1,m1,d1⟩:=box4 _ _ _ _ _ _ _ _ _ _ hW1
 have HW1:=Lib.hid hW1
 have B1:=Lib.hid b1
 have HL:=Lib.hid (setA_le hx n l nm v)
 have CS:=Lib.hid (aset_any A c xs n l nm v W1 hx hnm hls hlt hl hA (row_keep h b1 b1.size))
 have CC:Hid (Calls Tryz.prog 47 #[.pointer (some ⟨w.heap.size,0,none⟩),.pointer (some ⟨w.heap.size+1,0,none⟩),.pointer (some ⟨w.heap.size+1+1,0,none⟩),.pointer (some ⟨w.heap.size+1+1+1,0,none⟩)] W1 (RowCode (setA xs n l nm v).1 (setA xs n l nm v).2 W1)):=by
  show Calls _ _ _ _ _
  have c1:=v1.cell 0 rfl
  have c2:=n1.cell 0 rfl
  have c3:=m1.cell 0 rfl
  have c4:=d1.cell 0 rfl
  generalize setA xs n l nm v=r at *
  obtain ⟨rs,e⟩:=r
  unfold RowCode at CS
  dsimp only at CS
  clear h hW1 b1 v1 n1 m1 d1 hA hlt hls HW1 HO
  go_enter Tryz.func47,Tryz.ntmps47
  go_wp2_with fail
  refine CS.out.mono ?_
  rintro e' w2 ⟨⟨v,rfl,hown⟩,hb2⟩
  have ON:=Lib.hid hown
  have B2:=Lib.hid hb2
  clear hown hb2 CS
  go_wp2
  go_ret2
  exact ⟨⟨_,rfl,ON.out⟩,B2.out⟩
 have WW:=Lib.hid (weighed_any A c xs 47 _ _ W1.heap.size (fun _=>True) W1 hx HL.out (enters_of Tryz.func47 (by kernel_rfl) rfl) (Nat.le_refl _) (row_keep h b1 b1.size) (fun _ _ _ _=>trivial) (CC.out.mono fun _ _ h=>Weigh.of_row h))
 have c1:=v1.cell 0 rfl
 rw [← HO.out] at WW
 generalize setF xs n l nm v=z at *
 obtain ⟨rs,e⟩:=z
 unfold Weigh at WW
 dsimp only at WW
 clear h hW1 b1 v1 n1 m1 d1 CC HO CS HL hA hlt hls
 go_enter Tryz.func15,Tryz.ntmps15
 go_wp2_with fail
 rw [HW1.out]
 refine WW.out.mono ?_
 rintro e' w2 ⟨⟨v,rfl,hown⟩,hb2,_⟩
 have B2:=Lib.hid (B1.out.trans (hb2.mono B1.out.size))
 have ON:=Lib.hid (own_low hown B1.out.size)
 clear hb2 hown WW c1 HW1
 go_wp2
 go_ret2
 exact ⟨⟨_,rfl,ON.out⟩,B2.out⟩
section
variable {V W X ys:List ByteArray} {m n k c d b:Nat} {l l':List Nat} {E E':List EntV} {δ ε:Nat→Int}
open Classical in
noncomputable def attL (V:List ByteArray) (z:Int):List AttV:=if h:∃ l,AttAt V z l then Classical.choose h else []
theorem attAt_ok {z:Int} {l:List AttV} (h:AttAt V z l):l.Pairwise ltN∧(∀ t ∈ textsA l,t.size≤127)∧l.length≤100:=by
 rcases h with ⟨_,rfl⟩ | ⟨_,_,hv,_⟩
 ·exact ⟨List.Pairwise.nil,(fun t ht=>nomatch ht),Nat.zero_le _⟩
 ·exact ⟨hv.rise,fun t ht=>by have:=hv.texts t ht;omega,by have:=hv.small;omega⟩
theorem attL_ok (V:List ByteArray) (z:Int):(attL V z).Pairwise ltN∧(∀ t ∈ textsA (attL V z),t.size≤127)∧(attL V z).length≤100:=by
 unfold attL
 split
 ·rename_i h
  exact attAt_ok (Classical.choose_spec h)
 ·exact ⟨List.Pairwise.nil,(fun t ht=>nomatch ht),Nat.zero_le _⟩
theorem ino_known (hv:IsVol V m) {z:Int} (h0:inoE V z=0):∃ n:Nat,z=(n:Int)∧1≤n∧n≤m:=by
 obtain ⟨m2,k,hv2,rfl,k1,k2,_⟩:=inoE_ok h0
 obtain rfl:m=m2:=by
  have e1:=ofR_some.2 hv
  have e2:=ofR_some.2 hv2
  rw [e1] at e2
  exact Option.some.inj e2
 exact ⟨k,rfl,k1,k2⟩
theorem ext_attAt (hI:InvT V m) (hn:LiveT V m n) {l:List AttV} (h0:extL (getR V (n:Int))≠0) (hne:l≠[]) (hv:ValidA l) (hb:blkL V (extL (getR V (n:Int)))=blockL (rowA l)):AttAt V (n:Int) l:=by
 obtain ⟨h1,h2,_⟩:=hI.ext n hn h0
 have hd:=datB_iff.1 h1
 refine .inr ⟨h0,hne,hv,⟨m,ofR_some.2 hI.vol,hd.1⟩,?_,hd.2,hb⟩
 have h1':=hd.2
 change extL (getR V (n:Int))<V.length at h1'
 show usedR V ((extL (getR V (n:Int)):Nat):Int)=true
 unfold usedR
 rw [ofR_some.2 hI.vol]
 dsimp only
 rw [decide_eq_true (by omega),Bool.true_and,Int.toNat_natCast]
 exact h2
theorem DirT.attAt (h:DirT V m) {z:Int} (h0:inoE V z=0) (hk:(getR V z).getD 0 0≠0):AttAt V z (attL V z):=by
 obtain ⟨n,rfl,h1,h2⟩:=ino_known h.inv.vol h0
 have hn:LiveT V m n:=⟨h1,h2,by rw [← kind_getT h.inv.vol h1 h2];exact hk⟩
 have hex:∃ l,AttAt V (n:Int) l:=by
  by_cases e:extL (getR V (n:Int))=0
  ·exact ⟨[],.inl ⟨e,rfl⟩⟩
  ·obtain ⟨l,hne,hv,hb⟩:=h.att n hn e
   exact ⟨l,ext_attAt h.inv hn e hne hv hb⟩
 unfold attL
 rw [dif_pos hex]
 exact Classical.choose_spec hex
theorem take_keep (h:InvT V m) (hf:freeR V m=some b):KeepVT V (takeV V b) m (fun _=>False):=by
 obtain ⟨f1,f2,f3,f4,f5⟩:=free_facts h.vol hf
 have hl:=h.vol.len
 have hvt:IsVol (takeV V b) m:=h.vol.take f1 f2
 have hbit:∀ j,bitV (takeV V b) j=(bitV V j || decide (j=b)):=fun j=>bit_take h.vol hf
 have hblk:∀ j,j≠2→j≠b→blkL (takeV V b) j=blkL V j:=fun j h1 h2=>by
  unfold takeV turnV
  rw [blkL_set _ _ _ _ (by rw [List.length_set];exact f2),if_neg (fun e=>h2 e.symm),blkL_set _ _ _ _ (by omega),if_neg (fun e=>h1 e.symm)]
 have hnb:∀ j,bitV V j=true→j≠b:=fun j hj e=>by rw [e,f3] at hj;cases hj
 exact ⟨takeV_length _ _,hvt,fun j h1 h2 h3=>hblk j h2 (by omega),fun j h1 h2 h3=>⟨hblk j (by have:=datB_iff.1 h1;omega) (hnb j h2),by rw [hbit,h2];rfl⟩⟩
structure AttrT (V W:List ByteArray) (m n:Nat) (L:List AttV):Prop where
 far:FarT V W m n
 dir:DirT W m
 here:LiveT W m n
 keep:∀ i,i<11→(getR W (n:Int)).getD i 0=(getR V (n:Int)).getD i 0
 byte:∀ i,i<8960→byteX W m (getR W (n:Int)) i=byteX V m (getR V (n:Int)) i
 att:AttAt W (n:Int) L
 ent:∀ k,LiveT V m k→kindR V k=2→entD W k=entD V k
theorem DirT.attr_of (h:DirT V m) (hn:LiveT V m n) {L:List AttV} (hL:ValidA L) (hne:L≠[]) (f:FarT V W m n) (hw:LiveT W m n) (hk:∀ i,i<11→(getR W (n:Int)).getD i 0=(getR V (n:Int)).getD i 0)
  (hb:∀ i,i<8960→byteX W m (getR V (n:Int)) i=byteX V m (getR V (n:Int)) i) (h0:extL (getR W (n:Int))≠0) (hbk:blkL W (extL (getR W (n:Int)))=blockL (rowA L)):AttrT V W m n L:=by
 have hkn:kindR W n=kindR V n:=by rw [← kind_getT f.inv.vol hn.1 hn.2.1,← kind_getT h.inv.vol hn.1 hn.2.1];exact hk 0 (by omega)
 have hD:kindR V n=2→DirS W m n (entD V n):=fun e=>(h.dir n hn e).same f.inv hw (fun i _ h2=>hk i h2) hb
 obtain ⟨a,b⟩:=h.far f (fun _=>⟨by
  rcases h.kind n hn with e | e
  ·left;rw [hkn,e]
  ·right;exact ⟨by rw [hkn,e],_,hD e⟩,fun _=>⟨L,hne,hL,hbk⟩⟩)
 refine ⟨f,a,hw,hk,fun i hi=>?_,ext_attAt f.inv hw h0 hne hL hbk,fun k k1 k2=>?_⟩
 ·rw [byte_same (fun i h1 h2=>hk i h2),hb i hi]
 ·by_cases e:k=n
  ·subst e;exact (hD k2).ent
  ·exact b k k1 k2 e
theorem setA_ok {z:Int} {l:List AttV} {nm v:ByteArray} (he:(setA V z l nm v).2=0):opE V z=0∧mayA nm.data.toList=true∧v.size≤126∧(rowA (putA l nm v)).length≤126 ∧
  ((getR V z).getD 11 0≠0∧(setA V z l nm v).1=V.set ((getR V z).getD 11 0) (blkA (putA l nm v)) ∨
   (getR V z).getD 11 0=0∧(takeO V).2.2=0∧(putO (takeO V).1 z (intsL ((getR V z).set 11 (takeO V).2.1))).2=0∧(setA V z l nm v).1=(putO (takeO V).1 z (intsL ((getR V z).set 11 (takeO V).2.1))).1.set (takeO V).2.1 (blkA (putA l nm v))):=by
 unfold setA at he ⊢
 by_cases h1:opE V z=0
 ·rw [if_neg (fun h=>h h1)] at he ⊢
  cases hm:mayA nm.data.toList with
  | false=>rw [hm,if_pos rfl] at he;exact absurd he (by decide)
  | true=>
   rw [hm,if_neg (by simp)] at he
   rw [if_neg (by simp)]
   by_cases h2:126<v.size
   ·rw [if_pos h2] at he;exact absurd he (by decide)
   ·rw [if_neg h2] at he ⊢
    by_cases h3:126<(rowA (putA l nm v)).length
    ·rw [if_pos h3] at he;exact absurd he (by decide)
    ·rw [if_neg h3] at he ⊢
     refine ⟨h1,rfl,by omega,by omega,?_⟩
     by_cases h4:(getR V z).getD 11 0=0
     ·rw [if_neg (fun h=>h h4)] at he ⊢
      by_cases h5:(takeO V).2.2=0
      ·rw [if_neg (fun h=>h h5)] at he ⊢
       by_cases h6:(putO (takeO V).1 z (intsL ((getR V z).set 11 (takeO V).2.1))).2=0
       ·rw [if_neg (fun h=>h h6)]
        exact .inr ⟨h4,h5,h6,rfl⟩
       ·rw [if_pos h6] at he;exact absurd he h6
      ·rw [if_pos h5] at he;exact absurd he h5
     ·rw [if_pos h4]
      exact .inl ⟨h4,rfl⟩
 ·rw [if_pos h1] at he;exact absurd he h1
theorem put_valid {l:List AttV} (h1:l.Pairwise ltN) (hok:∀ x ∈ l,mayA x.name.data.toList=true) {nm v:ByteArray} (hm:mayA nm.data.toList=true) (hs:(rowA (putA l nm v)).length≤126):ValidA (putA l nm v)∧putA l nm v≠[]:=by
 obtain ⟨_,h2,_,h4⟩:=add_facts2 h1 nm v
 refine ⟨⟨fun x hx=>?_,h2,hs⟩,fun e=>?_⟩
 ·rw [put_mem] at hx
  unfold addA at hx
  split at hx
  ·rcases List.mem_or_eq_of_mem_set hx with a | a
   ·exact hok x a
   ·subst a;exact hm
  ·rcases List.mem_append.1 hx with a | a
   ·exact hok x a
   ·rw [List.mem_singleton.1 a];exact hm
 ·obtain ⟨x,hx⟩:=List.exists_mem_of_ne_nil _ h4
  rw [← put_mem,e] at hx
  cases hx
theorem blkA_data (L:List AttV):(blkA L).data.toList=blockL (rowA L):=by unfold blkA;simp
theorem DirT.attr (h:DirT V m) {z:Int} {nm v:ByteArray} (he:(setA V z (attL V z) nm v).2=0) :
  ∃ n:Nat,z=(n:Int)∧LiveT V m n∧mayA nm.data.toList=true∧AttrT V (setA V z (attL V z) nm v).1 m n (putA (attL V z) nm v):=by
 obtain ⟨h1,hm,hv,hs,hc⟩:=setA_ok he
 have hi:inoE V z=0∧(getR V z).getD 0 0≠0:=by
  unfold opE at h1
  by_cases a:inoE V z=0
  ·rw [if_neg (fun h=>h a)] at h1
   refine ⟨a,fun b=>?_⟩
   rw [if_pos b] at h1
   exact absurd h1 (by decide)
  ·rw [if_pos a] at h1;exact absurd h1 a
 have hat:=h.attAt hi.1 hi.2
 obtain ⟨n,rfl,n1,n2⟩:=ino_known h.inv.vol hi.1
 have hn:LiveT V m n:=⟨n1,n2,by rw [← kind_getT h.inv.vol n1 n2];exact hi.2⟩
 have hok:∀ x ∈ attL V (n:Int),mayA x.name.data.toList=true:=by
  rcases hat with ⟨_,e⟩ | ⟨_,_,hv,_⟩
  ·rw [e];intro x hx;cases hx
  ·exact hv.ok
 obtain ⟨hL,hne⟩:=put_valid (attL_ok V n).1 hok hm hs
 refine ⟨n,rfl,hn,hm,?_⟩
 generalize hLL:putA (attL V (n:Int)) nm v=L at *
 have hsz:(blkA L).size=128:=by rw [← dsize,blkA_data,blockL_len hs]
 rcases hc with ⟨hx,e⟩ | ⟨hx,ht,hp,e⟩
 ·change (setA V (n:Int) (attL V (n:Int)) nm v).1=V.set (extL (getR V (n:Int))) (blkA L) at e
  rw [e]
  have hx:extL (getR V (n:Int))≠0:=hx
  have sT:=h.inv.laid hn hx hsz
  have hd:=datB_iff.1 (h.inv.ext n hn hx).1
  have hself:blkL (V.set (extL (getR V (n:Int))) (blkA L)) (extL (getR V (n:Int)))=blockL (rowA L):=by
   rw [blkL_set _ _ _ _ hd.2,if_pos rfl,blkA_data]
  refine h.attr_of hn hL hne (sT.far (fun k hk hkn h0=>?_) (by
   have:=hd.1
   unfold dataN at this
   rw [blkL_set _ _ _ _ hd.2,if_neg (by omega)])) ((sT.live n).2 hn) (fun i _=>by rw [sT.rest n n1 n2]) (fun i hi=>sT.byte n hn i hi) (by rw [sT.rest n n1 n2];exact hx) (by rw [sT.rest n n1 n2];exact hself)
  show blkL (V.set (extL (getR V (n:Int))) (blkA L)) _=_
  rw [blkL_set _ _ _ _ hd.2,if_neg (fun e=>?_)]
  exact hx (h.inv.exti n k hn hk (fun e=>hkn e.symm) e)
 ·rw [e]
  have hx:extL (getR V (n:Int))=0:=hx
  unfold takeO at ht hp ⊢
  rw [ofR_some.2 h.inv.vol] at ht hp ⊢
  dsimp only at ht hp ⊢
  cases hf:freeR V m with
  | none=>rw [hf] at ht;dsimp only at ht;exact absurd ht (by decide)
  | some b=>
   rw [hf] at hp
   dsimp only at hp ⊢
   obtain ⟨f1,f2,f3,f4,f5⟩:=free_facts h.inv.vol hf
   have hl:=h.inv.vol.len
   have hb6:b<65536:=by omega
   have hkp:=take_keep h.inv hf
   obtain ⟨p1,p2⟩:=h.inv.attr hn hx hf hb6
   have hfit:FitN ((getR V (n:Int)).set 11 b):=(h.inv.good n hn).ok.fit.set 11 hb6
   have h12:(getR V (n:Int)).length=12:=(h.inv.good n hn).ok.fit.1
   have hpo:putO (takeV V b) (n:Int) (intsL ((getR V (n:Int)).set 11 b))=(putV (takeV V b) n ((getR V (n:Int)).set 11 b),0):=putO_ok hkp.vol n1 n2 hfit
   rw [hpo]
   dsimp only
   have hb0:∀ k,LiveT V m k→k≠n→extL (getR V (k:Int))≠0→blkL (takeV V b) (extL (getR V (k:Int)))=blkL V (extL (getR V (k:Int)))∧datB (takeV V b) m (extL (getR V (k:Int)))=true:=fun k hk _ h0=>by
    obtain ⟨a,b',_⟩:=h.inv.ext k hk h0
    exact ⟨(hkp.far _ a b' (fun h=>h)).1,by rw [datB_len m _ (takeV_length _ _)];exact a⟩
   have F1:=p1.farR p2 (takeV_length _ _) hb0 (by rw [takeV_blk f2 _ (by omega),if_neg (by unfold dataN at *; omega)])
   have hg1:=p1.get
   have hx1:extL (getR (putV (takeV V b) n ((getR V (n:Int)).set 11 b)) (n:Int))=b:=by
    rw [hg1]
    unfold extL
    rw [List.getD_eq_getElem?_getD,List.getElem?_set_self (by omega)];rfl
   have hsame:∀ i,i<11→((getR V (n:Int)).set 11 b).getD i 0=(getR V (n:Int)).getD i 0:=fun i hi=>getD_set_ne _ _ _ _ (by omega)
   have hl1:LiveT (putV (takeV V b) n ((getR V (n:Int)).set 11 b)) m n:=⟨n1,n2,by
    rw [← kind_getT p1.inv.vol n1 n2,hg1,hsame 0 (by omega),kind_getT h.inv.vol n1 n2];exact hn.2.2⟩
   have hbyte1:∀ i,i<8960→byteX (putV (takeV V b) n ((getR V (n:Int)).set 11 b)) m (getR V (n:Int)) i=byteX V m (getR V (n:Int)) i:=fun i hi=>by
    rw [p1.byte]
    exact (hkp.good (h.inv.good n hn) (fun s _ _ hx=>hx)).2.2 i hi
   generalize putV (takeV V b) n ((getR V (n:Int)).set 11 b)=W1 at *
   have hbne:b≠0:=by omega
   have sT:=p1.inv.laid hl1 (by rw [hx1];exact hbne) hsz
   rw [hx1] at sT
   have hlen:b<W1.length:=by rw [F1.len];exact f2
   have hself:blkL (W1.set b (blkA L)) b=blockL (rowA L):=by rw [blkL_set _ _ _ _ hlen,if_pos rfl,blkA_data]
   have F2:FarT W1 (W1.set b (blkA L)) m n:=sT.far (h1:=by rw [blkL_set _ _ _ _ hlen,if_neg (by unfold dataN at *; omega)]) fun k hk hkn h0=>by
    rw [blkL_set _ _ _ _ hlen,if_neg (fun e=>?_)]
    have:=p1.inv.exti n k hl1 hk (fun e=>hkn e.symm) (by rw [hx1,e])
    rw [hx1] at this
    exact hbne this
   have hgw:getR (W1.set b (blkA L)) (n:Int)=(getR V (n:Int)).set 11 b:=by rw [sT.rest n n1 n2,hg1]
   refine h.attr_of hn hL hne (F1.trans F2) ((sT.live n).2 hl1) (fun i hi=>by rw [hgw];exact hsame i hi) (fun i hi=>?_) (by rw [sT.rest n n1 n2,hx1];exact hbne) (by rw [sT.rest n n1 n2,hx1];exact hself)
   have:=sT.byte n hl1 i hi
   rw [hg1,byte_same (fun i h1 h2=>hsame i h2),byte_same (fun i h1 h2=>hsame i h2)] at this
   rw [this]
   exact hbyte1 i hi
theorem TreeX.attr (h:TreeX V m δ) {L:List AttV} (hn:LiveT V m n) (a:AttrT V W m n L):TreeX W m δ:=by
 refine h.still a.dir (fun k k1 k2=>?_) (fun k k1 k2=>?_) a.ent
 ·by_cases e:k=n
  ·subst e
   rw [← kind_getT a.dir.inv.vol k1 k2,← kind_getT h.vol k1 k2];exact a.keep 0 (by omega)
  ·exact a.far.kind h.vol k1 k2 e
 ·by_cases e:k=n
  ·subst e;exact a.keep 1 (by omega)
  ·exact a.far.link k1 k2 e
theorem TreeX.setattr (h:FsT V m) {z:Int} {nm v:ByteArray} (he:(setF V z (attL V z) nm v).2=0):FsT (setF V z (attL V z) nm v).1 m∧(setF V z (attL V z) nm v).1.length=V.length∧(setA V z (attL V z) nm v).2=0∧setF V z (attL V z) nm v=((setA V z (attL V z) nm v).1,0):=by
 unfold setF at he ⊢
 obtain ⟨hI,hW,_⟩:=weigh_ok he
 rw [hW]
 obtain ⟨n,rfl,hn,_,a⟩:=h.dir.attr hI
 exact ⟨TreeX.attr h hn a,a.far.len,hI,rfl⟩
end
end Go.Proofs.YtdldlendppkknaaGreatDoor
