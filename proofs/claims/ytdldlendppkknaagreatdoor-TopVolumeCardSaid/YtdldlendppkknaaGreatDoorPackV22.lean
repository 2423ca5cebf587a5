/-
  Contracts and plain laws: FsD, FsE, AttD, AttE.
-/
import Derived.Deep.RegionLawGrows
import Derived.Test.YtdldlendppkknaaGreatDoorPackV21
namespace Go.Proofs.YtdldlendppkknaaGreatDoor
open Go.RowKit
set_option linter.unusedVariables false
set_option linter.unusedSimpArgs false
set_option maxRecDepth 100000
theorem newO_le {xs:List ByteArray} (h:xs.length≤1000000) (k o:Int):(newO xs k o).1.length≤1000000:=by
 unfold newO
 repeat' split
 all_goals first | exact Nat.zero_le _ | (dsimp only;rw [putV_length];exact h)
theorem putO_le {xs:List ByteArray} (h:xs.length≤1000000) (n:Int) (l:List Int):(putO xs n l).1.length≤1000000:=by
 unfold putO
 repeat' split
 all_goals first | exact Nat.zero_le _ | (dsimp only;rw [putV_length];exact h)
theorem addO_le {xs:List ByteArray} (h:xs.length≤1000000) (n:Int) (nm:ByteArray) (ino:Int):(addO xs n nm ino).1.length≤1000000:=by
 unfold addO
 repeat' split
 all_goals first | exact Nat.zero_le _ | exact writeO_le h _ _ _
theorem dropO_le {xs:List ByteArray} (h:xs.length≤1000000) (n:Int) (nm:ByteArray):(dropO xs n nm).1.length≤1000000:=by
 unfold dropO
 repeat' split
 all_goals first | exact Nat.zero_le _ | exact cutO_le h _ _ | exact cutO_le (writeO_le h _ _ _) _ _
theorem vac_last (xs:List ByteArray) (p:ByteArray) (h:p.size≤140737488355328):(vacO xs p).2.1.size≤140737488355328:=by
 have:=last_len p
 unfold vacO
 repeat' split
 all_goals first | exact Nat.zero_le _ | (dsimp only;omega)
def MadeQ (nb:Nat) (code fresh:Int) (W:World):Prop:=∃ k:Int,Blk W nb 3 #[.int .i64 k]∧(code=0→k=fresh)
theorem MadeQ.later {nb:Nat} {code fresh:Int} {X Y:World} (h:MadeQ nb code fresh X) (hb:Below X.heap.size X Y):MadeQ nb code fresh Y:=by
 obtain ⟨k,h1,h2⟩:=h
 exact ⟨k,h1.below hb h1.lt,h2⟩
set_option maxHeartbeats 4000000 in
theorem made_cl (vb pb kb ob nb:Nat) (A:Option Addr) (c:Nat) (xs:List ByteArray) (p:ByteArray) (kind owner:Int) (B:Nat) (w:World) (hx:xs.length≤1000000) (hp:p.size≤140737488355328) (hB:B≤nb) (hBw:B≤w.heap.size)
  (h:RowAt w B A (xs.map .string)) (h1:Blk w vb 24 #[.slice A xs.length c]) (h2:w.cell? ⟨pb,0,none⟩=some (.string p)) (h3:Blk w kb 3 #[.int .i64 kind]) (h4:Blk w ob 3 #[.int .i64 owner]) (h5:Blk w nb 3 #[.int .i64 0]) :
  Calls Tryz.prog 143 #[.pointer (some ⟨vb,0,none⟩),.pointer (some ⟨pb,0,none⟩),.pointer (some ⟨kb,0,none⟩),.pointer (some ⟨ob,0,none⟩),.pointer (some ⟨nb,0,none⟩)] w
   (Weigh (madeI xs p kind owner) B (MadeQ nb (madeI xs p kind owner).2 (newO xs kind owner).2.1) w):=by
 have HR:=Lib.hid h
 have V0:=Lib.hid h1
 have K0:=Lib.hid h3
 have O0:=Lib.hid h4
 have N0:=Lib.hid h5
 have CV:=Lib.hid (vacant_any A c xs p w hx (h.mono hBw))
 have CN:=Lib.hid (fun w h=>new_ino A c xs kind owner w hx h)
 have HN:=Lib.hid (newO_le hx kind owner)
 have CA:=Lib.hid (fun A c w h=>add_any A c (newO xs kind owner).1 (vacO xs p).1 (vacO xs p).2.1 (newO xs kind owner).2.1 w (newO_le hx kind owner) (vac_last xs p hp) h)
 have HO:Hid (madeI xs p kind owner=if (vacO xs p).2.2≠0 then ([],(vacO xs p).2.2) else if (newO xs kind owner).2.2≠0 then ([],(newO xs kind owner).2.2) else addO (newO xs kind owner).1 (vacO xs p).1 (vacO xs p).2.1 (newO xs kind owner).2.1):=by show _=_;rfl
 generalize vacO xs p=vo at *
 obtain ⟨d,pl,e1⟩:=vo
 generalize newO xs kind owner=no at *
 obtain ⟨ys,f,e2⟩:=no
 dsimp only at *
 generalize addO ys d pl f=r at *
 unfold VacPost at CV
 unfold RowNumCode at CN
 unfold RowCode at CA
 dsimp only at CV CN CA
 generalize madeI xs p kind owner=z at *
 have c1:=h1.cell 0 rfl
 clear h h1 h3 h4 h5
 go_enter Tryz.func143,Tryz.ntmps143
 go_wp2_with fail
 refine CV.out.mono ?_
 rintro e' w1 ⟨rfl,hb1⟩
 have B1:=Lib.hid (hb1.mono hBw)
 have V1:=Lib.hid (V0.out.below hb1 V0.out.lt)
 have K1:=Lib.hid (K0.out.below hb1 K0.out.lt)
 have O1:=Lib.hid (O0.out.below hb1 O0.out.lt)
 have N1:=Lib.hid (N0.out.below hb1 N0.out.lt)
 clear hb1 CV c1 h2 V0 K0 O0 N0
 have c1:=V1.out.cell 0 rfl
 have c2:=K1.out.cell 0 rfl
 have c3:=O1.out.cell 0 rfl
 go_wp2_with fail
 ·rename_i hc
  have hc:¬ e1=0:=by simpa using hc
  rw [if_pos hc] at HO
  go_ret2
  rw [HO.out]
  exact ⟨⟨_,rfl,own_nil _ _⟩,B1.out,_,N1.out,fun h=>absurd h hc⟩
 ·have hc:(e1 != 0)=false:=by assumption
  rw [if_neg (by simpa using hc)] at HO
  refine (CN.out _ ((HR.out.below B1.out).mono (Nat.le_trans hBw B1.out.size))).mono ?_
  rintro e' w2 ⟨⟨v,rfl,hown⟩,hb2⟩
  have B2:=Lib.hid (B1.out.trans (hb2.mono (Nat.le_trans hBw B1.out.size)))
  have N2:=Lib.hid (N1.out.below hb2 N1.out.lt)
  obtain ⟨A2,c2',rfl,hrow⟩:=OwnRow.read hown
  have ON:=Lib.hid hown
  clear hb2 CN c1 c2 c3 V1 K1 O1 hown hrow
  have c4:=N2.out.cell 0 rfl
  have c5:=N2.out.frozen 0
  go_wp2_with fail
  ·rename_i hc
   have hc:¬ e2=0:=by simpa using hc
   rw [if_pos hc] at HO
   go_ret2
   rw [HO.out]
   exact ⟨⟨_,rfl,own_nil _ _⟩,B2.out,_,N2.out,fun h=>absurd h hc⟩
  ·have hc:(e2 != 0)=false:=by assumption
   rw [if_neg (by simpa using hc)] at HO
   obtain ⟨W3,hW3⟩:∃ W3,w2.setCell ⟨nb,0,none⟩ (.int .i64 f)=W3:=⟨_,rfl⟩
   have hg3:w2.grownBy W3 (some nb):=hW3▸only_setCell (World.grownBy.refl w2 _) 0 _
   have N3:Hid (Blk W3 nb 3 #[.int .i64 f]):=hW3▸N2.out.set_ 0 _
   have B3:Hid (Below B w W3):=hW3▸B2.out.setCell (p:=⟨nb,0,none⟩) hB _
   have O3:OwnRow ys w1 (.slice A2 ys.length c2') W3:=World.ownsRow.kept ON.out hg3 (.inr (own_ne ON.out N2.out (by decide)).symm)
   obtain ⟨A3,c3',he3,hr3⟩:=OwnRow.read O3
   cases he3
   rw [hW3]
   refine (CA.out _ _ W3 hr3).mono ?_
   rintro e' w4 ⟨⟨v,rfl,hown⟩,hb4⟩
   have hz:=B3.out.size
   have ON4:=Lib.hid (own_low hown (show w.heap.size≤W3.heap.size by omega))
   have N4:=Lib.hid (N3.out.below hb4 N3.out.lt)
   have B4:=Lib.hid (B3.out.trans (hb4.mono (by omega)))
   clear hown hb4 hW3 hg3 hr3 O3 c4 c5
   go_wp2
   go_ret2
   rw [HO.out]
   exact ⟨⟨_,rfl,ON4.out⟩,B4.out,_,N4.out,fun _=>rfl⟩
set_option maxHeartbeats 4000000 in
theorem made_any (A:Option Addr) (c:Nat) (xs:List ByteArray) (p:ByteArray) (kind owner:Int) (w:World) (hx:xs.length≤1000000) (hp:p.size≤140737488355328) (h:RowAt w w.heap.size A (xs.map .string)) :
  Calls Tryz.prog 72 #[.slice A xs.length c,.string p,.int .i64 kind,.int .i64 owner] w (RowNumCode (madeO xs p kind owner) w):=by
 have HR:=Lib.hid h
 obtain ⟨W1,hW1⟩:∃ W1,((((w.alloc (Obj.cells #[.slice A xs.length c] 24)).alloc (Obj.cells #[.string p] 9)).alloc (.cells #[.int .i64 kind] 3)).alloc (.cells #[.int .i64 owner] 3)).alloc (.cells #[.int .i64 0] 3)=W1:=⟨_,rfl⟩
 obtain ⟨b1,v1,p1,k1,o1,n1⟩:=box5 _ _ _ _ _ _ _ _ _ _ _ _ hW1
 have HW1:=Lib.hid hW1
 have HO:Hid (madeO xs p kind owner=if (weighO xs (madeI xs p kind owner)).2≠0 then ([],0,(weighO xs (madeI xs p kind owner)).2) else ((weighO xs (madeI xs p kind owner)).1,(newO xs kind owner).2.1,0)):=by show _=_;rfl
 have HL:Hid ((madeI xs p kind owner).1.length≤1000000):=by
  show _≤_
  unfold madeI
  repeat' split
  all_goals first | exact Nat.zero_le _ | exact addO_le (newO_le hx _ _) _ _ _
 have HC:Hid ((weighO xs (madeI xs p kind owner)).2=0→(madeI xs p kind owner).2=0):=fun h=>by
  unfold weighO at h
  split at h
  ·exact h
  ·rename_i hh;simpa using hh
 have CW:=Lib.hid (made_cl w.heap.size (w.heap.size+1) (w.heap.size+1+1) (w.heap.size+1+1+1) (w.heap.size+1+1+1+1) A c xs p kind owner w.heap.size W1 hx hp (by omega) b1.size (h.below b1) v1 (p1.cell 0 rfl) k1 o1 n1)
 have WW:=Lib.hid (weighed_any A c xs 143 _ _ w.heap.size _ W1 hx HL.out (enters_of Tryz.func143 (by kernel_rfl) rfl) b1.size (h.below b1) (fun X Y hq hb=>hq.later hb) CW.out)
 have B1:=Lib.hid b1
 have c1:=v1.cell 0 rfl
 generalize madeO xs p kind owner=z at *
 generalize weighO xs (madeI xs p kind owner)=r at *
 generalize (madeI xs p kind owner).2=ec at *
 generalize (newO xs kind owner).2.1=f at *
 obtain ⟨rs,e⟩:=r
 dsimp only at *
 unfold Weigh at WW
 dsimp only at WW
 clear h hW1 b1 v1 p1 k1 o1 n1 CW
 go_enter Tryz.func72,Tryz.ntmps72
 go_wp2_with fail
 rw [HW1.out]
 refine WW.out.mono ?_
 rintro e' w2 ⟨⟨v,rfl,hown⟩,hb2,k,hk1,hk2⟩
 have B2:=Lib.hid (B1.out.trans (hb2.mono (Nat.le_refl _)))
 have K2:=Lib.hid hk1
 have HK2:=Lib.hid hk2
 have ON:=Lib.hid (OwnRow.base hown B1.out.size)
 have c2:=hk1.cell 0 rfl
 clear hb2 hk1 hk2 hown WW HW1 c1
 go_wp2_with fail
 ·rename_i hc
  have hc:¬ e=0:=by simpa using hc
  rw [if_pos hc] at HO
  go_ret3
  rw [HO.out]
  exact ⟨⟨_,rfl,own_nil _ _⟩,B2.out⟩
 ·have hc : e = 0 := by have h:(e != 0)=false:=by assumption
                        simpa using h
  rw [if_neg (by simpa using hc)] at HO
  have hkf:=HK2.out (HC.out hc)
  subst hkf
  have u1:∀ u:Ext w2,u.val.cell? ⟨w.heap.size+1+1+1+1,0,none⟩=some (.int .i64 k):=fun u=>u.cell (K2.out.cell 0 rfl)
  refine wp_region_ext (by kernel_rfl) (by kernel_rfl) ?_
  repeat (go_big_quiet_step (fail))
  refine wpQuiet_nil ?_
  rintro _ ⟨u,rfl⟩
  have ON3:=Lib.hid (OwnRow.keep ON.out u.below)
  have B3:=Lib.hid (B2.out.trans (u.below.mono B2.out.size))
  generalize u.val=w3 at *
  clear u1
  go_wp2
  go_ret3
  rw [HO.out]
  exact ⟨⟨_,rfl,ON3.out⟩,B3.out⟩
set_option maxHeartbeats 4000000 in
theorem create_any (A:Option Addr) (c:Nat) (xs:List ByteArray) (p:ByteArray) (owner:Int) (w:World) (hx:xs.length≤1000000) (hp:p.size≤140737488355328) (h:RowAt w w.heap.size A (xs.map .string)) :
  Calls Tryz.prog 26 #[.slice A xs.length c,.string p,.int .i64 owner] w (RowNumCode (madeO xs p 1 owner) w):=by
 have CM:=Lib.hid (made_any A c xs p 1 owner w hx hp h)
 generalize madeO xs p 1 owner=z at *
 obtain ⟨ys,n,e⟩:=z
 unfold RowNumCode at CM
 dsimp only at CM
 clear h
 go_enter Tryz.func26,Tryz.ntmps26
 go_wp2_with fail
 refine CM.out.mono ?_
 rintro e' w1 ⟨⟨v,rfl,hown⟩,hb1⟩
 have ON:=Lib.hid hown
 have B1:=Lib.hid hb1
 clear hown hb1 CM
 go_wp2
 go_ret3
 exact ⟨⟨_,rfl,ON.out⟩,B1.out⟩
set_option maxHeartbeats 4000000 in
theorem mkdir_any (A:Option Addr) (c:Nat) (xs:List ByteArray) (p:ByteArray) (owner:Int) (w:World) (hx:xs.length≤1000000) (hp:p.size≤140737488355328) (h:RowAt w w.heap.size A (xs.map .string)) :
  Calls Tryz.prog 32 #[.slice A xs.length c,.string p,.int .i64 owner] w (RowNumCode (madeO xs p 2 owner) w):=by
 have CM:=Lib.hid (made_any A c xs p 2 owner w hx hp h)
 generalize madeO xs p 2 owner=z at *
 obtain ⟨ys,n,e⟩:=z
 unfold RowNumCode at CM
 dsimp only at CM
 clear h
 go_enter Tryz.func32,Tryz.ntmps32
 go_wp2_with fail
 refine CM.out.mono ?_
 rintro e' w1 ⟨⟨v,rfl,hown⟩,hb1⟩
 have ON:=Lib.hid hown
 have B1:=Lib.hid hb1
 clear hown hb1 CM
 go_wp2
 go_ret3
 exact ⟨⟨_,rfl,ON.out⟩,B1.out⟩
theorem NewRow.read {ys:List ByteArray} {w w':World} {v:Value} (h:NewRow ys w v w'):∃ A,v=.slice A ys.length ys.length∧RowAt w' w'.heap.size A (ys.map .string):=by
 obtain ⟨g,rfl,hg,hb⟩:=h
 refine ⟨_,rfl,.inr ⟨g,0,rfl,hb.lt,fun j u hu=>?_⟩⟩
 rw [Nat.zero_add]
 exact hb.cell j (by simpa using hu)
set_option maxHeartbeats 4000000 in
theorem make_any (b m:Int) (w:World) (hl:planE b m=0→(fmtV b.toNat m.toNat).length≤1000000):Calls Tryz.prog 25 #[.int .i64 b,.int .i64 m] w (RowCode (makeO b m).1 (makeO b m).2 w):=by
 have CF:=Lib.hid (format_any b m w)
 have HO:Hid (makeO b m=if planE b m≠0 then ([],planE b m) else ((newO (fmtV b.toNat m.toNat) 2 0).1,(newO (fmtV b.toNat m.toNat) 2 0).2.2)):=by show _=_;rfl
 unfold FmtPost at CF
 generalize makeO b m=z at *
 generalize planE b m=e at *
 generalize fmtV b.toNat m.toNat=ys at *
 by_cases he:e=0
 ·subst he
  have HL:=Lib.hid (hl rfl)
  rw [if_neg (by simp)] at HO
  simp only [if_true] at CF
  have CN:=Lib.hid (fun A c w h=>new_ino A c ys 2 0 w HL.out h)
  generalize newO ys 2 0=no at *
  obtain ⟨zs,f,e2⟩:=no
  unfold RowNumCode at CN
  dsimp only at CN HO
  clear hl
  go_enter Tryz.func25,Tryz.ntmps25
  go_wp2_with fail
  refine CF.out.mono ?_
  rintro e' w1 ⟨hb1,v,rfl,hn⟩
  have B1:=Lib.hid hb1
  obtain ⟨A1,rfl,hrow⟩:=NewRow.read hn
  have R1:=Lib.hid hrow
  clear hb1 hn hrow CF
  go_wp2_with fail
  refine (CN.out _ _ _ R1.out).mono ?_
  rintro e' w2 ⟨⟨v,rfl,hown⟩,hb2⟩
  have ON:=Lib.hid (OwnRow.base hown B1.out.size)
  have B2:=Lib.hid (B1.out.trans (hb2.mono B1.out.size))
  clear hown hb2 CN
  go_wp2
  go_ret2
  rw [HO.out]
  exact ⟨⟨_,rfl,ON.out⟩,B2.out⟩
 ·rw [if_pos he] at HO
  simp only [if_neg he] at CF
  have he':(e != 0)=true:=by simpa using he
  clear hl
  go_enter Tryz.func25,Tryz.ntmps25
  go_wp2_with fail
  refine CF.out.mono ?_
  rintro e' w1 ⟨hb1,rfl⟩
  have B1:=Lib.hid hb1
  clear hb1 CF
  go_wp2
  go_ret2
  rw [HO.out]
  exact ⟨⟨_,rfl,own_nil _ _⟩,B1.out⟩
theorem row_keep {w w':World} {B:Nat} {A:Option Addr} {xs:List Value} (h:RowAt w B A xs) (hb:Below B w w') (hB:B≤w'.heap.size):RowAt w' w'.heap.size A xs:=(h.below hb).mono hB
theorem fof_all:∀ i,i<12→∃ j:Fin 12,fof j=i:=by decide
theorem getR_lt (xs:List ByteArray) (n:Int):∀ z ∈ getR xs n,z<4294967296:=by
 have key:FitN (getR xs n):=by
  unfold getR
  split
  ·exact inoR_fit _ _
  ·refine ⟨rfl,fun i=>?_⟩
   rw [List.getD_eq_getElem?_getD,List.getElem?_replicate]
   split <;> exact Nat.pow_pos (by decide)
 intro z hz
 obtain ⟨i,hi,rfl⟩:=List.mem_iff_getElem.1 hz
 have h12:=key.1
 obtain ⟨j,hj⟩:∃ j:Fin 12,fof j=i:=by
  exact fof_all i (by omega)
 have:=key.2 j
 rw [hj,List.getD_eq_getElem?_getD,List.getElem?_eq_getElem hi,Option.getD_some] at this
 have h4:256 ^ fsz j≤256 ^ 4:=Nat.pow_le_pow_right (by decide) (fsz_le j)
 omega
theorem ints_lt {l:List Nat} (h:∀ z ∈ l,z<4294967296) {v:Nat} (hv:v≤4294967296):∀ z ∈ intsL (l.set 1 v),-9223372036854775808≤z∧z≤9223372036854775807:=by
 intro z hz
 unfold intsL at hz
 obtain ⟨k,hk,rfl⟩:=List.mem_map.1 hz
 rcases List.mem_or_eq_of_mem_set hk with a | a
 ·have:=h k a;omega
 ·omega
set_option maxHeartbeats 4000000 in
theorem link_cl (vb pb qb:Nat) (A:Option Addr) (c:Nat) (xs:List ByteArray) (p q:ByteArray) (w:World) (hx:xs.length≤1000000) (hp:p.size≤140737488355328) (hq:q.size≤140737488355328)
  (h:RowAt w w.heap.size A (xs.map .string)) (h1:Blk w vb 24 #[.slice A xs.length c]) (h2:Blk w pb 9 #[.string p]) (h3:Blk w qb 9 #[.string q]) :
  Calls Tryz.prog 85 #[.pointer (some ⟨vb,0,none⟩),.pointer (some ⟨pb,0,none⟩),.pointer (some ⟨qb,0,none⟩)] w (RowCode (linkI xs p q).1 (linkI xs p q).2 w):=by
 have HR:=Lib.hid h
 have V0:=Lib.hid h1
 have Q0:=Lib.hid h3
 have CP:=Lib.hid (path_any A c xs p w hx h)
 have CV:=Lib.hid (fun w h=>vacant_any A c xs q w hx h)
 have HO:Hid (linkI xs p q=if (pathO xs p.data.toList).2≠0 then ([],(pathO xs p.data.toList).2)
 else if inoE xs (pathO xs p.data.toList).1≠0 then ([],inoE xs (pathO xs p.data.toList).1)
 else if (getR xs (pathO xs p.data.toList).1).getD 0 0≠1 then ([],11)
 else if (vacO xs q).2.2≠0 then ([],(vacO xs q).2.2)
 else if 65535≤(getR xs (pathO xs p.data.toList).1).getD 1 0 then ([],6)
 else if (addO xs (vacO xs q).1 (vacO xs q).2.1 (pathO xs p.data.toList).1).2≠0 then ([],(addO xs (vacO xs q).1 (vacO xs q).2.1 (pathO xs p.data.toList).1).2)
 else putO (addO xs (vacO xs q).1 (vacO xs q).2.1 (pathO xs p.data.toList).1).1 (pathO xs p.data.toList).1 (intsL ((getR xs (pathO xs p.data.toList).1).set 1 ((getR xs (pathO xs p.data.toList).1).getD 1 0+1)))):=by show _=_;rfl
 obtain ⟨pn,e1,hpn⟩:∃ a b,pathO xs p.data.toList=(a,b):=⟨_,_,rfl⟩
 have CG:=Lib.hid (fun w h=>get_ino A c xs pn w hx h)
 obtain ⟨a0,a1,a2,a3,a4,a5,a6,a7,a8,a9,a10,a11,hg⟩:=len12 (getR_len xs pn)
 have CA:=Lib.hid (fun w h=>add_any A c xs (vacO xs q).1 (vacO xs q).2.1 pn w hx (vac_last xs q hq) h)
 have HL:=Lib.hid (addO_le hx (vacO xs q).1 (vacO xs q).2.1 pn)
 rw [hpn] at CP HO
 dsimp only at HO
 rw [hg] at CG HO
 unfold inoC at CG
 simp only [List.map_cons,List.map_nil,List.getD_cons_zero,List.getD_cons_succ,List.set_cons_zero,List.set_cons_succ] at CG HO
 generalize inoE xs pn=e2 at *
 have LR:Hid (∀ z ∈ intsL [a0,a1+1,a2,a3,a4,a5,a6,a7,a8,a9,a10,a11],-9223372036854775808≤z∧z≤9223372036854775807):=by
  have hz:=getR_lt xs pn
  rw [hg] at hz
  exact ints_lt hz (v:=a1+1) (by have:=hz a1 (by simp);omega)
 obtain ⟨d,pl,e3,hv⟩:∃ a b c,vacO xs q=(a,b,c):=⟨_,_,_,rfl⟩
 rw [hv] at CV CA HL HO
 dsimp only at CA HL HO
 obtain ⟨ys,e4,ha⟩:∃ a b,addO xs d pl pn=(a,b):=⟨_,_,rfl⟩
 rw [ha] at CA HL HO
 unfold VacPost at CV
 unfold RowCode at CA
 dsimp only at CP CV CA HL HO
 generalize linkI xs p q=z at *
 have c1:=h1.cell 0 rfl
 have c2:=h2.cell 0 rfl
 clear h h1 h2 h3 hpn hg hv ha hx hp
 go_enter Tryz.func85,Tryz.ntmps85
 go_wp2_with fail
 refine CP.out.mono ?_
 rintro e' w1 ⟨rfl,hb1⟩
 have B1:=Lib.hid hb1
 have V1:=Lib.hid (V0.out.below hb1 V0.out.lt)
 have Q1:=Lib.hid (Q0.out.below hb1 Q0.out.lt)
 clear hb1 CP c1 c2 V0 Q0
 have c1:=V1.out.cell 0 rfl
 go_wp2_with fail
 ·rename_i hc
  go_ret2
  rw [HO.out,if_pos (by simpa using hc)]
  exact ⟨⟨_,rfl,own_nil _ _⟩,B1.out⟩
 have hc:(e1 != 0)=false:=by assumption
 rw [if_neg (by simpa using hc)] at HO
 clear hc
 refine (CG.out _ (row_keep HR.out B1.out B1.out.size)).mono ?_
 rintro e' w2 ⟨rfl,hb2⟩
 have B2:=Lib.hid (B1.out.trans (hb2.mono B1.out.size))
 have V2:=Lib.hid (V1.out.below hb2 V1.out.lt)
 have Q2:=Lib.hid (Q1.out.below hb2 Q1.out.lt)
 obtain ⟨W3,hW3⟩:∃ W3,w2.alloc (.cells #[.int .i64 a0,.int .i64 a1,.int .i64 a2,.int .i64 a3,.int .i64 a4,.int .i64 a5,.int .i64 a6,.int .i64 a7,.int .i64 a8,.int .i64 a9,.int .i64 a10,.int .i64 a11] 39)=W3:=⟨_,rfl⟩
 have B3:Hid (Below w.heap.size w W3):=hW3▸B2.out.alloc B2.out.size _
 have V3:Hid (Blk W3 vb _ _):=hW3▸V2.out.alloc _
 have Q3:Hid (Blk W3 qb _ _):=hW3▸Q2.out.alloc _
 have X3:Hid (Blk W3 w2.heap.size 39 #[.int .i64 a0,.int .i64 a1,.int .i64 a2,.int .i64 a3,.int .i64 a4,.int .i64 a5,.int .i64 a6,.int .i64 a7,.int .i64 a8,.int .i64 a9,.int .i64 a10,.int .i64 a11]):=hW3▸Blk.new w2 _ _
 have v3:=V3.out.cell 0 rfl
 have q3:=Q3.out.cell 0 rfl
 rw [← hW3] at v3 q3
 have HW3:=Lib.hid hW3
 have F3:Hid (w.heap.size≤w2.heap.size):=B2.out.size
 clear hb2 CG c1 V1 Q1 V2 Q2 hW3
 go_wp2_with fail
 ·rename_i hc
  rw [HW3.out]
  go_ret2
  rw [HO.out,if_pos (by simpa using hc)]
  exact ⟨⟨_,rfl,own_nil _ _⟩,B3.out⟩
 ·rename_i hb hc
  rw [HW3.out]
  go_ret2
  have hb:(e2 != 0)=false:=by assumption
  rw [HO.out,if_neg (by simpa using hb),if_pos (by intro e;rw [e] at hc;exact absurd hc (by decide))]
  exact ⟨⟨_,rfl,own_nil _ _⟩,B3.out⟩
 have hb:(e2 != 0)=false:=by assumption
 have hc:((a0:Int) != 1)=false:=by assumption
 have h1 : a0 = 1 := by have:(a0:Int)=1:=by simpa using hc
                        omega
 subst h1
 rw [if_neg (by simpa using hb),if_neg (by simp)] at HO
 clear hb hc v3 q3
 rw [HW3.out]
 clear HW3
 refine (CV.out _ (row_keep HR.out B3.out B3.out.size)).mono ?_
 rintro e' w4 ⟨rfl,hb4⟩
 have B4:=Lib.hid (B3.out.trans (hb4.mono B3.out.size))
 have V4:=Lib.hid (V3.out.below hb4 V3.out.lt)
 have X4:=Lib.hid (X3.out.below hb4 X3.out.lt)
 clear hb4 CV V3 Q3 X3
 have x1:=X4.out.cell 1 rfl
 have v4:=V4.out.cell 0 rfl
 by_cases h3:e3=0
 case neg=>
  have h3':(e3 != 0)=true:=by simpa using h3
  rw [if_pos h3] at HO
  go_wp2
  go_ret2
  rw [HO.out]
  exact ⟨⟨_,rfl,own_nil _ _⟩,B4.out⟩
 subst h3
 rw [if_neg (by simp)] at HO
 by_cases h2:65535≤a1
 case pos=>
  rw [if_pos h2] at HO
  have h2':decide ((65535:Int)≤(a1:Int))=true:=decide_eq_true (by omega)
  go_wp2
  go_ret2
  rw [HO.out]
  exact ⟨⟨_,rfl,own_nil _ _⟩,B4.out⟩
 rw [if_neg h2] at HO
 have h2':decide ((65535:Int)≤(a1:Int))=false:=decide_eq_false (by omega)
 have s1:IntKind.i64.wrap ((a1:Int)+1)=(a1:Int)+1:=IntWalk.i64_in _ (by omega)
 clear h2
 go_wp2_with fail
 refine (CA.out _ (row_keep HR.out B4.out B4.out.size)).mono ?_
 rintro e' w5 ⟨⟨v,rfl,hown⟩,hb5⟩
 have B5:=Lib.hid (B4.out.trans (hb5.mono B4.out.size))
 have X5:=Lib.hid (X4.out.below hb5 X4.out.lt)
 obtain ⟨A5,c5,rfl,hrow⟩:=OwnRow.read hown
 have ON:=Lib.hid hown
 clear hb5 CA x1 v4 V4 X4 hown hrow
 have x5:=X5.out.cell 1 rfl
 have f5:=X5.out.frozen 1
 have X6:Hid (Blk (w5.setCell ⟨w2.heap.size,1,none⟩ (.int .i64 ((a1:Int)+1))) w2.heap.size 39 #[.int .i64 (1:Nat),.int .i64 ((a1:Int)+1),.int .i64 a2,.int .i64 a3,.int .i64 a4,.int .i64 a5,.int .i64 a6,.int .i64 a7,.int .i64 a8,.int .i64 a9,.int .i64 a10,.int .i64 a11]):=X5.out.set_ 1 _
 have O6:Hid (OwnRow ys w4 (.slice A5 ys.length c5) (w5.setCell ⟨w2.heap.size,1,none⟩ (.int .i64 ((a1:Int)+1)))):=World.ownsRow.kept ON.out (only_setCell (World.grownBy.refl w5 _) 1 _) (.inr (own_ne ON.out X5.out (by decide)).symm)
 have B6:Hid (Below w.heap.size w (w5.setCell ⟨w2.heap.size,1,none⟩ (.int .i64 ((a1:Int)+1)))):=B5.out.setCell (p:=⟨w2.heap.size,1,none⟩) F3.out _
 go_wp2_with first
  | fail
  | (refine load_blk 39 (.tmp 7) w2.heap.size 39 #[.int .i64 (1:Nat),.int .i64 ((a1:Int)+1),.int .i64 a2,.int .i64 a3,.int .i64 a4,.int .i64 a5,.int .i64 a6,.int .i64 a7,.int .i64 a8,.int .i64 a9,.int .i64 a10,.int .i64 a11] _ rfl rfl rfl X6.out Tryz.underlying39 rfl (by kernel_rfl) ?_;go_frame)
 ·rename_i hc
  go_ret2
  rw [HO.out,if_pos (by simpa using hc)]
  exact ⟨⟨_,rfl,own_nil _ _⟩,B5.out⟩
 have hc:(e4 != 0)=false:=by assumption
 rw [if_neg (by simpa using hc)] at HO
 obtain ⟨A6,c6,he6,hr6⟩:=OwnRow.read O6.out
 cases he6
 have CU:=Lib.hid (put_ino A5 c5 ys pn (intsL [1,a1+1,a2,a3,a4,a5,a6,a7,a8,a9,a10,a11]) _ HL.out hr6 rfl LR.out)
 generalize putO ys pn (intsL [1,a1+1,a2,a3,a4,a5,a6,a7,a8,a9,a10,a11])=r at *
 obtain ⟨zs,e5⟩:=r
 unfold RowCode at CU
 dsimp only at CU
 refine CU.out.mono ?_
 rintro e' w7 ⟨⟨v,rfl,hown⟩,hb7⟩
 have hz:=B6.out.size
 have ON7:=Lib.hid (own_low hown hz)
 have B7:=Lib.hid (B6.out.trans (hb7.mono hz))
 clear hown hb7 CU X6 O6 B6 x5 f5
 go_wp2
 go_ret2
 rw [HO.out]
 exact ⟨⟨_,rfl,ON7.out⟩,B7.out⟩
theorem linkI_le {xs:List ByteArray} (h:xs.length≤1000000) (p q:ByteArray):(linkI xs p q).1.length≤1000000:=by
 unfold linkI
 repeat' split
 all_goals first | exact Nat.zero_le _ | exact putO_le (addO_le h _ _ _) _ _
set_option maxHeartbeats 4000000 in
theorem link_any (A:Option Addr) (c:Nat) (xs:List ByteArray) (p q:ByteArray) (w:World) (hx:xs.length≤1000000) (hp:p.size≤140737488355328) (hq:q.size≤140737488355328) (h:RowAt w w.heap.size A (xs.map .string)) :
  Calls Tryz.prog 33 #[.slice A xs.length c,.string p,.string q] w (RowCode (linkO xs p q).1 (linkO xs p q).2 w):=by
 obtain ⟨W1,hW1⟩:∃ W1,((w.alloc (Obj.cells #[.slice A xs.length c] 24)).alloc (.cells #[.string p] 9)).alloc (.cells #[.string q] 9)=W1:=⟨_,rfl⟩
 obtain ⟨b1,v1,p1,q1⟩:=box3 _ _ _ _ _ _ _ _ hW1
 have HW1:=Lib.hid hW1
 have HR:=Lib.hid h
 have B1:=Lib.hid b1
 have V1:=Lib.hid v1
 have P1:=Lib.hid p1
 have Q1:=Lib.hid q1
 have CM:=Lib.hid (mayp_any p)
 have CQ:=Lib.hid (mayp_any q)
 have HO:Hid (linkO xs p q=if mayP p.data.toList=false∨mayP q.data.toList=false then ([],7) else weighO xs (linkI xs p q)):=by show _=_;rfl
 have WW:Hid (∀ w2,Below w.heap.size w w2→Blk w2 w.heap.size _ _→Blk w2 (w.heap.size+1) _ _→Blk w2 (w.heap.size+1+1) _ _→Calls Tryz.prog 44 #[.slice A xs.length c,.func (.func 85) #[] #[.pointer (some ⟨w.heap.size,0,none⟩),.pointer (some ⟨w.heap.size+1,0,none⟩),.pointer (some ⟨w.heap.size+1+1,0,none⟩)]] w2 (Weigh (weighO xs (linkI xs p q)) w2.heap.size (fun _=>True) w2)):=fun w2 hb a b d=>
  weighed_any A c xs 85 _ _ w2.heap.size (fun _=>True) w2 hx (linkI_le hx p q) (enters_of Tryz.func85 (by kernel_rfl) rfl) (Nat.le_refl _) (row_keep h hb hb.size) (fun _ _ _ _=>trivial) ((link_cl _ _ _ A c xs p q w2 hx hp hq (row_keep h hb hb.size) a b d).mono fun _ _ h=>Weigh.of_row h)
 have c1:=v1.cell 0 rfl
 have c2:=p1.cell 0 rfl
 have c3:=q1.cell 0 rfl
 generalize linkO xs p q=z at *
 generalize weighO xs (linkI xs p q)=r at *
 clear h hW1 b1 v1 p1 q1
 generalize hmp:mayP p.data.toList=mp at *
 generalize hmq:mayP q.data.toList=mq at *
 clear hmp hmq
 go_enter Tryz.func33,Tryz.ntmps33
 go_wp2_with fail
 rw [HW1.out]
 refine (CM.out _).mono ?_
 rintro e' w2 ⟨rfl,hb2⟩
 have B2:=Lib.hid (B1.out.trans (hb2.mono B1.out.size))
 have V2:=Lib.hid (V1.out.below hb2 V1.out.lt)
 have P2:=Lib.hid (P1.out.below hb2 P1.out.lt)
 have Q2:=Lib.hid (Q1.out.below hb2 Q1.out.lt)
 clear hb2 CM c1 c2 c3 V1 P1 Q1 HW1
 have c1:=V2.out.cell 0 rfl
 have c3:=Q2.out.cell 0 rfl
 cases mp with
 | false=>
  rw [if_pos (.inl rfl)] at HO
  go_wp2
  go_ret2
  rw [HO.out]
  exact ⟨⟨_,rfl,own_nil _ _⟩,B2.out⟩
 | true=>
  go_wp2_with fail
  refine (CQ.out _).mono ?_
  rintro e' w3 ⟨rfl,hb3⟩
  have B3:=Lib.hid (B2.out.trans (hb3.mono B2.out.size))
  have V3:=Lib.hid (V2.out.below hb3 V2.out.lt)
  have P3:=Lib.hid (P2.out.below hb3 P2.out.lt)
  have Q3:=Lib.hid (Q2.out.below hb3 Q2.out.lt)
  clear hb3 CQ c1 c3 V2 P2 Q2
  have c1:=V3.out.cell 0 rfl
  cases mq with
  | false=>
   rw [if_pos (.inr rfl)] at HO
   go_wp2
   go_ret2
   rw [HO.out]
   exact ⟨⟨_,rfl,own_nil _ _⟩,B3.out⟩
  | true=>
   rw [if_neg (by simp)] at HO
   go_wp2_with fail
   refine (WW.out _ B3.out V3.out P3.out Q3.out).mono ?_
   rw [← HO.out]
   rintro e' w4 ⟨⟨v,rfl,hown⟩,hb4,_⟩
   have ON:=Lib.hid (own_low hown B3.out.size)
   have B4:=Lib.hid (B3.out.trans (hb4.mono B3.out.size))
   clear hown hb4
   go_wp2
   go_ret2
   exact ⟨⟨_,rfl,ON.out⟩,B4.out⟩
def OwnAtts (l:List AttV) (w:World) (v:Value) (w':World):Prop:=w'.ownsRow w.heap.size 104 2 v l.length (attC l)
theorem own_atts {w':World} {base n:Nat} {v:Value} {l:List AttV} (h:w'.ownsRow base 104 2 v n (attC l)) (hn:l.length=n):∃ A c,v=.slice A n c∧RowAt w' w'.heap.size A (attC l):=by
 obtain ⟨h1,h3⟩:=h
 rcases h3 with ⟨hv,hn2⟩ | ⟨g,cap,cur,hv,hg,hh,hnc,hm,hsz,ht⟩
 ·refine ⟨none,0,by rw [hv,hn2],?_⟩
  have:l=[]:=List.eq_nil_of_length_eq_zero (by omega)
  subst this
  exact RowAt.nil
 ·subst hv
  exact ⟨_,_,rfl,RowAt.of_own_k ⟨h1,.inr ⟨g,cap,cur,rfl,hg,hh,hnc,hm,hsz,ht⟩⟩⟩
def AttPost (l:List AttV) (w:World) (e:Ending) (w':World):Prop:=(∃ v,e=.returned (.tuple #[v,.bool true])∧OwnAtts l w v w')∧Below w.heap.size w w'
theorem att_info:(Tryz.prog.info? 104).map (fun i=>(i.zero,i.size,i.bytes))=some (some (.agg #[.string ⟨#[]⟩,.string ⟨#[]⟩]),2,32):=by kernel_rfl
theorem attC_snoc {l:List AttV} {k:Nat} (hk:k<l.length):attC (l.take k)++[.string l[k].name,.string l[k].value]=attC (l.take (k+1)):=by
 rw [List.take_succ_eq_append_getElem hk,attC_app]
 rfl
theorem step_append_own {P:Program} {ops:Array Oper} {o:Oper} {a:Act} {w:World} {K:Act→World→Prop} {Q:Exit→Act→World→Prop} {E:Prop}
  (hg:o.guard=none) (s x:Operand) (t:TypeId) (hop:o.op=Op.call { callee:=Callee.builtin Builtin.append,args:=#[s,x],argTypes:=#[t,t] }) (base:Nat)
  (e:TypeId) (i:TypeInfo) (z:Value) (size bytes:Nat) (h1:P.underlying t=some (.slice e)) (h2:P.info? e=some i) (h3:i.zero=some z) (h4:i.size=size) (h5:i.bytes=bytes) (h6:z.cells.size=size) (h7:0<size)
  (v:Value) (n:Nat) (olds:List Value) (hs:a.eval s=v) (hown:w.ownsRow base e size v n olds)
  (ad:Addr) (m c:Nat) (news:List Value) (hx:a.eval x=.slice (some ad) m c) (hn:news.length=m * size) (hc:∀ j u,news[j]?=some u→w.cell? (ad.add j)=some u) (h1c:∀ u ∈ news,u.oneCell'=true)
  (b1:n+m≤maxLen) (b2:(n+m) * bytes≤140737488355328) (hB:base≤w.heap.size)
  (hK:∀ v' w',w'.ownsRow base e size v' (n+m) (olds++news)→w.grownBy w' v.ownBlock→K (a.put o.dst v') w') :
  if Region.wanted o (yielded ops a.tmps)=true then Oper.wp P o a w K Q else E:=by
 have hw:Region.wanted o (yielded ops a.tmps)=true:=by simp [Region.wanted,hg]
 rw [if_pos hw]
 obtain ⟨v',w',hrun,r1,r2,_⟩:=run_append_own (P:=P) (w:=w) base t o.type e i z size bytes h1 h2 h3 h4 h5 h6 h7 v n olds hown ad m c news hn hc h1c b1 b2 hB
 unfold Oper.wp
 simp [execOp,hop,resolve,invoke,builtin,hs,hx,hrun,Result.andThen]
 exact hK v' w' r1 r2
theorem lt126 {R:Nat} (h:R≤126):¬ (126:Int)<(R:Int):=by omega
set_option maxHeartbeats 8000000 in
theorem attributes_any (s:ByteArray) (l:List AttV) (w:World) (hs:s.data.toList=blockL (rowA l)) (hv:ValidA l) (hne:l≠[]) :
  Calls Tryz.prog 117 #[.string s] w (AttPost l w):=by
 obtain ⟨i0,q1,q2,q3,q4⟩:=info_parts att_info
 have I0:=Lib.hid (And.intro q1 (And.intro q2 (And.intro q3 q4)))
 have hsh:=hv.short
 have hsz:s.size=128:=by rw [← dsize,hs,blockL_len hsh]
 have hll:=hv.small
 have hlp:=List.length_pos_iff.2 hne
 obtain ⟨R,hR⟩:∃ R,(rowA l).length=R:=⟨_,rfl⟩
 have hR126:R≤126:=hR▸hsh
 obtain ⟨p,hp⟩:∃ p,s.extract 0 2=p:=⟨_,rfl⟩
 have hpl:p.data.toList=putL R 2:=by
  rw [← hp,ext_list,hs,List.drop_zero]
  unfold blockL
  rw [hR,List.append_assoc,List.take_left' (by rw [putL_length])]
 obtain ⟨r,hr⟩:∃ r,s.extract 2 (2+R)=r:=⟨_,rfl⟩
 have hrl:r.data.toList=rowA l:=by
  rw [← hr,ext_list,hs,show 2+R-2=R by omega]
  unfold blockL
  rw [List.append_assoc,List.drop_left' (by rw [putL_length]),List.take_left' hR]
 have hrs:r.size=R:=by rw [← dsize,hrl,hR]
 have CG:Hid (∀ w,Calls Tryz.prog 52 #[.string p] w fun e w'=>e=.returned (.int .u64 (R:Int))∧w=w'):=fun w=>by
  have h:=get_any p w (by rw [← dsize,hpl,putL_length];decide)
  rw [hpl,List.take_of_length_le (by rw [putL_length];decide),leN_putL,Nat.mod_eq_of_lt (by omega)] at h
  exact h
 have CT:=Lib.hid (fun w=>texts_any r (textsA l) w hrl (by rw [textsA_len];omega) (fun t ht=>by have:=hv.texts t ht;omega))
 have CB:Hid (∀ w,Calls Tryz.prog 182 #[.string r] w fun e w'=>e=.returned (.string s)∧Below w.heap.size w w'):=fun w=>by
  have h:=ablock_any r w (by omega)
  rw [hrl,← hs] at h
  have e:(⟨s.data.toList.toArray⟩:ByteArray)=s:=WideShapes.bytes_inj rfl
  rw [e] at h
  exact h
 have CM:Hid (∀ (k:Nat) (hk:k<l.length) w,Calls Tryz.prog 109 #[.string l[k].name] w fun e w'=>e=.returned (.bool true)∧Below w.heap.size w w'):=fun k hk w=>by
  have h1:=hv.texts l[k].name (by
   unfold textsA
   exact List.mem_flatMap.2 ⟨l[k],List.getElem_mem hk,by simp⟩)
  have h:=amay_any l[k].name w (by omega)
  rw [hv.ok _ (List.getElem_mem hk)] at h
  exact h
 have HRI:Hid (∀ j k (hj:j<k) (hk:k<l.length),Op.bytesLess l[j].name.toList l[k].name.toList=true):=fun j k hj hk=>
  (less_walk _ _).trans (List.pairwise_iff_getElem.1 hv.rise j k (by omega) hk hj)
 have HT:Hid (∀ k (hk:k<l.length),((textsA l).map Value.string)[2 * k]?=some (.string l[k].name)∧((textsA l).map Value.string)[2 * k+1]?=some (.string l[k].value)):=fun k hk=>by
  have:=textsA_get hk
  rw [List.getElem?_map,List.getElem?_map,this.1,this.2]
  exact ⟨rfl,rfl⟩
 obtain ⟨N,hN⟩:∃ N,(textsA l).length=N:=⟨_,rfl⟩
 have hN2:N=2 * l.length:=by rw [← hN,textsA_len]
 unfold RowCode at CT
 have HLL:Hid (l.length≤63):=hll
 have i2:(2:Int)≤(s.size:Int):=by omega
 have i3:(2:Int)+(R:Int)≤(s.size:Int):=by omega
 have i4:(2:Int)≤(2:Int)+(R:Int):=by omega
 have i5:((2:Int)+(R:Int)).toNat=2+R:=by omega
 have i6:IntKind.i64.wrap ((2:Int)+(R:Int))=(2:Int)+(R:Int):=IntWalk.i64_in _ (by omega)
 have i7:IntKind.i64.wrap (R:Int)=(R:Int):=IntWalk.i64_in _ (by omega)
 have i7':wrap64 (R:Int)=(R:Int):=by unfold wrap64;omega
 have i8:=lt126 hR126
 have n0:((N:Int) == 0)=false:=by simpa using (by omega:¬ (N:Int)=0)
 have n1:((N:Int).tmod 2)=0:=by rw [Int.tmod_eq_emod_of_nonneg (by omega)];omega
 have e5:=str_eq s
 have HN2:=Lib.hid hN2
 have HN3:=Lib.hid hN
 clear hs hv hne hsh hR126 hsz hll hlp hR hpl hrl hrs hN hN2 q1 q2 q3 q4
 go_enter Tryz.func117,Tryz.ntmps117
 go_wp2_with fail
 refine (CG.out _).mono ?_
 rintro e' w1 ⟨rfl,rfl⟩
 clear CG
 go_wp2_with fail
 refine (CT.out _).mono ?_
 rintro e' w2 ⟨⟨v,rfl,hown⟩,hb2⟩
 obtain ⟨A,c,rfl,hrow⟩:=OwnRow.read hown
 rw [HN3.out]
 have R2:=Lib.hid hrow
 have B2:=Lib.hid hb2
 clear hown hb2 hrow CT
 go_wp2_with fail
 refine (CB.out _).mono ?_
 rintro e' w3 ⟨rfl,hb3⟩
 have R3:=Lib.hid (row_keep R2.out hb3 hb3.size)
 have B3:=Lib.hid (B2.out.trans (hb3.mono B2.out.size))
 clear hb3 CB R2 B2
 have O0:Hid (w3.ownsRow w3.heap.size 104 2 (.slice none 0 0) 0 (attC (l.take 0))):=World.ownsRow_nil _ _ _ _
 have HBL:=Lib.hid (Below.refl w3.heap.size w3)
 go_wp2
 go_loopw [8,9] (fun v t wr=>∃ (k i:Nat),k≤l.length∧t=.int .i64 (i:Int)∧Hid (i=2 * k)∧Hid (wr.ownsRow w3.heap.size 104 2 v k (attC (l.take k)))∧Hid (Below w3.heap.size w3 wr)) (fun _ t _=>N-(intOf t).toNat)
 case atStart=>exact ⟨0,0,Nat.zero_le _,rfl,rfl,O0,HBL⟩
 case round=>
  clear O0 HBL
  obtain ⟨k,i,hk,rfl,HI,O,B⟩:=hrel
  have hi:=HI.out
  have hn:=HN2.out
  by_cases hlt:k<l.length
  ·have hll:=HLL.out
   have hiN:i<N:=by omega
   have c0:(i:Int)<(N:Int):=by omega
   have c1:(0:Int)≤(i:Int):=by omega
   obtain ⟨b,o,rfl,hb,hc⟩:=RowAt.at_ R3.out (by rw [List.length_map,HN3.out];omega)
   obtain ⟨i1,hi1⟩:∃ i1,i1=i+1:=⟨_,rfl⟩
   obtain ⟨i2n,hi2⟩:∃ i2,i2=i+2:=⟨_,rfl⟩
   have c2:IntKind.i64.wrap ((i:Int)+1)=(i1:Int):=by rw [hi1];exact IntWalk.i64_in _ (by omega)
   have c3:(i1:Int)<(N:Int):=by omega
   have c4:(0:Int)≤(i1:Int):=by omega
   have c5:IntKind.i64.wrap ((i:Int)+2)=(i2n:Int):=by rw [hi2];exact IntWalk.i64_in _ (by omega)
   have HC0:Hid (∀ w',Below w3.heap.size w3 w'→w'.cell? ⟨b,o+i,none⟩=some (.string l[k].name)):=fun w' h=>
    (h.cell (p:=⟨b,o+i,none⟩) hb).trans (hc i _ (by rw [hi];exact (HT.out k hlt).1))
   have HC1:Hid (∀ w',Below w3.heap.size w3 w'→w'.cell? ⟨b,o+i1,none⟩=some (.string l[k].value)):=fun w' h=>
    (h.cell (p:=⟨b,o+i1,none⟩) hb).trans (hc i1 _ (by rw [hi1,hi];exact (HT.out k hlt).2))
   have CMk:=Lib.hid (CM.out k hlt)
   have HEN:=Lib.hid (attC_snoc hlt)
   have HI2:Hid (Hid (i2n=2 * (k+1))):=by show i2n=_;omega
   have HM7:Hid (k+1≤maxLen):=by show _≤_;unfold maxLen;omega
   have HY7:Hid ((k+1) * 32≤140737488355328):=by show _≤_;omega
   have HP:Hid (∀ j (hj:j<k),∃ pn,(∀ w',Below w3.heap.size w3 w'→w'.cell? ⟨b,o+2 * j,none⟩=some (.string pn))∧Op.bytesLess pn.toList l[k].name.toList=true):=fun j hj=>
    ⟨_,fun w' h=>(h.cell (p:=⟨b,o+2 * j,none⟩) hb).trans (hc (2 * j) _ (HT.out j (by omega)).1),HRI.out j k hj hlt⟩
   generalize l[k]=x at *
   obtain ⟨nm,vl⟩:=x
   dsimp only at HC0 HC1 CMk HEN HP
   have H17:Hid (∀ u ∈ [Value.string nm,Value.string vl],u.oneCell'=true):=fun u hu=>by
    rcases List.mem_cons.1 hu with rfl | hu
    ·rfl
    ·rcases List.mem_cons.1 hu with rfl | hu
     ·rfl
     ·cases hu
   clear hc hi1 hi2
   have u1:∀ u:Ext wr,u.val.cell? ⟨b,o+i,none⟩=some (.string nm):=fun u=>HC0.out _ (B.out.trans (u.below.mono B.out.size))
   by_cases hk0:k=0
   ·have k1:¬ (0:Int)<(i:Int):=by omega
    have k5:decide (0<i)=false:=decide_eq_false (by omega)
    have k6:decide ((0:Int)<(i:Int))=false:=decide_eq_false (by omega)
    clear hi hn hiN hk0
    go_wp2_with fail
    refine wp_region_ext (by kernel_rfl) (by kernel_rfl) ?_
    repeat (go_big_quiet_step (first | (go_at_call 109;with_reducible exact Ext.call (CMk.out _))))
    refine wpQuiet_nil ?_
    rintro _ ⟨u,rfl⟩
    have B4:Hid (Below w3.heap.size w3 u.val):=B.out.trans (u.below.mono B.out.size)
    have O4:=Lib.hid (own_below O.out u.below)
    generalize u.val=w4 at *
    clear u1 O B
    go_wp2_with fail
    have u3:w4.cell? ⟨b,o+i,none⟩=some (.string nm):=HC0.out _ B4.out
    have u4:w4.cell? ⟨b,o+i1,none⟩=some (.string vl):=HC1.out _ B4.out
    have B4':Hid (Below w3.heap.size w3 w4.drew):=B4.out.drew
    have O4':Hid (w4.drew.ownsRow w3.heap.size 104 2 u8 k (attC (l.take k))):=own_below O4.out ((Below.refl w4.heap.size w4).drew)
    have O7:Hid ((w4.drew.alloc (.cells #[.string nm,.string vl] 104)).ownsRow w3.heap.size 104 2 u8 k (attC (l.take k))):=World.ownsRow.alloc O4'.out _
    have B7:=Lib.hid (B4'.out.alloc B4'.out.size (.cells #[.string nm,.string vl] 104))
    have HC7:Hid (∀ j u,[Value.string nm,Value.string vl][j]?=some u→(w4.drew.alloc (.cells #[.string nm,.string vl] 104)).cell? ((⟨w4.heap.size,0,none⟩:Addr).add j)=some u):=fun j u hu=>by
     have hB:=Blk.new w4.drew 104 #[.string nm,.string vl]
     rw [add_zero_addr,Nat.zero_add]
     exact hB.cell j (by simpa using hu)
    go_region_law (refine step_append_own rfl (.tmp 72) (.tmp 83) 99 rfl w3.heap.size 104 i0 (.agg #[.string ⟨#[]⟩,.string ⟨#[]⟩]) 2 32 Tryz.underlying99 I0.out.1 I0.out.2.1 I0.out.2.2.1 I0.out.2.2.2 rfl (by decide) u8 k (attC (l.take k)) (by simp [Act.eval,Act.put]) O7.out ⟨w4.heap.size,0,none⟩ 1 1 [.string nm,.string vl] (by simp [Act.eval,Act.put]) rfl HC7.out H17.out HM7.out HY7.out B7.out.size ?_;intro v9 w9 own hg;have O9:Hid (w9.ownsRow w3.heap.size 104 2 v9 (k+1) (attC (l.take (k+1)))):=HEN.out▸own;have B9:=Lib.hid (B7.out.grown hg B7.out.size (fun j e=>(O7.out.lt j e).1));clear own hg)
    all_goals
     go_wp2
     go_roundw
     case rel=>exact ⟨k+1,i2n,by omega,rfl,HI2.out,O9,B9⟩
     case measure=>have h1:=HI2.out.out;have h2:=HI.out;simp [intOf];omega
   ·obtain ⟨j,hj⟩:∃ j,k=j+1:=⟨k-1,by omega⟩
    obtain ⟨ij,hij⟩:∃ ij,ij=2 * j:=⟨_,rfl⟩
    obtain ⟨pn,hpn,hless⟩:=HP.out j (by omega)
    rw [← hij] at hpn
    have HPN:=Lib.hid hpn
    have k1:(0:Int)<(i:Int):=by omega
    have k5:decide (0<i)=true:=decide_eq_true (by omega)
    have k6:decide ((0:Int)<(i:Int))=true:=decide_eq_true (by omega)
    have k2:IntKind.i64.wrap ((i:Int)-2)=(ij:Int):=by rw [show (i:Int)-2=(ij:Int) by omega];exact IntWalk.i64_in _ (by omega)
    have k3:(ij:Int)<(N:Int):=by omega
    have k4:(0:Int)≤(ij:Int):=by omega
    have u2:∀ u:Ext wr,u.val.cell? ⟨b,o+ij,none⟩=some (.string pn):=fun u=>HPN.out _ (B.out.trans (u.below.mono B.out.size))
    clear hi hn hiN hk0 hpn hij hj
    go_wp2_with fail
    refine wp_region_ext (by kernel_rfl) (by kernel_rfl) ?_
    repeat (go_big_quiet_step (first | (go_at_call 109;with_reducible exact Ext.call (CMk.out _))))
    refine wpQuiet_nil ?_
    rintro _ ⟨u,rfl⟩
    have B4:Hid (Below w3.heap.size w3 u.val):=B.out.trans (u.below.mono B.out.size)
    have O4:=Lib.hid (own_below O.out u.below)
    generalize u.val=w4 at *
    clear u1 u2 hless k2 O B
    go_wp2_with fail
    have u3:w4.cell? ⟨b,o+i,none⟩=some (.string nm):=HC0.out _ B4.out
    have u4:w4.cell? ⟨b,o+i1,none⟩=some (.string vl):=HC1.out _ B4.out
    have B4':Hid (Below w3.heap.size w3 w4.drew):=B4.out.drew
    have O4':Hid (w4.drew.ownsRow w3.heap.size 104 2 u8 k (attC (l.take k))):=own_below O4.out ((Below.refl w4.heap.size w4).drew)
    have O7:Hid ((w4.drew.alloc (.cells #[.string nm,.string vl] 104)).ownsRow w3.heap.size 104 2 u8 k (attC (l.take k))):=World.ownsRow.alloc O4'.out _
    have B7:=Lib.hid (B4'.out.alloc B4'.out.size (.cells #[.string nm,.string vl] 104))
    have HC7:Hid (∀ j u,[Value.string nm,Value.string vl][j]?=some u→(w4.drew.alloc (.cells #[.string nm,.string vl] 104)).cell? ((⟨w4.heap.size,0,none⟩:Addr).add j)=some u):=fun j u hu=>by
     have hB:=Blk.new w4.drew 104 #[.string nm,.string vl]
     rw [add_zero_addr,Nat.zero_add]
     exact hB.cell j (by simpa using hu)
    go_region_law (refine step_append_own rfl (.tmp 72) (.tmp 83) 99 rfl w3.heap.size 104 i0 (.agg #[.string ⟨#[]⟩,.string ⟨#[]⟩]) 2 32 Tryz.underlying99 I0.out.1 I0.out.2.1 I0.out.2.2.1 I0.out.2.2.2 rfl (by decide) u8 k (attC (l.take k)) (by simp [Act.eval,Act.put]) O7.out ⟨w4.heap.size,0,none⟩ 1 1 [.string nm,.string vl] (by simp [Act.eval,Act.put]) rfl HC7.out H17.out HM7.out HY7.out B7.out.size ?_;intro v9 w9 own hg;have O9:Hid (w9.ownsRow w3.heap.size 104 2 v9 (k+1) (attC (l.take (k+1)))):=HEN.out▸own;have B9:=Lib.hid (B7.out.grown hg B7.out.size (fun j e=>(O7.out.lt j e).1));clear own hg)
    all_goals
     go_wp2
     go_roundw
     case rel=>exact ⟨k+1,i2n,by omega,rfl,HI2.out,O9,B9⟩
     case measure=>have h1:=HI2.out.out;have h2:=HI.out;simp [intOf];omega
  ·obtain rfl:k=l.length:=by omega
   have c0:¬ (i:Int)<(N:Int):=by omega
   have HTK:Hid (l.take l.length=l):=List.take_length
   rw [HTK.out] at O
   have O9:=Lib.hid (own_low O.out B3.out.size)
   have B9:=Lib.hid (B3.out.trans (B.out.mono B3.out.size))
   go_wp2
   go_ret2
   exact ⟨⟨_,rfl,O9.out⟩,B9.out⟩
theorem att_at {w:World} {B:Nat} {A:Option Addr} {l:List AttV} (h:RowAt w B A (attC l)) {k:Nat} (hk:k<l.length) :
  ∃ b o,A=some ⟨b,o,none⟩∧b<B∧w.rangeAt b (o+k * 2) [.string l[k].name,.string l[k].value]:=by
 obtain ⟨b,o,hA,hb,hc⟩:=RowAt.at_ h (by rw [attC_len];omega)
 have g:=attC_get hk
 refine ⟨b,o,hA,hb,fun j u hu=>?_⟩
 match j,hu with
 | 0,hu=>cases hu;rw [Nat.add_zero];exact hc _ _ g.1
 | 1,hu=>cases hu;rw [Nat.add_assoc];exact hc _ _ g.2
 | j+2,hu=>simp at hu
theorem texts_snoc {l:List AttV} {k:Nat} (hk:k<l.length):(textsA (l.take k)).map Value.string++[.string l[k].name,.string l[k].value]=(textsA (l.take (k+1))).map Value.string:=by
 rw [List.take_succ_eq_append_getElem hk,textsA_app,List.map_append]
 rfl
set_option maxHeartbeats 4000000 in
theorem row_any (A:Option Addr) (c:Nat) (l:List AttV) (w:World) (hl:l.length≤400) (hn:∀ t ∈ textsA l,t.size≤127) (h:RowAt w w.heap.size A (attC l)) :
  Calls Tryz.prog 113 #[.slice A l.length c] w fun e w'=>e=.returned (.string ⟨(rowA l).toArray⟩)∧Below w.heap.size w w':=by
 obtain ⟨i0,q1,q2,q3,q4⟩:=info_parts str_info
 have I0:=Lib.hid (And.intro q1 (And.intro q2 (And.intro q3 q4)))
 have HL:Hid (l.length≤400):=hl
 have R0:=Lib.hid h
 have CR:=Lib.hid (fun A c w h=>nrow_any A c (textsA l) w (by rw [textsA_len];omega) hn h)
 have O0:Hid (w.ownsRow w.heap.size 9 1 (.slice none 0 0) (2 * 0) ((textsA (l.take 0)).map .string)):=World.ownsRow_nil _ _ _ _
 have HBL:=Lib.hid (Below.refl w.heap.size w)
 clear q1 q2 q3 q4 hn hl h
 go_enter Tryz.func113,Tryz.ntmps113
 go_wp2
 go_loopw [3,5,8] (fun v _ i wr=>∃ k:Nat,k≤l.length∧i=.int .i64 (k:Int)∧Hid (wr.ownsRow w.heap.size 9 1 v (2 * k) ((textsA (l.take k)).map .string))∧Hid (Below w.heap.size w wr)) (fun _ _ i _=>l.length-(intOf i).toNat)
 case atStart=>exact ⟨0,Nat.zero_le _,rfl,O0,HBL⟩
 case round=>
  clear O0 HBL
  obtain ⟨k,hk,rfl,O,B⟩:=hrel
  by_cases hlt:k<l.length
  ·obtain ⟨bA,oA,rfl,hbA,hrA⟩:=att_at (RowAt.below R0.out B.out) hlt
   have HTK:=Lib.hid (texts_snoc hlt)
   generalize l[k]=x at *
   obtain ⟨nm,vl⟩:=x
   dsimp only at HTK
   have HR:Hid (wr.rangeAt bA (oA+k * 2) [.string nm,.string vl]):=hrA
   have O5:Hid (((wr.alloc (.cells #[.string nm,.string vl] 104)).alloc (.cells #[.string nm,.string vl] 9)).ownsRow w.heap.size 9 1 _ (2 * k) ((textsA (l.take k)).map .string)):=World.ownsRow.alloc (World.ownsRow.alloc O.out _) _
   have B4:=Lib.hid (B.out.alloc B.out.size (.cells #[.string nm,.string vl] 104))
   have B5:=Lib.hid (B4.out.alloc B4.out.size (.cells #[.string nm,.string vl] 9))
   have HC7:Hid (∀ j u,[Value.string nm,Value.string vl][j]?=some u→((wr.alloc (.cells #[.string nm,.string vl] 104)).alloc (.cells #[.string nm,.string vl] 9)).cell? ((⟨wr.heap.size+1,0,none⟩:Addr).add j)=some u):=fun j u hu=>by
    have hB:=Blk.new (wr.alloc (.cells #[.string nm,.string vl] 104)) 9 #[.string nm,.string vl]
    simp only [World.size_alloc] at hB
    rw [add_zero_addr,Nat.zero_add]
    exact hB.cell j (by simpa using hu)
   have H17:Hid (∀ u ∈ [Value.string nm,Value.string vl],u.oneCell'=true):=fun u hu=>by
    rcases List.mem_cons.1 hu with rfl | hu
    ·rfl
    ·rcases List.mem_cons.1 hu with rfl | hu
     ·rfl
     ·cases hu
   have HM7:Hid (2 * k+2≤maxLen):=by show _≤_;have:=HL.out;unfold maxLen;omega
   have HY7:Hid ((2 * k+2) * 16≤140737488355328):=by show _≤_;have:=HL.out;omega
   have i2:(k:Int)<(l.length:Int):=by omega
   have i3:(0:Int)≤(k:Int):=by omega
   have hll:=HL.out
   have ws:IntKind.i64.wrap ((k:Int)+1)=(k:Int)+1:=IntWalk.i64_in _ (by omega)
   clear hrA
   go_wp2_with (first
    | (refine wpList_load_mid rfl 104 (.tmp 10) rfl bA (oA+k * 2) rfl _ _ HR.out Tryz.underlying104 rfl (by kernel_rfl) ?_;go_frame)
    | (at_builtin;refine wpList_append_own _ rfl (.tmp 12) (.tmp 17) 24 rfl w.heap.size 9 i0 (.string ⟨#[]⟩) 1 16 Tryz.underlying24 I0.out.1 I0.out.2.1 I0.out.2.2.1 I0.out.2.2.2 rfl (by decide) _ (2 * k) ((textsA (l.take k)).map .string) rfl O5.out ⟨wr.heap.size+1,0,none⟩ 2 2 [.string nm,.string vl] rfl rfl HC7.out H17.out HM7.out HY7.out B5.out.size ?_;intro v9 w9 own hg hv;have O9:Hid (w9.ownsRow w.heap.size 9 1 v9 (2 * (k+1)) ((textsA (l.take (k+1))).map .string)):=HTK.out▸own;have B9:=Lib.hid (B5.out.grown hg B5.out.size (fun j e=>(O5.out.lt j e).1));clear own hg hv))
   go_roundw
   case rel=>exact ⟨k+1,by omega,by go_num,O9,B9⟩
   case measure=>simp [intOf];omega
  ·obtain rfl:k=l.length:=by omega
   have HT:Hid (l.take l.length=l):=List.take_length
   rw [HT.out] at O
   have O1:OwnRow (textsA l) w u3 wr:=by unfold OwnRow;rw [textsA_len];exact O.out
   obtain ⟨A1,c1,rfl,hrow⟩:=OwnRow.read O1
   have R1:=Lib.hid hrow
   clear hrow O1
   go_wp2_with fail
   refine (CR.out _ _ _ R1.out).mono ?_
   rintro e w7 ⟨rfl,hb7⟩
   have B7:=Lib.hid (B.out.trans (hb7.mono B.out.size))
   clear hb7
   go_wp2
   go_ret
   exact ⟨rfl,B7.out⟩
set_option maxHeartbeats 4000000 in
theorem changed_any (A:Option Addr) (c:Nat) (xs:List ByteArray) (i:Nat) (r:ByteArray) (w:World) (hx:xs.length≤1000000) (hi:i<xs.length) (hr:r.size≤126) (h:RowAt w w.heap.size A (xs.map .string)) :
  Calls Tryz.prog 114 #[.slice A xs.length c,.int .i64 (i:Int),.string r] w fun e w'=>(∃ v,e=.returned v∧OwnRow (xs.set i ⟨(blockL r.data.toList).toArray⟩) w v w')∧Below w.heap.size w w':=by
 obtain ⟨j0,q1,q2,q3,q4⟩:=info_parts str_info
 have J0:=Lib.hid (And.intro q1 (And.intro q2 (And.intro q3 q4)))
 obtain ⟨bb,oo,rfl,hbb,hcc⟩:=RowAt.at_ h (by rw [List.length_map];omega)
 have HC:Hid (∀ j u,(xs.map Value.string)[j]?=some u→w.cell? ((⟨bb,oo,none⟩:Addr).add j)=some u):=fun j u hu=>by
  have:(⟨bb,oo,none⟩:Addr).add j=⟨bb,oo+j,none⟩:=by unfold Addr.add;split <;> simp_all
  rw [this];exact hcc j u hu
 have H1:=Lib.hid (str_cells xs)
 have HM:Hid (0+xs.length≤maxLen):=by show _≤_;unfold maxLen;omega
 have HY:Hid ((0+xs.length) * 16≤140737488355328):=by show _≤_;omega
 have CB:=Lib.hid (fun w=>ablock_any r w hr)
 have i1:(i:Int)<(xs.length:Int):=by omega
 have i2:(0:Int)≤(i:Int):=by omega
 have HI:Hid (i<xs.length):=hi
 have hzW:w.heap.size≤w.heap.size:=Nat.le_refl _
 have HZ:Hid (0<xs.length):=by show _<_;omega
 generalize (⟨(blockL r.data.toList).toArray⟩:ByteArray)=s at *
 clear q1 q2 q3 q4 h hcc hbb hr hx
 go_enter Tryz.func114,Tryz.ntmps114
 go_wp2_with (at_builtin;refine wpList_append_own _ rfl (.const (.slice none 0 0)) (.tmp 8) 24 rfl w.heap.size 9 j0 (.string ⟨#[]⟩) 1 16 Tryz.underlying24 J0.out.1 J0.out.2.1 J0.out.2.2.1 J0.out.2.2.2 rfl (by decide) _ 0 [] rfl (World.ownsRow_nil _ _ _ _) ⟨bb,oo,none⟩ xs.length c (xs.map .string) rfl (by rw [List.length_map,Nat.mul_one]) HC.out H1.out HM.out HY.out hzW ?_;intro v9 W2 own hg hv9;rw [Nat.zero_add,List.nil_append] at own;have hg0:World.grownBy _ W2 none:=hg;obtain ⟨gr,cr,rfl⟩:=Go.Joins.ownsRow_form own HZ.out;have OR:=Lib.hid own;have B4:=Lib.hid ((Below.refl w.heap.size w).grown hg0 (Nat.le_refl _) (by intro k hk;cases hk));have hgr:w.heap.size≤gr:=(own.lt gr rfl).1;clear hg hg0 hv9 own)
 refine (CB.out _).mono ?_
 rintro e' W3 ⟨rfl,hb3⟩
 have OR3:=Lib.hid (own_below OR.out hb3)
 have B5:=Lib.hid (B4.out.trans (hb3.mono B4.out.size))
 have d1:W3.cell? ⟨gr,i,none⟩=some (.string (xs[i]'HI.out)):=by
  rw [OR3.out.cellAt i (by have:=HI.out;omega)]
  rw [List.getElem?_map,List.getElem?_eq_getElem HI.out];rfl
 have d2:W3.frozen? ⟨gr,i,none⟩=false:=OR3.out.frozenAt i
 obtain ⟨o1,o2⟩:=World.ownsRow.stored OR3.out i (.string s)
 have OR4:=Lib.hid o1
 have B6:=Lib.hid (B5.out.setCell hgr (p:=⟨gr,i,none⟩) (.string s))
 clear o1 o2 hb3 CB HC H1
 go_wp2
 go_ret
 refine ⟨⟨_,rfl,?_⟩,B6.out⟩
 unfold OwnRow
 rw [List.length_set,List.map_set]
 exact OR4.out
end Go.Proofs.YtdldlendppkknaaGreatDoor
