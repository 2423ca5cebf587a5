/-
  Contracts and plain laws: FsH, TopA, TopV, TopB.
-/
import Derived.Test.YtdldlendppkknaaGreatDoorPackV24
namespace Go.Proofs.YtdldlendppkknaaGreatDoor
open Go.RowKit
set_option linter.unusedVariables false
set_option linter.unusedSimpArgs false
set_option maxRecDepth 100000
set_option maxHeartbeats 8000000 in
theorem rename_cl (vb pb qb:Nat) (A:Option Addr) (c:Nat) (xs:List ByteArray) (p q:ByteArray) (w:World) (hx:xs.length≤1000000) (hp:p.size≤140737488355328) (hq:q.size≤140737488355328)
  (h:RowAt w w.heap.size A (xs.map .string)) (h1:Blk w vb 24 #[.slice A xs.length c]) (h2:Blk w pb 9 #[.string p]) (h3:Blk w qb 9 #[.string q]) :
  Calls Tryz.prog 88 #[.pointer (some ⟨vb,0,none⟩),.pointer (some ⟨pb,0,none⟩),.pointer (some ⟨qb,0,none⟩)] w (RowCode (renameI xs p q).1 (renameI xs p q).2 w):=by
 have HR:=Lib.hid h
 have V0:=Lib.hid h1
 have P0:=Lib.hid h2
 have Q0:=Lib.hid h3
 have CP:=Lib.hid (path_any A c xs p w hx h)
 have CV:=Lib.hid (fun w h=>vacant_any A c xs q w hx h)
 have HO:Hid (renameI xs p q=if (pathO xs p.data.toList).2≠0 then ([],(pathO xs p.data.toList).2)
 else if p.data.toList=[47] then ([],12)
 else if (vacO xs q).2.2≠0 then ([],(vacO xs q).2.2)
 else if Lib.hasPrefix q.data.toList (p.data.toList++[47])=true then ([],12)
 else if (pathO xs (aboveB p).data.toList).2≠0 then ([],(pathO xs (aboveB p).data.toList).2)
 else if (dropO xs (pathO xs (aboveB p).data.toList).1 (lastB p)).2≠0 then ([],(dropO xs (pathO xs (aboveB p).data.toList).1 (lastB p)).2)
 else addO (dropO xs (pathO xs (aboveB p).data.toList).1 (lastB p)).1 (vacO xs q).1 (vacO xs q).2.1 (pathO xs p.data.toList).1):=by show _=_;rfl
 have HZ:Hid ((pathO xs p.data.toList).2=0→1≤p.size∧p.size≤200):=fun h=>by
  cases hm:mayP p.data.toList with
  | true=>exact mayP_size hm
  | false=>unfold pathO at h;rw [hm,if_pos rfl] at h;exact absurd h (by decide)
 have CH:Hid (p.size≤200→∀ w,Calls Tryz.prog 89 #[.string q,.string (p++⟨#[47]⟩)] w fun e w'=>e=.returned (.bool (Lib.hasPrefix q.data.toList (p.data.toList++[47])))∧w'=w):=fun hs w=>by
  have h:=Tryz.strings_HasPrefix q (p++⟨#[47]⟩) w
  rw [show (p++(⟨#[47]⟩:ByteArray)).data.toList=p.data.toList++[47] by simp [ByteArray.data_append]] at h
  exact h
 have ad:Hid (p.size≤200→∀ w:World,_):=fun hs (w:World)=>run_string_add_sum (P:=Tryz.prog) (w:=w) p ⟨#[47]⟩ (by show p.size+1≤_;omega)
 have CF:=Lib.hid (fun w h=>path_any A c xs (aboveB p) w hx h)
 have CD:=Lib.hid (fun w h=>drop_any A c xs (pathO xs (aboveB p).data.toList).1 (lastB p) w hx (by have:=last_len p;omega) h)
 have HL:=Lib.hid (dropO_le hx (pathO xs (aboveB p).data.toList).1 (lastB p))
 have CS:Hid (1≤p.size→∀ w,Calls Tryz.prog 62 #[.string p] w fun e w'=>e=.returned (.tuple #[.string (aboveB p),.string (lastB p)])∧Below w.heap.size w w'):=fun h1 w=>split_any p w h1 hp
 obtain ⟨pn,e1,hpn⟩:∃ a b,pathO xs p.data.toList=(a,b):=⟨_,_,rfl⟩
 have CA:=Lib.hid (fun A c w h=>add_any A c (dropO xs (pathO xs (aboveB p).data.toList).1 (lastB p)).1 (vacO xs q).1 (vacO xs q).2.1 pn w HL.out (vac_last xs q hq) h)
 rw [hpn] at CP HO HZ
 dsimp only at HO HZ
 obtain ⟨d,e3,hd⟩:∃ a b,pathO xs (aboveB p).data.toList=(a,b):=⟨_,_,rfl⟩
 rw [hd] at CF CD CA HL HO
 dsimp only at CD CA HL HO
 generalize aboveB p=pa at *
 generalize lastB p=pl at *
 obtain ⟨dv,pv,e2,hv⟩:∃ a b c,vacO xs q=(a,b,c):=⟨_,_,_,rfl⟩
 rw [hv] at CV CA HO
 dsimp only at CA HO
 obtain ⟨ys,e4,ha⟩:∃ a b,dropO xs d pl=(a,b):=⟨_,_,rfl⟩
 rw [ha] at CD CA HL HO
 dsimp only at CD CA HL HO
 generalize addO ys dv pv pn=r at *
 obtain ⟨zs,e5⟩:=r
 unfold RowCode at CD CA
 unfold VacPost at CV
 dsimp only at CP CF CD CA CV HL HO
 obtain ⟨hb,hhb⟩:∃ b,Lib.hasPrefix q.data.toList (p.data.toList++[47])=b:=⟨_,rfl⟩
 rw [hhb] at CH HO
 generalize renameI xs p q=z at *
 have c1:=h1.cell 0 rfl
 have c2:=h2.cell 0 rfl
 clear h h1 h2 h3 hpn hd hv ha hx hp hq hhb
 go_enter Tryz.func88,Tryz.ntmps88
 go_wp2_with fail
 refine CP.out.mono ?_
 rintro e' w1 ⟨rfl,hb1⟩
 have B1:=Lib.hid hb1
 have V1:=Lib.hid (V0.out.below hb1 V0.out.lt)
 have P1:=Lib.hid (P0.out.below hb1 P0.out.lt)
 have Q1:=Lib.hid (Q0.out.below hb1 Q0.out.lt)
 clear hb1 CP c1 c2 V0 P0 Q0
 have c1:=V1.out.cell 0 rfl
 have c2:=P1.out.cell 0 rfl
 have c3:=Q1.out.cell 0 rfl
 by_cases hc:e1=0
 case neg=>
  have hc':(e1 != 0)=true:=by simpa using hc
  rw [if_pos hc] at HO
  go_wp2
  go_ret2
  rw [HO.out]
  exact ⟨⟨_,rfl,own_nil _ _⟩,B1.out⟩
 subst hc
 rw [if_neg (by simp)] at HO
 obtain ⟨hz1,hz2⟩:=HZ.out rfl
 have CS:=Lib.hid (CS.out hz1)
 have CH:=Lib.hid (CH.out hz2)
 have ad:=ad.out hz2
 clear HZ
 by_cases ht:p.data.toList=[47]
 case pos=>
  rw [if_pos ht] at HO
  have q0:(p.toList == [47])=true:=by rw [str_data,ht];rfl
  clear ht
  go_wp2
  go_ret2
  rw [HO.out]
  exact ⟨⟨_,rfl,own_nil _ _⟩,B1.out⟩
 rw [if_neg ht] at HO
 have q0:(p.toList == [47])=false:=by rw [str_data];simpa using ht
 clear ht
 go_wp2_with fail
 refine (CV.out _ (row_keep HR.out B1.out B1.out.size)).mono ?_
 rintro e' w2 ⟨rfl,hb2⟩
 have B2:=Lib.hid (B1.out.trans (hb2.mono B1.out.size))
 have V2:=Lib.hid (V1.out.below hb2 V1.out.lt)
 have P2:=Lib.hid (P1.out.below hb2 P1.out.lt)
 have Q2:=Lib.hid (Q1.out.below hb2 Q1.out.lt)
 clear hb2 CV c1 c2 c3 V1 P1 Q1 q0
 have c1:=V2.out.cell 0 rfl
 have c2:=P2.out.cell 0 rfl
 have c3:=Q2.out.cell 0 rfl
 by_cases hc:e2=0
 case neg=>
  have hc':(e2 != 0)=true:=by simpa using hc
  rw [if_pos hc] at HO
  go_wp2
  go_ret2
  rw [HO.out]
  exact ⟨⟨_,rfl,own_nil _ _⟩,B2.out⟩
 subst hc
 rw [if_neg (by simp)] at HO
 go_wp2_with fail
 refine (CH.out _).mono ?_
 rintro e' w3 ⟨rfl,rfl⟩
 clear CH ad
 cases hb with
 | true=>
  rw [if_pos rfl] at HO
  go_wp2
  go_ret2
  rw [HO.out]
  exact ⟨⟨_,rfl,own_nil _ _⟩,B2.out⟩
 | false=>
  rw [if_neg (by simp)] at HO
  go_wp2_with fail
  refine (CS.out _).mono ?_
  rintro e' w5 ⟨rfl,hb5⟩
  have B5:=Lib.hid (B2.out.trans (hb5.mono B2.out.size))
  have V5:=Lib.hid (V2.out.below hb5 V2.out.lt)
  clear hb5 CS c1 c2 c3 V2 P2 Q2
  have v5:=V5.out.cell 0 rfl
  go_wp2_with fail
  refine (CF.out _ (row_keep HR.out B5.out B5.out.size)).mono ?_
  rintro e' w6 ⟨rfl,hb6⟩
  have B6:=Lib.hid (B5.out.trans (hb6.mono B5.out.size))
  have V6:=Lib.hid (V5.out.below hb6 V5.out.lt)
  clear hb6 CF v5 V5
  have v6:=V6.out.cell 0 rfl
  go_wp2_with fail
  ·rename_i hc
   go_ret2
   rw [HO.out,if_pos (by simpa using hc)]
   exact ⟨⟨_,rfl,own_nil _ _⟩,B6.out⟩
  have hc:(e3 != 0)=false:=by assumption
  rw [if_neg (by simpa using hc)] at HO
  clear hc
  refine (CD.out _ (row_keep HR.out B6.out B6.out.size)).mono ?_
  rintro e' w7 ⟨⟨v,rfl,hown⟩,hb7⟩
  have B7:=Lib.hid (B6.out.trans (hb7.mono B6.out.size))
  obtain ⟨A7,c7,rfl,hrow⟩:=OwnRow.read hown
  have R7:=Lib.hid hrow
  clear hb7 CD v6 V6 hown hrow
  go_wp2_with fail
  ·rename_i hc
   go_ret2
   rw [HO.out,if_pos (by simpa using hc)]
   exact ⟨⟨_,rfl,own_nil _ _⟩,B7.out⟩
  have hc:(e4 != 0)=false:=by assumption
  rw [if_neg (by simpa using hc)] at HO
  clear hc
  refine (CA.out _ _ _ R7.out).mono ?_
  rintro e' w8 ⟨⟨v,rfl,hown⟩,hb8⟩
  have hz:=B7.out.size
  have ON:=Lib.hid (own_low hown hz)
  have B8:=Lib.hid (B7.out.trans (hb8.mono hz))
  clear hown hb8
  go_wp2
  go_ret2
  rw [HO.out]
  exact ⟨⟨_,rfl,ON.out⟩,B8.out⟩
theorem renameI_le {xs:List ByteArray} (h:xs.length≤1000000) (p q:ByteArray):(renameI xs p q).1.length≤1000000:=by
 unfold renameI
 exact ite_le (fun _=>Nat.zero_le _) fun _=>ite_le (fun _=>Nat.zero_le _) fun _=>ite_le (fun _=>Nat.zero_le _) fun _=>ite_le (fun _=>Nat.zero_le _) fun _=>ite_le (fun _=>Nat.zero_le _) fun _=>ite_le (fun _=>Nat.zero_le _) fun _=>addO_le (dropO_le h _ _) _ _ _
set_option maxHeartbeats 4000000 in
theorem rename_any (A:Option Addr) (c:Nat) (xs:List ByteArray) (p q:ByteArray) (w:World) (hx:xs.length≤1000000) (hp:p.size≤140737488355328) (hq:q.size≤140737488355328) (h:RowAt w w.heap.size A (xs.map .string)) :
  Calls Tryz.prog 34 #[.slice A xs.length c,.string p,.string q] w (RowCode (renameO xs p q).1 (renameO xs p q).2 w):=by
 obtain ⟨W1,hW1⟩:∃ W1,((w.alloc (Obj.cells #[.slice A xs.length c] 24)).alloc (.cells #[.string p] 9)).alloc (.cells #[.string q] 9)=W1:=⟨_,rfl⟩
 obtain ⟨b1,v1,p1,q1⟩:=box3 _ _ _ _ _ _ _ _ hW1
 have HW1:=Lib.hid hW1
 have HR:=Lib.hid h
 have B1:=Lib.hid b1
 have V1:=Lib.hid v1
 have P1:=Lib.hid p1
 have Q1:=Lib.hid q1
 have CM:=Lib.hid (mayp_any p)
 have CQ:=Lib.hid (mayp_any q)
 have HO:Hid (renameO xs p q=if mayP p.data.toList=false∨mayP q.data.toList=false then ([],7) else weighO xs (renameI xs p q)):=by show _=_;rfl
 have WW:Hid (∀ w2,Below w.heap.size w w2→Blk w2 w.heap.size _ _→Blk w2 (w.heap.size+1) _ _→Blk w2 (w.heap.size+1+1) _ _→Calls Tryz.prog 44 #[.slice A xs.length c,.func (.func 88) #[] #[.pointer (some ⟨w.heap.size,0,none⟩),.pointer (some ⟨w.heap.size+1,0,none⟩),.pointer (some ⟨w.heap.size+1+1,0,none⟩)]] w2 (Weigh (weighO xs (renameI xs p q)) w2.heap.size (fun _=>True) w2)):=fun w2 hb a b d=>
  weighed_any A c xs 88 _ _ w2.heap.size (fun _=>True) w2 hx (renameI_le hx p q) (enters_of Tryz.func88 (by kernel_rfl) rfl) (Nat.le_refl _) (row_keep h hb hb.size) (fun _ _ _ _=>trivial) ((rename_cl _ _ _ A c xs p q w2 hx hp hq (row_keep h hb hb.size) a b d).mono fun _ _ h=>Weigh.of_row h)
 have c1:=v1.cell 0 rfl
 have c2:=p1.cell 0 rfl
 have c3:=q1.cell 0 rfl
 generalize renameO xs p q=z at *
 generalize weighO xs (renameI xs p q)=r at *
 clear h hW1 b1 v1 p1 q1
 generalize hmp:mayP p.data.toList=mp at *
 generalize hmq:mayP q.data.toList=mq at *
 clear hmp hmq
 go_enter Tryz.func34,Tryz.ntmps34
 go_wp2_with fail
 rw [HW1.out]
 refine (CM.out _).mono ?_
 rintro e' w2 ⟨rfl,hb2⟩
 have B2:=Lib.hid (B1.out.trans (hb2.mono B1.out.size))
 have V2:=Lib.hid (V1.out.below hb2 V1.out.lt)
 have P2:=Lib.hid (P1.out.below hb2 P1.out.lt)
 have Q2:=Lib.hid (Q1.out.below hb2 Q1.out.lt)
 clear hb2 CM c1 c2 c3 V1 P1 Q1 HW1
 have c1:=V2.out.cell 0 rfl
 have c3:=Q2.out.cell 0 rfl
 cases mp with
 | false=>
  rw [if_pos (.inl rfl)] at HO
  go_wp2
  go_ret2
  rw [HO.out]
  exact ⟨⟨_,rfl,own_nil _ _⟩,B2.out⟩
 | true=>
  go_wp2_with fail
  refine (CQ.out _).mono ?_
  rintro e' w3 ⟨rfl,hb3⟩
  have B3:=Lib.hid (B2.out.trans (hb3.mono B2.out.size))
  have V3:=Lib.hid (V2.out.below hb3 V2.out.lt)
  have P3:=Lib.hid (P2.out.below hb3 P2.out.lt)
  have Q3:=Lib.hid (Q2.out.below hb3 Q2.out.lt)
  clear hb3 CQ c1 c3 V2 P2 Q2
  have c1:=V3.out.cell 0 rfl
  cases mq with
  | false=>
   rw [if_pos (.inr rfl)] at HO
   go_wp2
   go_ret2
   rw [HO.out]
   exact ⟨⟨_,rfl,own_nil _ _⟩,B3.out⟩
  | true=>
   rw [if_neg (by simp)] at HO
   go_wp2_with fail
   refine (WW.out _ B3.out V3.out P3.out Q3.out).mono ?_
   rw [← HO.out]
   rintro e' w4 ⟨⟨v,rfl,hown⟩,hb4,_⟩
   have ON:=Lib.hid (own_low hown B3.out.size)
   have B4:=Lib.hid (B3.out.trans (hb4.mono B3.out.size))
   clear hown hb4
   go_wp2
   go_ret2
   exact ⟨⟨_,rfl,ON.out⟩,B4.out⟩
structure DeedV where
 kind:Int
 n:Int
 path:ByteArray
 goal:ByteArray
 data:ByteArray
 owner:Int
def deedC (a:DeedV):Array Value:=#[.int .i64 a.kind,.int .i64 a.n,.string a.path,.string a.goal,.string a.data,.int .i64 a.owner]
noncomputable def actI (V:List ByteArray) (a:DeedV):List ByteArray × Int:=
 if a.kind=0 then ((madeO V a.path 1 a.owner).1,(madeO V a.path 1 a.owner).2.2) else if a.kind=1 then ((madeO V a.path 2 a.owner).1,(madeO V a.path 2 a.owner).2.2)
 else if a.kind=2 then linkO V a.path a.goal else if a.kind=3 then removeO V a.path else if a.kind=4 then renameO V a.path a.goal
 else if a.kind=5 then writeF V (pathO V a.path.data.toList).1 a.n a.data.data.toList else if a.kind=6 then cutF V (pathO V a.path.data.toList).1 a.n
 else if a.kind=7 then setF V (pathO V a.path.data.toList).1 (attL V (pathO V a.path.data.toList).1) a.goal a.data else if a.kind=8 then setO V a.n (a.data.size:Int) else ([],1)
noncomputable def actO (V:List ByteArray) (a:DeedV):List ByteArray × Bool:=if (actI V a).2=0 then ((actI V a).1,true) else (V,false)
def ActPost (r:List ByteArray × Bool) (w:World) (e:Ending) (w':World):Prop:=(∃ A c,e=.returned (.tuple #[.slice A r.1.length c,.bool r.2])∧RowAt w' w'.heap.size A (r.1.map .string))∧Below w.heap.size w w'
structure DeedOk (a:DeedV):Prop where
 n:-9223372036854775808≤a.n∧a.n≤9223372036854775807
 path:a.path.size≤300
 goal:a.goal.size≤300
 data:a.data.size≤600
set_option maxHeartbeats 16000000 in
theorem act_k (A:Option Addr) (c:Nat) (V:List ByteArray) (m:Nat) (k n o:Int) (p q d:ByteArray) (w:World) (hk:0≤k∧k≤8) (hx:V.length≤1000000) (hD:DirT V m) (hok:DeedOk ⟨k,n,p,q,d,o⟩) (h:RowAt w w.heap.size A (V.map .string)) :
  Calls Tryz.prog 9 #[.slice A V.length c,.agg (deedC ⟨k,n,p,q,d,o⟩)] w (ActPost (actO V ⟨k,n,p,q,d,o⟩) w):=by
 obtain ⟨hn,hp,hq,hd⟩:=hok
 dsimp only at hn hp hq hd
 have HR:=Lib.hid h
 have CP:=Lib.hid (fun w h=>path_any A c V p w hx h)
 have HI:Hid (actI V ⟨k,n,p,q,d,o⟩=if k=0 then ((madeO V p 1 o).1,(madeO V p 1 o).2.2) else if k=1 then ((madeO V p 2 o).1,(madeO V p 2 o).2.2) else if k=2 then linkO V p q else if k=3 then removeO V p else if k=4 then renameO V p q else if k=5 then writeF V (pathO V p.data.toList).1 n d.data.toList else if k=6 then cutF V (pathO V p.data.toList).1 n else if k=7 then setF V (pathO V p.data.toList).1 (attL V (pathO V p.data.toList).1) q d else if k=8 then setO V n (d.size:Int) else ([],1)):=by show _=_;rfl
 have HO:Hid (actO V ⟨k,n,p,q,d,o⟩=if (actI V ⟨k,n,p,q,d,o⟩).2=0 then ((actI V ⟨k,n,p,q,d,o⟩).1,true) else (V,false)):=by show _=_;rfl
 rw [HI.out] at HO
 clear HI
 obtain ⟨kk,hkk⟩:∃ kk,k=kk:=⟨_,rfl⟩
 obtain ⟨W1,hW1⟩:∃ W1,w.alloc (.cells #[.int .i64 k,.int .i64 n,.string p,.string q,.string d,.int .i64 o] 30)=W1:=⟨_,rfl⟩
 have B1:Hid (Below w.heap.size w W1):=hW1▸(Below.refl _ _).alloc (Nat.le_refl _) _
 have X1:Hid (Blk W1 w.heap.size 30 #[.int .i64 k,.int .i64 n,.string p,.string q,.string d,.int .i64 o]):=hW1▸Blk.new w _ _
 have HW1:=Lib.hid hW1
 have HDS:Hid (d.size≤600):=hd
 clear hW1
 generalize actO V ⟨k,n,p,q,d,o⟩=z at *
 show Calls _ _ #[.slice A V.length c,.agg #[.int .i64 k,.int .i64 n,.string p,.string q,.string d,.int .i64 o]] _ _
 obtain rfl | rfl | rfl | rfl | rfl | rfl | rfl | rfl | rfl:k=0∨k=1∨k=2∨k=3∨k=4∨k=5∨k=6∨k=7∨k=8:=by omega
 all_goals
  first
   | (have e0:(0:Int)=kk:=hkk
      have CC:Hid (∀ w2,RowAt w2 w2.heap.size A (V.map .string)→Calls Tryz.prog 26 #[.slice A V.length c,.string p,.int .i64 o] w2 fun e w'=>(∃ v,e=.returned (.tuple #[v,.int .i64 (madeO V p 1 o).2.1,.int .i64 (((madeO V p 1 o).1,(madeO V p 1 o).2.2)).2])∧OwnRow (((madeO V p 1 o).1,(madeO V p 1 o).2.2)).1 w2 v w')∧Below w2.heap.size w2 w'):=fun w2 h=>(create_any A c V p o w2 hx (by omega) h)
      replace HO:Hid (z=if (((madeO V p 1 o).1,(madeO V p 1 o).2.2)).2=0 then ((((madeO V p 1 o).1,(madeO V p 1 o).2.2)).1,true) else (V,false)):=HO
      generalize ((madeO V p 1 o).1,(madeO V p 1 o).2.2)=r at *)
   | (have e0:(1:Int)=kk:=hkk
      have CC:Hid (∀ w2,RowAt w2 w2.heap.size A (V.map .string)→Calls Tryz.prog 32 #[.slice A V.length c,.string p,.int .i64 o] w2 fun e w'=>(∃ v,e=.returned (.tuple #[v,.int .i64 (madeO V p 2 o).2.1,.int .i64 (((madeO V p 2 o).1,(madeO V p 2 o).2.2)).2])∧OwnRow (((madeO V p 2 o).1,(madeO V p 2 o).2.2)).1 w2 v w')∧Below w2.heap.size w2 w'):=fun w2 h=>(mkdir_any A c V p o w2 hx (by omega) h)
      replace HO:Hid (z=if (((madeO V p 2 o).1,(madeO V p 2 o).2.2)).2=0 then ((((madeO V p 2 o).1,(madeO V p 2 o).2.2)).1,true) else (V,false)):=HO
      generalize ((madeO V p 2 o).1,(madeO V p 2 o).2.2)=r at *)
   | (have e0:(2:Int)=kk:=hkk
      have CC:Hid (∀ w2,RowAt w2 w2.heap.size A (V.map .string)→Calls Tryz.prog 33 #[.slice A V.length c,.string p,.string q] w2 fun e w'=>(∃ v,e=.returned (.tuple #[v,.int .i64 (linkO V p q).2])∧OwnRow (linkO V p q).1 w2 v w')∧Below w2.heap.size w2 w'):=fun w2 h=>(link_any A c V p q w2 hx (by omega) (by omega) h)
      replace HO:Hid (z=if (linkO V p q).2=0 then ((linkO V p q).1,true) else (V,false)):=HO
      generalize linkO V p q=r at *)
   | (have e0:(3:Int)=kk:=hkk
      have CC:Hid (∀ w2,RowAt w2 w2.heap.size A (V.map .string)→Calls Tryz.prog 21 #[.slice A V.length c,.string p] w2 fun e w'=>(∃ v,e=.returned (.tuple #[v,.int .i64 (removeO V p).2])∧OwnRow (removeO V p).1 w2 v w')∧Below w2.heap.size w2 w'):=fun w2 h=>(remove_any A c V p w2 hx (by omega) h)
      replace HO:Hid (z=if (removeO V p).2=0 then ((removeO V p).1,true) else (V,false)):=HO
      generalize removeO V p=r at *)
   | (have e0:(4:Int)=kk:=hkk
      have CC:Hid (∀ w2,RowAt w2 w2.heap.size A (V.map .string)→Calls Tryz.prog 34 #[.slice A V.length c,.string p,.string q] w2 fun e w'=>(∃ v,e=.returned (.tuple #[v,.int .i64 (renameO V p q).2])∧OwnRow (renameO V p q).1 w2 v w')∧Below w2.heap.size w2 w'):=fun w2 h=>(rename_any A c V p q w2 hx (by omega) (by omega) h)
      replace HO:Hid (z=if (renameO V p q).2=0 then ((renameO V p q).1,true) else (V,false)):=HO
      generalize renameO V p q=r at *)
   | (have e0:(5:Int)=kk:=hkk
      have CC:Hid (∀ w2,RowAt w2 w2.heap.size A (V.map .string)→Calls Tryz.prog 13 #[.slice A V.length c,.int .i64 (pathO V p.data.toList).1,.int .i64 n,.string d] w2 fun e w'=>(∃ v,e=.returned (.tuple #[v,.int .i64 (writeF V (pathO V p.data.toList).1 n d.data.toList).2])∧OwnRow (writeF V (pathO V p.data.toList).1 n d.data.toList).1 w2 v w')∧Below w2.heap.size w2 w'):=fun w2 h=>(writeF_any A c V (pathO V p.data.toList).1 n d w2 hx hn (by omega) h)
      replace HO:Hid (z=if (writeF V (pathO V p.data.toList).1 n d.data.toList).2=0 then ((writeF V (pathO V p.data.toList).1 n d.data.toList).1,true) else (V,false)):=HO
      generalize writeF V (pathO V p.data.toList).1 n d.data.toList=r at *)
   | (have e0:(6:Int)=kk:=hkk
      have CC:Hid (∀ w2,RowAt w2 w2.heap.size A (V.map .string)→Calls Tryz.prog 35 #[.slice A V.length c,.int .i64 (pathO V p.data.toList).1,.int .i64 n] w2 fun e w'=>(∃ v,e=.returned (.tuple #[v,.int .i64 (cutF V (pathO V p.data.toList).1 n).2])∧OwnRow (cutF V (pathO V p.data.toList).1 n).1 w2 v w')∧Below w2.heap.size w2 w'):=fun w2 h=>(cutF_any A c V (pathO V p.data.toList).1 n w2 hx h)
      replace HO:Hid (z=if (cutF V (pathO V p.data.toList).1 n).2=0 then ((cutF V (pathO V p.data.toList).1 n).1,true) else (V,false)):=HO
      generalize cutF V (pathO V p.data.toList).1 n=r at *)
   | (have e0:(7:Int)=kk:=hkk
      have CC:Hid (∀ w2,RowAt w2 w2.heap.size A (V.map .string)→Calls Tryz.prog 15 #[.slice A V.length c,.int .i64 (pathO V p.data.toList).1,.string q,.string d] w2 fun e w'=>(∃ v,e=.returned (.tuple #[v,.int .i64 (setF V (pathO V p.data.toList).1 (attL V (pathO V p.data.toList).1) q d).2])∧OwnRow (setF V (pathO V p.data.toList).1 (attL V (pathO V p.data.toList).1) q d).1 w2 v w')∧Below w2.heap.size w2 w'):=fun w2 h=>(setattr_any A c V (pathO V p.data.toList).1 (attL V (pathO V p.data.toList).1) q d w2 hx (by omega) (attL_ok V _).1 (attL_ok V _).2.1 (attL_ok V _).2.2 (fun h0 hk=>hD.attAt h0 hk) h)
      replace HO:Hid (z=if (setF V (pathO V p.data.toList).1 (attL V (pathO V p.data.toList).1) q d).2=0 then ((setF V (pathO V p.data.toList).1 (attL V (pathO V p.data.toList).1) q d).1,true) else (V,false)):=HO
      generalize setF V (pathO V p.data.toList).1 (attL V (pathO V p.data.toList).1) q d=r at *)
   | (have e0:(8:Int)=kk:=hkk
      have CC:Hid (∀ w2,RowAt w2 w2.heap.size A (V.map .string)→Calls Tryz.prog 36 #[.slice A V.length c,.int .i64 n,.int .i64 (d.size:Int)] w2 fun e w'=>(∃ v,e=.returned (.tuple #[v,.int .i64 (setO V n (d.size:Int)).2])∧OwnRow (setO V n (d.size:Int)).1 w2 v w')∧Below w2.heap.size w2 w'):=fun w2 h=>(set_quo A c V n (d.size:Int) w2 hx h)
      replace HO:Hid (z=if (setO V n (d.size:Int)).2=0 then ((setO V n (d.size:Int)).1,true) else (V,false)):=HO
      generalize setO V n (d.size:Int)=r at *)
  obtain ⟨pn,pe,hpp⟩:∃ a b,pathO V p.data.toList=(a,b):=⟨_,_,rfl⟩
  rw [hpp] at CP
  try rw [hpp] at CC
  dsimp only at CP CC
  obtain ⟨rs,e⟩:=r
  dsimp only at CC HO
  clear h hpp hD hx hn hp hq hd hkk e0 hk
  go_enter Tryz.func9,Tryz.ntmps9
  go_wp2_with fail
  rw [HW1.out]
  refine (CP.out _ (row_keep HR.out B1.out B1.out.size)).mono ?_
  rintro e' w2 ⟨rfl,hb2⟩
  have B2:=Lib.hid (B1.out.trans (hb2.mono B1.out.size))
  have X2:=Lib.hid (X1.out.below hb2 X1.out.lt)
  have x0:=X2.out.cell 0 rfl
  have x1:=X2.out.cell 1 rfl
  have x2:=X2.out.cell 2 rfl
  have x3:=X2.out.cell 3 rfl
  have x4:=X2.out.cell 4 rfl
  have x5:=X2.out.cell 5 rfl
  clear hb2 CP X1 HW1 B1
  go_wp2_with fail
  refine (CC.out _ (row_keep HR.out B2.out B2.out.size)).mono ?_
  rintro e' w3 ⟨⟨v,rfl,hown⟩,hb3⟩
  have B3:=Lib.hid (B2.out.trans (hb3.mono B2.out.size))
  obtain ⟨A3,c3,rfl,hrow⟩:=OwnRow.read hown
  have R3:=Lib.hid hrow
  clear hb3 hown hrow CC X2 x0 x1 x2 x3 x4 x5 B2
  by_cases he:e=0
  ·subst he
   rw [if_pos rfl] at HO
   go_wp2
   go_ret2
   rw [HO.out]
   exact ⟨⟨_,_,rfl,R3.out⟩,B3.out⟩
  ·have he':(e != 0)=true:=by simpa using he
   rw [if_neg he] at HO
   go_wp2
   go_ret2
   rw [HO.out]
   exact ⟨⟨_,_,rfl,row_keep HR.out B3.out B3.out.size⟩,B3.out⟩
set_option maxHeartbeats 8000000 in
theorem act_x (A:Option Addr) (c:Nat) (V:List ByteArray) (m:Nat) (a:DeedV) (w:World) (hx:V.length≤1000000) (hk:a.kind<0∨8<a.kind) (h:RowAt w w.heap.size A (V.map .string)) :
  Calls Tryz.prog 9 #[.slice A V.length c,.agg (deedC a)] w (ActPost (actO V a) w):=by
 obtain ⟨k,n,p,q,d,o⟩:=a
 dsimp only at hk
 have HR:=Lib.hid h
 have CP:=Lib.hid (fun w h=>path_any A c V p w hx h)
 have HO:Hid (actO V ⟨k,n,p,q,d,o⟩=(V,false)):=by
  show _=_
  have hI:actI V ⟨k,n,p,q,d,o⟩=([],1):=by
   unfold actI
   dsimp only
   rw [if_neg (by omega),if_neg (by omega),if_neg (by omega),if_neg (by omega),if_neg (by omega),if_neg (by omega),if_neg (by omega),if_neg (by omega),if_neg (by omega)]
  unfold actO
  rw [hI]
  rfl
 generalize actO V ⟨k,n,p,q,d,o⟩=z at *
 obtain ⟨W1,hW1⟩:∃ W1,w.alloc (.cells #[.int .i64 k,.int .i64 n,.string p,.string q,.string d,.int .i64 o] 30)=W1:=⟨_,rfl⟩
 have B1:Hid (Below w.heap.size w W1):=hW1▸(Below.refl _ _).alloc (Nat.le_refl _) _
 have X1:Hid (Blk W1 w.heap.size 30 #[.int .i64 k,.int .i64 n,.string p,.string q,.string d,.int .i64 o]):=hW1▸Blk.new w _ _
 have HW1:=Lib.hid hW1
 have k0:(k == 0)=false:=by simpa using (by omega:¬ k=0)
 have k1:(k == 1)=false:=by simpa using (by omega:¬ k=1)
 have k2:(k == 2)=false:=by simpa using (by omega:¬ k=2)
 have k3:(k == 3)=false:=by simpa using (by omega:¬ k=3)
 have k4:(k == 4)=false:=by simpa using (by omega:¬ k=4)
 have k5:(k == 5)=false:=by simpa using (by omega:¬ k=5)
 have k6:(k == 6)=false:=by simpa using (by omega:¬ k=6)
 have k7:(k == 7)=false:=by simpa using (by omega:¬ k=7)
 have k8:(k == 8)=false:=by simpa using (by omega:¬ k=8)
 clear h hW1 hk
 show Calls _ _ #[.slice A V.length c,.agg #[.int .i64 k,.int .i64 n,.string p,.string q,.string d,.int .i64 o]] _ _
 go_enter Tryz.func9,Tryz.ntmps9
 go_wp2_with fail
 rw [HW1.out]
 refine (CP.out _ (row_keep HR.out B1.out B1.out.size)).mono ?_
 rintro e' w2 ⟨rfl,hb2⟩
 have B2:=Lib.hid (B1.out.trans (hb2.mono B1.out.size))
 have X2:=Lib.hid (X1.out.below hb2 X1.out.lt)
 have x0:=X2.out.cell 0 rfl
 clear hb2 CP X1 HW1 B1
 go_wp2
 go_ret2
 rw [HO.out]
 exact ⟨⟨_,_,rfl,row_keep HR.out B2.out B2.out.size⟩,B2.out⟩
theorem act_any (A:Option Addr) (c:Nat) (V:List ByteArray) (m:Nat) (a:DeedV) (w:World) (hx:V.length≤1000000) (hD:DirT V m) (hok:DeedOk a) (h:RowAt w w.heap.size A (V.map .string)) :
  Calls Tryz.prog 9 #[.slice A V.length c,.agg (deedC a)] w (ActPost (actO V a) w):=by
 obtain ⟨k,n,p,q,d,o⟩:=a
 by_cases hk:k<0∨8<k
 ·exact act_x A c V m _ w hx hk h
 ·exact act_k A c V m k n o p q d w (by omega) hx hD hok h
section
variable {V W X ys:List ByteArray} {m n k c d b:Nat} {l l':List Nat} {E E':List EntV}
def NoLim (V:List ByteArray):Prop:=∀ o,o<16→limN V o=0
theorem NoLim.same (h:NoLim V) (hb:blkL W 1=blkL V 1):NoLim W:=fun o ho=>by
 unfold limN
 rw [hb]
 exact h o ho
theorem beyond_none (h:NoLim W):beyondO V W=false:=by
 unfold beyondO
 rw [List.any_eq_false]
 intro o ho
 have ho:=List.mem_range.1 ho
 unfold beyB limitO
 rw [Int.toNat_natCast,h o ho]
 split <;> simp
theorem zeros_one (o:Nat) (ho:o<16):numAt (List.replicate 128 (0:UInt8)) (2 * o) 2=0:=by
 revert o
 decide
theorem zeros_kind:numAt (List.replicate 128 (0:UInt8)) 0 1=0∧numAt (List.replicate 128 (0:UInt8)) 64 1=0:=by decide
theorem zerosB_data:(zerosB 128).data.toList=List.replicate 128 (0:UInt8):=by unfold zerosB;simp
theorem fmt_blkT {b m i:Nat} (hb:16≤b) (hi:i<b) (h0:i≠0) (h2:i≠2):blkL (fmtV b m) i=List.replicate 128 (0:UInt8):=by
 unfold blkL
 rw [fmtV_get b m i hb,if_neg h2,if_neg h0,if_pos hi,zerosB_data]
theorem fmt_kindT {b m n:Nat} (hp:planE (b:Int) (m:Int)=0) (h1:1≤n) (h2:n≤m):kindR (fmtV b m) n=0:=by
 have:=planE_ok hp
 unfold kindR
 rw [fmt_blkT (by omega) (by unfold blkN;omega) (by unfold blkN;omega) (by unfold blkN;omega)]
 unfold atN
 rcases Nat.mod_two_eq_zero_or_one (n-1) with e | e <;> rw [e]
 ·exact zeros_kind.1
 ·exact zeros_kind.2
theorem fmt_nolim {b m:Nat} (hb:16≤b):NoLim (fmtV b m):=fun o ho=>by
 unfold limN
 rw [fmt_blkT hb (by omega) (by omega) (by omega)]
 exact zeros_one o ho
theorem fmt_inv {b m:Nat} (hp:planE (b:Int) (m:Int)=0):InvT (fmtV b m) m:=by
 have hd:∀ n,¬ LiveT (fmtV b m) m n:=fun n h=>h.2.2 (fmt_kindT hp h.1 h.2.1)
 have hs:sumT (fmtV b m) m=0:=by
  rw [sumT_all]
  have:(List.range' 1 m).map (fun k:Nat=>if kindR (fmtV b m) k≠0 then cntT (fmtV b m) m (getR (fmtV b m) (k:Int)) else 0)=(List.range' 1 m).map (fun _=>0):=List.map_congr_left fun k hk=>by
   obtain ⟨i,i1,i2⟩:=List.mem_range'.1 hk
   rw [if_neg (fun h=>h (fmt_kindT hp (by omega) (by omega)))]
  rw [this]
  clear this
  have key:∀ L:List Nat,(L.map fun _=>0).sum=0:=fun L=>by
   induction L with
   | nil=>rfl
   | cons a L ih=>rw [List.map_cons,List.sum_cons,ih]
  exact key _
 refine ⟨fmtV_vol hp,fun n h=>absurd h (hd n),fun n k h=>absurd h (hd n),fun n h=>absurd h (hd n),fun n k h=>absurd h (hd n),?_⟩
 rw [hs,fmtV_room hp,fmtV_length]
 rfl
theorem fmt_dir {b m:Nat} (hp:planE (b:Int) (m:Int)=0):DirT (fmtV b m) m:=by
 have hd:∀ n,¬ LiveT (fmtV b m) m n:=fun n h=>h.2.2 (fmt_kindT hp h.1 h.2.1)
 exact ⟨fmt_inv hp,fun n h=>absurd h (hd n),fun n h=>absurd h (hd n),fun n h=>absurd h (hd n)⟩
theorem new_first (hv:IsVol V m) {kind:Int} (hk:kind=1∨kind=2) (h1:1≤n) (h2:n≤m) (h0:kindR V n=0) (hf:∀ j,1≤j→j<n→kindR V j≠0):newO V kind 0=(putV V n (newL kind.toNat 0),(n:Int),0):=by
 unfold newO
 rw [ofR_some.2 hv]
 dsimp only
 rw [if_neg (by omega),freeI_some.2 ⟨h1,h2,h0,hf⟩]
 rfl
def topV (b m:Nat):List ByteArray:=putV (fmtV b m) 1 (newL 2 0)
theorem top_new {b m:Nat} (hp:planE (b:Int) (m:Int)=0):newO (fmtV b m) 2 0=(topV b m,1,0):=by
 have:=planE_ok hp
 exact new_first (n:=1) (fmtV_vol hp) (.inr rfl) (Nat.le_refl _) (by omega) (fmt_kindT hp (Nat.le_refl _) (by omega)) (fun j a b=>by omega)
theorem top_make {b m:Nat} (hp:planE (b:Int) (m:Int)=0):makeO (b:Int) (m:Int)=(topV b m,0):=by
 unfold makeO
 rw [if_neg (fun h=>h hp)]
 show ((newO (fmtV b m) 2 0).1,(newO (fmtV b m) 2 0).2.2)=_
 rw [top_new hp]
theorem top_tree {b m:Nat} (hp:planE (b:Int) (m:Int)=0):FsT (topV b m) m∧entD (topV b m) 1=[]∧NoLim (topV b m)∧(topV b m).length=b∧roomR (topV b m)=b-dataN m∧getR (topV b m) ((1:Nat):Int)=newL 2 0∧∀ k,1≤k→k≤m→k≠1→kindR (topV b m) k=0:=by
 have hpo:=planE_ok hp
 have hn:=top_new hp
 obtain ⟨n,n1,n2,n3,n4,n5,nf,nd,nl,nk,nli,ne,nr⟩:=(fmt_dir hp).new (kind:=2) (owner:=0) (by rw [hn])
 rw [hn] at n5 nf nd nl nk nli ne nr
 dsimp only at n5 nf nd nl nk nli ne nr
 obtain rfl:n=1:=by omega
 have hv:=fmtV_vol hp
 have hkk:∀ k,1≤k→k≤m→k≠1→kindR (topV b m) k=0:=fun k a b' c=>by rw [nf.kind hv a b' c];exact fmt_kindT hp a b'
 have hlk:∀ k,LiveT (topV b m) m k→k=1:=fun k hk=>Classical.not_not.1 fun h=>hk.2.2 (hkk k hk.1 hk.2.1 h)
 have he:=ne rfl
 have hc:∀ k,cntE (topV b m) m k=0:=fun k=>cntE_zero fun d h1 h2=>by
  unfold cntD
  by_cases hd:kindR (topV b m) d=2
  ·have:=hlk d ⟨h1,h2,by omega⟩
   subst this
   rw [if_pos hd,he];rfl
  ·rw [if_neg hd]
 refine ⟨⟨nd,nl,nk,fun d hd _ x hx=>?_,fun d hd _=>?_,fun d hd=>?_⟩,he,?_,?_,?_,?_,hkk⟩
 ·obtain rfl:=hlk d hd
  rw [he] at hx;cases hx
 ·obtain rfl:=hlk d hd
  exact nli
 ·obtain rfl:=hlk d hd
  rw [nli,hc,if_pos rfl];rfl
 ·exact (fmt_nolim (by omega)).same (put_one hv (Nat.le_refl _) (by omega) _)
 ·rw [nf.len,fmtV_length]
 ·unfold topV
  rw [roomR_put hv (Nat.le_refl _) (by omega),fmtV_room hp]
 ·exact get_put_same hv (Nat.le_refl _) (by omega) (newL_fit (by decide) (by decide))
theorem write_roomy (hI:InvT V m) (hn:LiveT V m n) {u:List UInt8} (hu:u≠[]) (hl:u.length≤128) (h0:∀ s,s<70→atX V m (getR V (n:Int)) s=0) (hr:4≤roomR V):(writeO V (n:Int) 0 u).2=0:=by
 have g:=hI.good n hn
 unfold writeO
 rw [inoE_zero hI.vol hn.1 hn.2.1,if_neg (by simp),if_neg (by omega),if_neg (by omega),mO_vol hI.vol]
 have hpos:=List.length_pos_iff.2 hu
 have:=wri_room (off:=0) (d:=u) (B:=1) g.ok g.own (fun s hs h=>absurd (h0 s hs) h) (by decide) (by omega) (fallN 0 u.length) (by unfold fallN;split <;> omega)
 have hsome:=wriG_some (off:=0) (d:=u) this
 have hsome:wriG noK V m (getR V (n:Int)) (0:Int).toNat u≠none:=hsome
 generalize wriG noK V m (getR V (n:Int)) (0:Int).toNat u=q at *
 cases q with
 | none=>exact absurd rfl hsome
 | some r=>rfl
theorem write_after (hI:InvT V m) (hn:LiveT V m n) {u:List UInt8} (hl:u.length≤128) (h0:∀ s,s<70→atX V m (getR V (n:Int)) s=0) (he:(writeO V (n:Int) 0 u).2=0) :
  roomR V≤roomR (writeO V (n:Int) 0 u).1+2∧blkL (writeO V (n:Int) 0 u).1 1=blkL V 1:=by
 obtain ⟨_,_,r,ws,hw,mv⟩:=hI.write hn he
 have hvr:=ws.mv.vol
 rw [hw]
 refine ⟨?_,?_⟩
 ·rw [roomR_put hvr hn.1 hn.2.1]
  have h1:=ws.mv.room
  have h2:=cntS_le (xs:=r.1) (m:=m) (l:=r.2) (B:=1) fun s hs hne=>by
   rcases (ws.at_ s hs).1 hne with a | ⟨_,_,a⟩
   ·exact absurd (h0 s hs) a
   ·have:(0:Int).toNat=0:=rfl
    omega
  omega
 ·rw [put_one hvr hn.1 hn.2.1]
  exact ws.mv.low 1 (by unfold dataN;omega) (by decide)
def initP:ByteArray:=⟨#[47,105,110,105,116]⟩
def initN:ByteArray:=⟨#[105,110,105,116]⟩
def fileB:ByteArray:=⟨#[97,32,102,105,108,101]⟩
theorem init_parts:mayP initP.data.toList=true∧initP.data.toList≠[47]∧(aboveB initP).data.toList=[47]∧lastB initP=initN∧mayB initN.data.toList=true:=⟨by kernel_rfl,by decide,by kernel_rfl,by kernel_rfl,by kernel_rfl⟩
theorem path_top (V:List ByteArray):pathO V [47]=(1,0):=by
 unfold pathO
 have:mayP [47]=true:=by kernel_rfl
 rw [this,if_neg (by simp)]
 rfl
def fileV (b m:Nat):List ByteArray:=(madeO (topV b m) initP 1 0).1
theorem top_vac {b m:Nat} (hp:planE (b:Int) (m:Int)=0):vacO (topV b m) initP=(1,initN,0):=by
 obtain ⟨h1,h2,h3,h4,h5⟩:=init_parts
 obtain ⟨t1,t2,_⟩:=top_tree hp
 unfold vacO
 rw [h1,if_neg (by simp),if_neg h2,h3,path_top,h4,if_neg (by simp)]
 have hD:=t1.dir.dir 1 t1.root t1.rootk
 rw [t2] at hD
 have hf:findO (topV b m) 1 initN=(0,9):=by
  unfold findO
  rw [h5,if_neg (by simp),show listO (topV b m) 1=([],0) from hD.list]
  rfl
 rw [hf,if_pos rfl]
theorem file_made {b m:Nat} (hp:planE (b:Int) (m:Int)=0) (hr:9≤b-dataN m):madeO (topV b m) initP 1 0=(fileV b m,2,0)∧FsT (fileV b m) m∧LiveT (fileV b m) m 2∧kindR (fileV b m) 2=1∧(∀ s,s<70→atX (fileV b m) m (getR (fileV b m) ((2:Nat):Int)) s=0)∧7≤roomR (fileV b m)∧NoLim (fileV b m)∧(fileV b m).length=b:=by
 obtain ⟨t1,t2,t3,t4,t5,t6,t7⟩:=top_tree hp
 have hpo:=planE_ok hp
 have hv:=t1.vol
 have hn:newO (topV b m) 1 0=(putV (topV b m) 2 (newL 1 0),2,0):=by
  refine new_first (n:=2) hv (.inl rfl) (by decide) (by omega) (t7 2 (by decide) (by omega) (by decide)) fun j a b=>?_
  obtain rfl:j=1:=by omega
  rw [t1.rootk];decide
 obtain ⟨n,q0,q1,q2,q3,q4,q5,q6,q7,q8⟩:=TreeX.new t1 (kind:=1) (owner:=0) (by rw [hn])
 rw [hn] at q0 q2 q4 q5 q6 q7 q8
 dsimp only at q0 q2 q4 q5 q6 q7 q8
 obtain rfl:n=2:=by omega
 have hr1:LiveT (putV (topV b m) 2 (newL 1 0)) m 1:=q8.root
 have hg1:getR (putV (topV b m) 2 (newL 1 0)) ((1:Nat):Int)=newL 2 0:=by rw [q5.rest 1 (by decide) (by omega) (by decide),t6]
 have hD:=q8.dir.dir 1 hr1 q8.rootk
 rw [q7 1 t1.root t1.rootk,t2] at hD
 have hr2:roomR (putV (topV b m) 2 (newL 1 0))=b-dataN m:=by rw [roomR_put hv (by decide) (by omega),t5]
 have hat:∀ s,s<70→atX (putV (topV b m) 2 (newL 1 0)) m (getR (putV (topV b m) 2 (newL 1 0)) ((1:Nat):Int)) s=0:=fun s hs=>by
  rw [hg1,← slotX_lt hs];exact newL_slot _ _ _ _ _
 have hok:okE ⟨initN,2⟩=true:=by kernel_rfl
 obtain ⟨ea,_⟩:=hD.add (nm:=initN) (ino:=2) hok rfl
 have hlen:(bytesE (insE [] ⟨initN,2⟩)).length=32:=by kernel_rfl
 have hw0:(writeO (putV (topV b m) 2 (newL 1 0)) ((1:Nat):Int) 0 (bytesE (insE [] ⟨initN,2⟩))).2=0:=
  write_roomy q8.dir.inv hr1 (fun e=>by rw [e] at hlen;cases hlen) (by rw [hlen];decide) hat (by omega)
 have hw1:=write_after q8.dir.inv hr1 (by rw [hlen];decide) hat hw0
 rw [← ea] at hw0 hw1
 obtain ⟨a1,dd,hz,_,a2⟩:=q8.add (z:=((1:Nat):Int)) (nm:=initN) (n:=2) q2 (by decide) hw0
 obtain rfl:dd=1:=by omega
 have c1:((1:Nat):Int)=1:=rfl
 have c2:((2:Nat):Int)=2:=rfl
 rw [c1] at hw0 hw1
 rw [c1,c2] at a1 a2
 have hvac:=top_vac hp
 have hmi:madeI (topV b m) initP 1 0=addO (putV (topV b m) 2 (newL 1 0)) 1 initN 2:=by
  unfold madeI
  rw [hvac,hn,if_neg (by simp),if_neg (by simp)]
 have hfv0:fileV b m=(madeO (topV b m) initP 1 0).1:=rfl
 generalize addO (putV (topV b m) 2 (newL 1 0)) 1 initN 2=aw at *
 obtain ⟨W,ec⟩:=aw
 dsimp only at hw0 hw1 a1 a2
 subst hw0
 have hNL:NoLim W:=(t3.same (put_one hv (by decide) (by omega) _)).same hw1.2
 have hmade:madeO (topV b m) initP 1 0=(W,2,0):=by
  have hwe:weighO (topV b m) (madeI (topV b m) initP 1 0)=(W,0):=by
   unfold weighO
   rw [hmi,if_neg (by simp),beyond_none hNL,if_neg (by simp)]
  unfold madeO
  rw [hwe,hn,if_neg (by simp)]
 rw [hmade] at hfv0
 rw [hfv0,hmade]
 have hg2:getR W ((2:Nat):Int)=newL 1 0:=by
  rw [a2.far.rest 2 (by decide) (by omega) (by decide)]
  exact get_put_same hv (by decide) (by omega) (newL_fit (by decide) (by decide))
 have hlv:LiveT W m 2:=(a2.liveA q8.vol).2 q2
 refine ⟨rfl,a1.congr fun k _=>?_,hlv,?_,fun s hs=>?_,?_,hNL,?_⟩
 ·unfold atX1
  by_cases ek:k=2
  ·rw [if_pos ek,if_pos rfl];rfl
  ·rw [if_neg ek,if_neg ek]
 ·rw [← kind_getT a1.vol (by decide) (by omega),hg2];rfl
 ·show atX W m (getR W ((2:Nat):Int)) s=0
  rw [hg2,← slotX_lt hs];exact newL_slot _ _ _ _ _
 ·have:=hw1.1
  rw [hr2] at this
  show 7≤roomR W
  omega
 ·rw [a2.far.len,q5.len,t4]
def startV (b m:Nat):List ByteArray:=(writeF (fileV b m) 2 0 fileB.data.toList).1
theorem start_ok {b m:Nat} (hp:planE (b:Int) (m:Int)=0) (hr:9≤b-dataN m):writeF (fileV b m) 2 0 fileB.data.toList=(startV b m,0)∧FsT (startV b m) m∧(startV b m).length=b∧NoLim (startV b m):=by
 obtain ⟨_,f2,f3,f4,f5,f6,f7,f8⟩:=file_made hp hr
 have hs0:startV b m=(writeF (fileV b m) ((2:Nat):Int) 0 fileB.data.toList).1:=rfl
 have hs1:writeF (fileV b m) 2 0 fileB.data.toList=writeF (fileV b m) ((2:Nat):Int) 0 fileB.data.toList:=rfl
 rw [hs1,hs0]
 clear hs0 hs1
 generalize fileV b m=V at *
 have hlen:fileB.data.toList.length=6:=by kernel_rfl
 generalize fileB.data.toList=u at *
 have hfile:fileO V ((2:Nat):Int)=0:=by
  unfold fileO
  rw [inoE_zero f2.vol f3.1 f3.2.1,if_neg (by simp),kind_getT f2.vol f3.1 f3.2.1,f4,if_neg (by simp)]
 have hw:=write_roomy (u:=u) f2.dir.inv f3 (fun e=>by rw [e] at hlen;cases hlen) (by omega) f5 (by omega)
 have ha:=write_after (u:=u) f2.dir.inv f3 (by omega) f5 hw
 have hN:NoLim (writeO V ((2:Nat):Int) 0 u).1:=f7.same ha.2
 have e:writeF V ((2:Nat):Int) 0 u=((writeO V ((2:Nat):Int) 0 u).1,0):=by
  unfold writeF weighO
  rw [hfile,if_neg (by simp),hw,if_neg (by simp),beyond_none hN,if_neg (by simp)]
 obtain ⟨a,l⟩:=TreeX.write f2 (z:=((2:Nat):Int)) (off:=0) (b:=u) (by rw [e])
 rw [e] at a l ⊢
 exact ⟨rfl,a,by rw [← f8];exact l,hN⟩
end
def deedsC (l:List DeedV):List Value:=l.flatMap fun a=>(deedC a).toList
theorem deedsC_len (l:List DeedV):(deedsC l).length=l.length * 6:=by
 induction l with
 | nil=>rfl
 | cons x l ih=>show ([_,_,_,_,_,_]++deedsC l).length=_;simp [ih];omega
theorem deedsC_get:∀ {l:List DeedV} {k:Nat} (hk:k<l.length) (i:Nat) (v:Value),(deedC l[k]).toList[i]?=some v→(deedsC l)[k * 6+i]?=some v
 | [],k,hk,_,_,_=>absurd hk (Nat.not_lt_zero _)
 | x::l,0,_,i,v,h=>by
  have hi:i<6:=(List.getElem?_eq_some_iff.1 h).1
  show ((deedC x).toList++deedsC l)[0 * 6+i]?=some v
  rw [Nat.zero_mul,Nat.zero_add,List.getElem?_append_left (by show i<6;exact hi)]
  exact h
 | x::l,k+1,hk,i,v,h=>by
  have:=deedsC_get (l:=l) (k:=k) (by simpa using hk) i v h
  show ((deedC x).toList++deedsC l)[(k+1) * 6+i]?=some v
  rw [List.getElem?_append_right (by show 6≤_;omega)]
  show (deedsC l)[(k+1) * 6+i-6]?=some v
  rw [show (k+1) * 6+i-6=k * 6+i by omega]
  exact this
theorem deed_at {w:World} {B:Nat} {A:Option Addr} {l:List DeedV} (h:RowAt w B A (deedsC l)) {k:Nat} (hk:k<l.length) :
  ∃ b o,A=some ⟨b,o,none⟩∧b<B∧w.rangeAt b (o+k * 6) (deedC l[k]).toList:=by
 obtain ⟨b,o,hA,hb,hc⟩:=RowAt.at_ h (by rw [deedsC_len];omega)
 refine ⟨b,o,hA,hb,fun j u hu=>?_⟩
 rw [Nat.add_assoc]
 exact hc _ _ (deedsC_get hk j u hu)
def greatD (a:DeedV):Bool:=decide (300<a.path.size∨300<a.goal.size∨600<a.data.size)
def greatB (l:List DeedV):Bool:=l.any greatD || decide (24<l.length)
set_option maxHeartbeats 4000000 in
theorem great_any (A:Option Addr) (c:Nat) (l:List DeedV) (w:World) (hl:l.length≤9223372036854775807) (h:RowAt w w.heap.size A (deedsC l)) :
  Calls Tryz.prog 7 #[.slice A l.length c] w fun e w'=>e=.returned (.bool (greatB l))∧Below w.heap.size w w':=by
 have HR:=Lib.hid h
 have HL:Hid (l.length≤9223372036854775807):=hl
 have HG:Hid (greatB l=(l.any greatD || decide (24<l.length))):=by show _=_;rfl
 have HB0:=Lib.hid (Below.refl w.heap.size w)
 clear h hl
 go_enter Tryz.func7,Tryz.ntmps7
 go_wp2
 go_loopw [4,7] (fun _ i wr=>∃ k:Nat,k≤l.length∧i=.int .i64 (k:Int)∧Hid ((l.take k).any greatD=false)∧Hid (Below w.heap.size w wr)) (fun _ i _=>l.length-(intOf i).toNat)
 case atStart=>exact ⟨0,Nat.zero_le _,rfl,rfl,HB0⟩
 case round=>
  clear HB0
  obtain ⟨k,hk,rfl,HT,B⟩:=hrel
  by_cases hlt:k<l.length
  ·obtain ⟨bA,oA,rfl,hbA,hrA⟩:=deed_at (RowAt.below HR.out B.out) hlt
   have HN:Hid ((l.take (k+1)).any greatD=((l.take k).any greatD || greatD l[k])):=by
    show _=_
    rw [List.take_succ_eq_append_getElem hlt,List.any_append]
    simp
   have HA:Hid (greatD l[k]=true→l.any greatD=true):=fun h=>List.any_eq_true.2 ⟨_,List.getElem_mem hlt,h⟩
   generalize l[k]=x at *
   obtain ⟨kd,n,p,q,d,o⟩:=x
   have HR1:Hid (wr.rangeAt bA (oA+k * 6) [.int .i64 kd,.int .i64 n,.string p,.string q,.string d,.int .i64 o]):=hrA
   have HD:Hid (greatD ⟨kd,n,p,q,d,o⟩=decide (300<p.size∨300<q.size∨600<d.size)):=by show _=_;rfl
   have B4:=Lib.hid (B.out.alloc B.out.size (.cells #[.int .i64 kd,.int .i64 n,.string p,.string q,.string d,.int .i64 o] 30))
   have i2:(k:Int)<(l.length:Int):=by omega
   have i3:(0:Int)≤(k:Int):=by omega
   have hll:=HL.out
   have ws:IntKind.i64.wrap ((k:Int)+1)=(k:Int)+1:=IntWalk.i64_in _ (by omega)
   clear hrA hll
   by_cases h1:300<p.size∨300<q.size∨600<d.size
   ·have hg:=HA.out (HD.out.trans (decide_eq_true h1))
    have HO:Hid (greatB l=true):=by show _=_;rw [HG.out,hg];rfl
    clear hg
    by_cases p1:300<p.size
    ·have p1':decide ((300:Int)<(p.size:Int))=true:=decide_eq_true (by omega)
     go_wp2_with (refine wpList_load_mid rfl 30 (.tmp 9) rfl bA (oA+k * 6) rfl _ _ HR1.out Tryz.underlying30 rfl (by kernel_rfl) ?_;go_frame)
     go_ret
     exact ⟨ret_bool HO.out.symm,B4.out⟩
    ·have p1':decide ((300:Int)<(p.size:Int))=false:=decide_eq_false (by omega)
     by_cases p2:300<q.size
     ·have p2':decide ((300:Int)<(q.size:Int))=true:=decide_eq_true (by omega)
      go_wp2_with (refine wpList_load_mid rfl 30 (.tmp 9) rfl bA (oA+k * 6) rfl _ _ HR1.out Tryz.underlying30 rfl (by kernel_rfl) ?_;go_frame)
      go_ret
      exact ⟨ret_bool HO.out.symm,B4.out⟩
     ·have p2':decide ((300:Int)<(q.size:Int))=false:=decide_eq_false (by omega)
      have p3':decide ((600:Int)<(d.size:Int))=true:=decide_eq_true (by omega)
      go_wp2_with (refine wpList_load_mid rfl 30 (.tmp 9) rfl bA (oA+k * 6) rfl _ _ HR1.out Tryz.underlying30 rfl (by kernel_rfl) ?_;go_frame)
      go_ret
      exact ⟨ret_bool HO.out.symm,B4.out⟩
   ·have HX:Hid ((l.take (k+1)).any greatD=false):=by show _=_;rw [HN.out,HT.out,HD.out,decide_eq_false h1];rfl
    have p1':decide ((300:Int)<(p.size:Int))=false:=decide_eq_false (by omega)
    have p2':decide ((300:Int)<(q.size:Int))=false:=decide_eq_false (by omega)
    have p3':decide ((600:Int)<(d.size:Int))=false:=decide_eq_false (by omega)
    clear h1
    go_wp2_with (refine wpList_load_mid rfl 30 (.tmp 9) rfl bA (oA+k * 6) rfl _ _ HR1.out Tryz.underlying30 rfl (by kernel_rfl) ?_;go_frame)
    go_roundw
    case rel=>exact ⟨k+1,by omega,by go_num,HX,B4⟩
    case measure=>simp [intOf];omega
  ·obtain rfl:k=l.length:=by omega
   have HTK:Hid (l.take l.length=l):=List.take_length
   rw [HTK.out] at HT
   go_wp2
   go_ret
   refine ⟨ret_bool ?_,B.out⟩
   rw [HG.out,HT.out,Bool.false_or]
   exact decide_eq_decide.2 (by omega)
end Go.Proofs.YtdldlendppkknaaGreatDoor
