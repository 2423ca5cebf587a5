/-
  Contracts and plain laws: GeomT, GeomU, GeomF, RGeomOf, RGeomU, Written.
-/
import Derived.RegionTactic
import Derived.BigRegion
import Derived.Laws.OwnMore
import Derived.Lib.AppendStr
import Derived.Test.YtdldlendppkknaaGreatDoorPackV04
namespace Go.Proofs.YtdldlendppkknaaGreatDoor
open Go.RowKit
set_option linter.unusedVariables false
set_option linter.unusedSimpArgs false
theorem of_any (A:Option Addr) (c:Nat) (xs:List ByteArray) (w:World) (hx:xs.length≤1000000) (h:RowAt w w.heap.size A (xs.map .string)) :
  Calls Tryz.prog 17 #[.slice A xs.length c] w (OfPost xs w):=by
 by_cases hn:∀ s ∈ xs,s.size=128
 ·exact of_good A c xs w hx h hn
 ·exact of_bad A c xs w hx h hn
def NewRow (ys:List ByteArray) (w:World) (v:Value) (w':World):Prop:=∃ g,v=.slice (some ⟨g,0,none⟩) ys.length ys.length∧w.heap.size≤g∧Blk w' g 9 (ys.map .string).toArray
theorem str_info:(Tryz.prog.info? 9).map (fun i=>(i.zero,i.size,i.bytes))=some (some (.string ⟨#[]⟩),1,16):=by kernel_rfl
theorem u8_info:(Tryz.prog.info? 5).map (fun i=>(i.zero,i.size,i.bytes))=some (some (.int .u8 0),1,1):=by kernel_rfl
theorem str_sz:(Tryz.prog.info? 9).map (·.size)=some 1:=by kernel_rfl
theorem u8_sz (w:World):(sizeOf 5).run Tryz.prog w=.ok 1 w:=by kernel_rfl
theorem str_cells (xs:List ByteArray):∀ v ∈ xs.map Value.string,v.oneCell'=true:=by
 intro v hv
 obtain ⟨x,_,rfl⟩:=List.mem_map.1 hv
 rfl
theorem turn_byte (s:ByteArray) (i:Nat) (h:i / 8<s.size):bits .xor .u8 (s[i / 8].toNat:Int) (2 ^ (i % 8) % 256)=(((turnL s.data.toList i).getD (i / 8) 0).toNat:Int):=by
 have h1:=two_pow_lt i
 have e:((2:Int) ^ (i % 8) % 256)=((2 ^ (i % 8):Nat):Int):=by
  have:((2:Int) ^ (i % 8))=((2 ^ (i % 8):Nat):Int):=by simp
  rw [this]
  generalize (2:Nat) ^ (i % 8)=q at h1
  omega
 rw [e,u8_xor_nat _ _ (s[i / 8].toNat_lt) h1]
 unfold turnL
 have hl:i / 8<s.data.toList.length:=by simpa using h
 rw [getD_set _ _ _ _ _ hl,if_pos rfl,UInt8.toNat_xor,toNat_two_pow]
 have:s.data.toList.getD (i / 8) 0=s[i / 8]:=by simp only [List.getD,List.getElem?_eq_getElem hl];rfl
 rw [this]
theorem turn_cells (s:ByteArray) (i:Nat) (h:i / 8<s.size) (z:Int) (hz:z=(((turnL s.data.toList i).getD (i / 8) 0).toNat:Int)) :
  ((s.data.toList.map fun x=>Value.int .u8 (x.toNat:Int)).toArray.setIfInBounds (i / 8) (.int .u8 z))=((turnB s i).data.toList.map fun x=>Value.int .u8 (x.toNat:Int)).toArray:=by
 have hl:i / 8<s.data.toList.length:=by simpa using h
 rw [List.setIfInBounds_toArray,turnB_list]
 congr 1
 subst hz
 unfold turnL
 rw [getD_set _ _ _ _ _ hl,if_pos rfl,List.map_set]
set_option maxRecDepth 100000 in
set_option maxHeartbeats 2000000 in
theorem turned_any (A:Option Addr) (c:Nat) (xs:List ByteArray) (i:Nat) (w:World) (h16:3≤xs.length) (hx:xs.length≤1000000) (h2:(xs.getD 2 ⟨#[]⟩).size=128) (hi:i<1024) (h:RowAt w w.heap.size A (xs.map .string)) :
  Calls Tryz.prog 183 #[.slice A xs.length c,.int .i64 i] w fun e w'=>∃ v,e=.returned v∧NewRow (turnV xs i) w v w'∧Below w.heap.size w w':=by
 obtain ⟨i0,q1,q2,q3,q4⟩:=info_parts str_info
 obtain ⟨i1,r1,r2,r3,r4⟩:=info_parts u8_info
 have HR:=Lib.hid h
 obtain ⟨b,o,rfl,hb,hc⟩:=row_get h 2 (by omega)
 generalize hs:xs.getD 2 ⟨#[]⟩=s at h2 hc
 have HS:=Lib.hid hs
 have H2:=Lib.hid h2
 have h3:i / 8<s.size:=by omega
 have HT:=Lib.hid (turn_byte s i h3)
 have HC:=Lib.hid hc
 clear h hs hc h2
 have I0:=Lib.hid (And.intro q1 (And.intro q2 (And.intro q3 q4)))
 have I1:=Lib.hid (And.intro r1 (And.intro r2 (And.intro r3 r4)))
 clear q1 q2 q3 q4 r1 r2 r3 r4
 go_enter Tryz.func183,Tryz.ntmps183
 go_wp2_with (first
  | (refine make_blk 44 (.const (.int .i64 128)) (.const (.int .i64 128)) 5 i1 (.int .u8 0) 128 128 128 rfl rfl Tryz.underlying44 I1.out.1 I1.out.2.1 I1.out.2.2.1 rfl rfl rfl rfl rfl (by rw [I1.out.2.2.2];decide) (by decide) ?_;intro w1 g1 hg1;have G1:=Lib.hid g1;have B1:=Lib.hid ((Below.refl w.heap.size w).grown hg1 (Nat.le_refl _) (by intro k hk;cases hk));have hc1:w1.cell? ⟨b,o+2,none⟩=some (.string s):=(B1.out.cell (p:=⟨b,o+2,none⟩) hb).trans HC.out;clear g1 hg1)
  | (refine copy_str_blk (.tmp 8) (.tmp 11) 44 9 5 w.heap.size 128 128 5 (Array.replicate 128 (.int .u8 0)) s rfl rfl Tryz.underlying44 u8_sz rfl rfl G1.out (by simp) H2.out ?_;intro w2 g2 hg2;have G2:=Lib.hid g2;have hz1:w.heap.size≤w1.heap.size:=B1.out.size;have B2:=Lib.hid (B1.out.grown hg2 hz1 (by intro k hk;cases hk;exact Nat.le_refl _));clear g2 hg2 hc1))
 have k1:w2.cell? ⟨w.heap.size,i / 8,none⟩=some (.int .u8 (s[i / 8].toNat:Int)):=G2.out.cell (i / 8) (by
  have:i / 8<s.data.toList.length:=by simpa using h3
  simp only [List.getElem?_toArray,List.getElem?_map,List.getElem?_eq_getElem this,Option.map_some];rfl)
 have k2:=G2.out.frozen (i / 8)
 have k3:(i:Int) / 8<128:=by omega
 have k4:IntKind.i64.wrap ((i:Int) / 8)=(i:Int) / 8:=IntWalk.i64_in _ (by omega)
 have k5:IntKind.i64.wrap ((i:Int) % 8)=(i:Int) % 8:=IntWalk.i64_in _ (by omega)
 have k6:(0:Int)≤(i:Int) / 8:=by omega
 have k7:((i:Int) / 8).toNat=i / 8:=by omega
 have k8:(0:Int)≤(i:Int) % 8:=by omega
 have k9:((i:Int) % 8).toNat=i % 8:=by omega
 go_frame
 go_region
 rw [HT.out]
 generalize hw3:World.drew _=w3
 have G3:Hid (Blk w3 w.heap.size 5 ((turnB s i).data.toList.map fun x=>Value.int .u8 (x.toNat:Int)).toArray):=by
  rw [← turn_cells s i h3 _ rfl,← hw3];exact (G2.out.set_ (i / 8) _).drew
 have B3:Hid (Below w.heap.size w w3):=hw3▸(B2.out.setCell (Nat.le_refl _) _).drew
 have R3:Hid (RowAt w3 w3.heap.size (some ⟨b,o,none⟩) (xs.map .string)):=(HR.out.below B3.out).mono B3.out.size
 have hz3:w.heap.size<w3.heap.size:=G3.out.lt
 clear hw3 k1 k2 k3 k4 k5 k6 k7 k8 k9
 generalize hst:turnB s i=st at G3
 have hsz:st.size=128:=by rw [← hst,turnB_size];exact H2.out
 have HSZ:=Lib.hid hsz
 have HST:=Lib.hid hst
 clear hst hsz
 have F2:Hid ((xs.map Value.string).toArray[2]?=some (.string s)):=by
  show _=_
  rw [← HS.out,getD_eq xs 2 (by omega)]
  simp only [List.getElem?_toArray,List.getElem?_map]
  rw [List.getElem?_eq_getElem (by omega)];rfl
 have hl2:(2:Int)<(xs.length:Int):=by omega
 have N1:Hid (some w.heap.size≠some w3.heap.size):=by intro e;injection e;omega
 have s1:(xs.map Value.string).length=xs.length:=by simp
 have S1:=Lib.hid s1
 have s2:(Array.replicate xs.length (Value.string ⟨#[]⟩)).size=xs.length:=by simp
 have S2:=Lib.hid s2
 have S3:Hid (0<xs.length):=by show 0<xs.length;omega
 have LE:Hid (∀ k,(some w3.heap.size:Option Nat)=some k→w.heap.size≤k):=by intro k hk;cases hk;omega
 clear s1 s2
 go_wp2_with (first
  | (refine make_blk 24 (.tmp 24) (.tmp 24) 9 i0 (.string ⟨#[]⟩) xs.length xs.length xs.length rfl rfl Tryz.underlying24 I0.out.1 I0.out.2.1 I0.out.2.2.1 rfl rfl rfl rfl rfl (by rw [I0.out.2.2.2];omega) (by unfold maxLen;omega) ?_;intro w4 g4 hg4;have G4:=Lib.hid g4;have G3':=Lib.hid (G3.out.grown hg4 (by simp));have B4:=Lib.hid (B3.out.grown hg4 B3.out.size (by intro k hk;cases hk));have R4:=Lib.hid ((HR.out.below B4.out).mono B4.out.size);clear g4 hg4)
  | (refine copy_row_blk (.tmp 26) (.tmp 27) 24 24 9 w3.heap.size xs.length xs.length 9 (Array.replicate xs.length (.string ⟨#[]⟩)) w4.heap.size (some ⟨b,o,none⟩) c (xs.map .string) rfl rfl Tryz.underlying24 str_sz rfl rfl G4.out S2.out S1.out S3.out R4.out (str_cells xs) ?_;intro w5 g5 hg5;have G5:=Lib.hid g5;have G3'':=Lib.hid (G3'.out.grown hg5 N1.out);have B5:=Lib.hid (B4.out.grown hg5 B4.out.size LE.out);have hcv:=conv_blk (P:=Tryz.prog) 128 G3''.out HSZ.out 128 Tryz.underlying44 Tryz.underlying5 Tryz.underlying9;have hcl:w5.cell? ⟨w3.heap.size,2,none⟩=some (.string s):=G5.out.cell 2 F2.out;have hfr:=G5.out.frozen 2;clear g5 hg5))
 go_ret
 have ht:turnV xs i=xs.set 2 st:=by unfold turnV;rw [HS.out,HST.out]
 refine ⟨_,rfl,⟨w3.heap.size,by rw [turnV_length];rfl,by omega,?_⟩,B5.out.setCell (by show w.heap.size≤w3.heap.size;omega) _⟩
 have:=G5.out.set_ 2 (.string st)
 rw [List.setIfInBounds_toArray,← List.map_set] at this
 rw [ht];exact this
set_option maxRecDepth 100000
def TakePost (xs:List ByteArray) (w:World) (e:Ending) (w':World):Prop:=Below w.heap.size w w' ∧
 match ofR xs with
 | none=>e=.returned (.tuple #[.slice none 0 0,.int .i64 0,.int .i64 3])
 | some m=>match freeR xs m with
  | none=>e=.returned (.tuple #[.slice none 0 0,.int .i64 0,.int .i64 10])
  | some i=>∃ v,e=.returned (.tuple #[v,.int .i64 i,.int .i64 0])∧NewRow (takeV xs i) w v w'
def GivePost (xs:List ByteArray) (i:Int) (w:World) (e:Ending) (w':World):Prop:=Below w.heap.size w w' ∧
 match ofR xs with
 | none=>e=.returned (.tuple #[.slice none 0 0,.int .i64 3])
 | some m=>if i<(dataN m:Int)∨(xs.length:Int)≤i then e=.returned (.tuple #[.slice none 0 0,.int .i64 2])
  else if bitL (blkL xs 2) i.toNat=false then e=.returned (.tuple #[.slice none 0 0,.int .i64 9])
  else ∃ v,e=.returned (.tuple #[v,.int .i64 0])∧NewRow (turnV xs i.toNat) w v w'
theorem NewRow.alloc_base {ys:List ByteArray} {w0 w:World} {v:Value} {w':World} (h:NewRow ys w v w') (hz:w0.heap.size≤w.heap.size):NewRow ys w0 v w':=by
 obtain ⟨g,a,b,c⟩:=h
 exact ⟨g,a,Nat.le_trans hz b,c⟩
set_option maxHeartbeats 2000000 in
theorem used_any (A:Option Addr) (c:Nat) (xs:List ByteArray) (i:Int) (w:World) (hx:xs.length≤1000000) (h:RowAt w w.heap.size A (xs.map .string)) :
  Calls Tryz.prog 116 #[.slice A xs.length c,.int .i64 i] w fun e w'=>e=.returned (.bool (usedR xs i))∧Below w.heap.size w w':=by
 have HR:=Lib.hid h
 clear h
 go_enter Tryz.func116,Tryz.ntmps116
 go_wp2_with fail
 refine (of_any A c xs _ hx HR.out).mono ?_
 rintro e w1 ⟨rfl,hb1⟩
 have B:=Lib.hid hb1
 clear hb1
 have hz:=B.out.size
 cases ho:ofR xs with
 | none=>
  have HO:=Lib.hid ho
  clear ho
  unfold ofE
  go_wp2
  go_ret
  exact ⟨ret_bool (by unfold usedR;rw [HO.out]),B.out.alloc hz _⟩
 | some m=>
  have hv:=ofR_some.1 ho
  have hl:=hv.len
  have HO:=Lib.hid ho
  have HV:=Lib.hid hv
  clear ho hv
  unfold ofE
  dsimp only
  have R1:=Lib.hid (((HR.out.below B.out).mono B.out.size).below ((Below.refl w1.heap.size w1).alloc (Nat.le_refl _) (.cells #[.int .i64 xs.length,.int .i64 m,.int .i64 1,.int .i64 2,.int .i64 3,.int .i64 (dataN m:Nat)] 51)))
  generalize hd:dataN m=d at *
  have HD:=Lib.hid hd
  clear hd
  have HU:Hid (usedR xs i=(decide (0≤i∧i<xs.length) && bitL (blkL xs 2) i.toNat)):=by show _=_;unfold usedR;rw [HO.out]
  by_cases h0:0≤i
  ·obtain ⟨i,rfl⟩:=Int.eq_ofNat_of_zero_le h0
   by_cases h1:i<xs.length
   ·have g1:decide (i<xs.length)=true:=by simpa using h1
    go_wp2_with fail
    refine (bit_any A c xs i _ (by omega) hx (HV.out.size 2 (by omega)) (by omega) (R1.out.mono (by simp))).mono ?_
    rintro e w' ⟨rfl,rfl⟩
    go_wp2
    go_ret
    exact ⟨ret_bool (by rw [HU.out];simp [h1]),B.out.alloc hz _⟩
   ·have g1:decide (i<xs.length)=false:=by simpa using h1
    go_wp2
    go_ret
    exact ⟨ret_bool (by rw [HU.out];simp [h1]),B.out.alloc hz _⟩
  ·have g0:decide (0≤i)=false:=by simpa using h0
   go_wp2
   go_ret
   exact ⟨ret_bool (by rw [HU.out,decide_eq_false (by omega)];rfl),B.out.alloc hz _⟩
set_option maxHeartbeats 2000000 in
theorem give_any (A:Option Addr) (c:Nat) (xs:List ByteArray) (i:Int) (w:World) (hx:xs.length≤1000000) (h:RowAt w w.heap.size A (xs.map .string)) :
  Calls Tryz.prog 126 #[.slice A xs.length c,.int .i64 i] w (GivePost xs i w):=by
 have HR:=Lib.hid h
 clear h
 go_enter Tryz.func126,Tryz.ntmps126
 go_wp2_with fail
 refine (of_any A c xs _ hx HR.out).mono ?_
 rintro e w1 ⟨rfl,hb1⟩
 have B:=Lib.hid hb1
 clear hb1
 have hz:=B.out.size
 cases ho:ofR xs with
 | none=>
  have HO:=Lib.hid ho
  clear ho
  unfold ofE
  go_wp2
  go_ret2
  unfold GivePost
  rw [HO.out]
  exact ⟨B.out.alloc hz _,rfl⟩
 | some m=>
  have hv:=ofR_some.1 ho
  have hl:=hv.len
  have HO:=Lib.hid ho
  have HV:=Lib.hid hv
  clear ho hv
  unfold ofE
  dsimp only
  have R1:=Lib.hid (((HR.out.below B.out).mono B.out.size).below ((Below.refl w1.heap.size w1).alloc (Nat.le_refl _) (.cells #[.int .i64 xs.length,.int .i64 m,.int .i64 1,.int .i64 2,.int .i64 3,.int .i64 (dataN m:Nat)] 51)))
  generalize hd:dataN m=d at *
  have HD:=Lib.hid hd
  clear hd
  by_cases h1:i<(d:Int)
  ·go_wp2
   go_ret2
   unfold GivePost
   rw [HO.out]
   dsimp only
   rw [HD.out,if_pos (Or.inl h1)]
   exact ⟨B.out.alloc hz _,rfl⟩
  have g1:decide (i<(d:Int))=false:=by simpa using h1
  by_cases h2:(xs.length:Int)≤i
  ·go_wp2
   go_ret2
   unfold GivePost
   rw [HO.out]
   dsimp only
   rw [HD.out,if_pos (Or.inr h2)]
   exact ⟨B.out.alloc hz _,rfl⟩
  have g2:decide ((xs.length:Int)≤i)=false:=by simpa using h2
  obtain ⟨i,rfl⟩:=Int.eq_ofNat_of_zero_le (show 0≤i by omega)
  have H12:Hid (¬ ((i:Int)<(d:Int)∨(xs.length:Int)≤(i:Int))):=by intro hh;omega
  have g1':decide (i<d)=false:=by simp;omega
  have g2':decide (xs.length≤i)=false:=by simp;omega
  go_wp2_with fail
  refine (bit_any A c xs i _ (by omega) hx (HV.out.size 2 (by omega)) (by omega) (R1.out.mono (by simp))).mono ?_
  rintro e w' ⟨rfl,rfl⟩
  cases hb:bitL (blkL xs 2) i with
  | false=>
   have HB:=Lib.hid hb
   clear hb
   go_wp2
   go_ret2
   unfold GivePost
   rw [HO.out]
   dsimp only
   rw [HD.out,if_neg H12.out,Int.toNat_natCast,if_pos HB.out]
   exact ⟨B.out.alloc hz _,rfl⟩
  | true=>
   have HB:=Lib.hid hb
   clear hb
   go_wp2_with fail
   refine (turned_any A c xs i _ (by omega) hx (HV.out.size 2 (by omega)) (by omega) (R1.out.mono (by simp))).mono ?_
   rintro e w2 ⟨v,rfl,hn,hb2⟩
   have N:=Lib.hid hn
   have B2:=Lib.hid ((B.out.alloc hz _).trans (hb2.mono (by simp;omega)))
   clear hn hb2
   go_wp2
   go_ret2
   unfold GivePost
   rw [HO.out]
   dsimp only
   rw [HD.out,if_neg H12.out,Int.toNat_natCast,if_neg (by rw [HB.out];simp)]
   exact ⟨B2.out,v,rfl,N.out.alloc_base (by simp;omega)⟩
set_option maxHeartbeats 2000000 in
theorem take_any (A:Option Addr) (c:Nat) (xs:List ByteArray) (w:World) (hx:xs.length≤1000000) (h:RowAt w w.heap.size A (xs.map .string)) :
  Calls Tryz.prog 115 #[.slice A xs.length c] w (TakePost xs w):=by
 have HR:=Lib.hid h
 clear h
 go_enter Tryz.func115,Tryz.ntmps115
 go_wp2_with fail
 refine (of_any A c xs _ hx HR.out).mono ?_
 rintro e w1 ⟨rfl,hb1⟩
 have B:=Lib.hid hb1
 clear hb1
 have hz:=B.out.size
 cases ho:ofR xs with
 | none=>
  have HO:=Lib.hid ho
  clear ho
  unfold ofE
  go_wp2
  go_ret3
  unfold TakePost
  rw [HO.out]
  exact ⟨B.out.alloc hz _,rfl⟩
 | some m=>
  have hv:=ofR_some.1 ho
  have hl:=hv.len
  have HO:=Lib.hid ho
  have HV:=Lib.hid hv
  clear ho hv
  unfold ofE
  dsimp only
  have R1:=Lib.hid (((HR.out.below B.out).mono B.out.size).below ((Below.refl w1.heap.size w1).alloc (Nat.le_refl _) (.cells #[.int .i64 xs.length,.int .i64 m,.int .i64 1,.int .i64 2,.int .i64 3,.int .i64 (dataN m:Nat)] 51)))
  generalize hd:dataN m=d at *
  have HD:=Lib.hid hd
  clear hd
  have HDL:Hid (dataN m≤xs.length):=by show dataN m≤_;rw [HD.out];omega
  go_wp2
  go_loop [7] (fun i=>∃ k:Nat,d≤k∧k≤xs.length∧i=.int .i64 k∧Hid (∀ j,d≤j→j<k→bitL (blkL xs 2) j=true)) (fun i=>xs.length-(intOf i).toNat)
  case atStart=>exact ⟨d,Nat.le_refl _,by omega,rfl,fun j a b=>by omega⟩
  case round=>
   obtain ⟨k,hk1,hk2,rfl,HK⟩:=hrel
   by_cases hlt:k<xs.length
   ·go_wp2_with fail
    refine (bit_any A c xs k _ (by omega) hx (HV.out.size 2 (by omega)) (by omega) (R1.out.mono (by simp))).mono ?_
    rintro e w' ⟨rfl,rfl⟩
    cases hb:bitL (blkL xs 2) k with
    | true=>
     have HB:=Lib.hid hb
     clear hb
     go_wp2
     go_round
     case rel=>exact ⟨k+1,by omega,by omega,by go_num,fun j a b=>by
      by_cases e:j=k
      ·rw [e];exact HB.out
      ·exact HK.out j a (by omega)⟩
     case measure=>simp [intOf];omega
    | false=>
     have HF:Hid (freeR xs m=some k):=(freeR_some HDL.out).2 ⟨by rw [HD.out];exact hk1,hlt,hb,fun j a b=>HK.out j (by rw [← HD.out];exact a) b⟩
     clear hb
     go_wp2_with fail
     refine (turned_any A c xs k _ (by omega) hx (HV.out.size 2 (by omega)) (by omega) (R1.out.mono (by simp))).mono ?_
     rintro e w2 ⟨v,rfl,⟨g,rfl,hg,hn⟩,hb2⟩
     rw [turnV_length]
     have N:=Lib.hid hn
     have B2:=Lib.hid ((B.out.alloc hz _).trans (hb2.mono (by simp;omega)))
     have hg':w.heap.size≤g:=by simp at hg;omega
     clear hn hb2 hg
     go_wp2_with fail
     refine (zeros_any _).mono ?_
     rintro e w3 ⟨rfl,hb3⟩
     have N:=Lib.hid (N.out.below hb3 N.out.lt)
     have B3:=Lib.hid (B2.out.trans (hb3.mono B2.out.size))
     have hkt:k<(turnV xs k).length:=by rw [turnV_length];exact hlt
     have hc:∃ s,w3.cell? ⟨g,k,none⟩=some (.string s):=⟨(turnV xs k)[k],N.out.cell k (by simp only [List.getElem?_toArray,List.getElem?_map,List.getElem?_eq_getElem hkt];rfl)⟩
     obtain ⟨s,hc⟩:=hc
     have hf:=N.out.frozen k
     have i1:(0:Int)≤(k:Int):=by omega
     have i2:(k:Int)<(xs.length:Int):=by omega
     clear hb3 hkt
     go_wp2
     go_ret3
     unfold TakePost
     rw [HO.out]
     dsimp only
     rw [HF.out]
     refine ⟨B3.out.setCell hg' _,_,rfl,g,by rw [takeV_length];rfl,hg',?_⟩
     have:=N.out.set_ k (.string (zerosB 128))
     rw [List.setIfInBounds_toArray,← List.map_set] at this
     exact this
   ·have HF:Hid (freeR xs m=none):=(freeR_none HDL.out).2 fun j a b=>HK.out j (by rw [← HD.out];exact a) (by omega)
    go_wp2
    go_ret3
    unfold TakePost
    rw [HO.out]
    dsimp only
    rw [HF.out]
    exact ⟨B.out.alloc hz _,rfl⟩
def FmtPost (b m:Int) (w:World) (e:Ending) (w':World):Prop:=Below w.heap.size w w' ∧
 if planE b m=0 then ∃ v,e=.returned (.tuple #[v,.int .i64 0])∧NewRow (fmtV b.toNat m.toNat) w v w' else e=.returned (.tuple #[.slice none 0 0,.int .i64 (planE b m)])
def zrow (b k:Nat):List ByteArray:=List.replicate k (zerosB 128)++List.replicate (b-k) ⟨#[]⟩
theorem zrow_length (b k:Nat) (h:k≤b):(zrow b k).length=b:=by simp [zrow];omega
theorem zrow_set (b k:Nat) (h:k<b):(zrow b k).set k (zerosB 128)=zrow b (k+1):=by
 unfold zrow
 rw [List.set_append_right _ _ (by simp)]
 simp only [List.length_replicate,Nat.sub_self]
 rw [show b-k=(b-(k+1))+1 by omega,List.replicate_succ,List.set_cons_zero,List.replicate_succ',List.append_assoc]
 rfl
theorem or_byte (l:List UInt8) (i:Nat) (h:i / 8<l.length):bits .or .u8 ((l.getD (i / 8) 0).toNat:Int) (2 ^ (i % 8) % 256)=(((orL l i).getD (i / 8) 0).toNat:Int):=by
 have h1:=two_pow_lt i
 have e:((2:Int) ^ (i % 8) % 256)=((2 ^ (i % 8):Nat):Int):=by
  have:((2:Int) ^ (i % 8))=((2 ^ (i % 8):Nat):Int):=by simp
  rw [this]
  generalize (2:Nat) ^ (i % 8)=q at h1
  omega
 rw [e,u8_or_nat _ _ (UInt8.toNat_lt _) h1]
 unfold orL
 rw [getD_set _ _ _ _ _ h,if_pos rfl,UInt8.toNat_or,toNat_two_pow]
def byteC (l:List UInt8):Array Value:=(l.map fun x=>Value.int .u8 (x.toNat:Int)).toArray
theorem or_cells (l:List UInt8) (i:Nat) (h:i / 8<l.length):(byteC l).setIfInBounds (i / 8) (.int .u8 (((orL l i).getD (i / 8) 0).toNat:Int))=byteC (orL l i):=by
 unfold byteC
 rw [List.setIfInBounds_toArray]
 congr 1
 unfold orL
 rw [getD_set _ _ _ _ _ h,if_pos rfl,List.map_set]
theorem byteC_get (l:List UInt8) (i:Nat) (h:i<l.length):(byteC l)[i]?=some (.int .u8 ((l.getD i 0).toNat:Int)):=by
 unfold byteC
 simp only [List.getElem?_toArray,List.getElem?_map,List.getElem?_eq_getElem h,Option.map_some,List.getD,Option.getD_some]
theorem byteC_zero:Array.replicate 128 (Value.int .u8 0)=byteC (mapN 0):=by
 show Array.replicate 128 _=((List.replicate 128 (0:UInt8)).map _).toArray
 rw [List.map_replicate,List.toArray_replicate];rfl
set_option maxHeartbeats 4000000 in
theorem format_any (b m:Int) (w:World):Calls Tryz.prog 70 #[.int .i64 b,.int .i64 m] w (FmtPost b m w):=by
 obtain ⟨i0,q1,q2,q3,q4⟩:=info_parts str_info
 obtain ⟨i1,r1,r2,r3,r4⟩:=info_parts u8_info
 have I0:=Lib.hid (And.intro q1 (And.intro q2 (And.intro q3 q4)))
 have I1:=Lib.hid (And.intro r1 (And.intro r2 (And.intro r3 r4)))
 clear q1 q2 q3 q4 r1 r2 r3 r4
 by_cases hp:planE b m=0
 case neg=>
  have HP:=Lib.hid hp
  obtain ⟨pe,hpe⟩:∃ e,planE b m=e:=⟨_,rfl⟩
  have HPE:=Lib.hid hpe
  have hne:(pe != 0)=true:=by rw [hpe] at hp;simpa using hp
  clear hp hpe
  go_enter Tryz.func70,Tryz.ntmps70
  go_wp2_with fail
  refine (plan_any b m _).mono ?_
  rintro e w1 ⟨rfl,hb1⟩
  unfold planC
  rw [if_neg HP.out,HPE.out]
  unfold geomZ
  have B:=Lib.hid hb1
  clear hb1
  have hz:=B.out.size
  go_wp2
  go_ret2
  unfold FmtPost
  rw [if_neg HP.out,HPE.out]
  exact ⟨B.out.alloc hz _,rfl⟩
 case pos=>
  obtain ⟨b,rfl⟩:=Int.eq_ofNat_of_zero_le (show 0≤b by have:=planE_ok hp;omega)
  obtain ⟨m,rfl⟩:=Int.eq_ofNat_of_zero_le (show 0≤m by have:=planE_ok hp;omega)
  have hpl:=planE_iff.1 hp
  have HP:=Lib.hid hp
  obtain ⟨d,hd⟩:∃ d:Nat,dataN m=d:=⟨_,rfl⟩
  have HD:=Lib.hid hd
  have HDI:Hid ((3:Int)+((m:Int)+1) / 2=(d:Int)):=by show _=_;unfold dataN at hd;omega
  rw [hd] at hpl
  obtain ⟨l1,l2,l3,l4,l5⟩:=hpl
  have l6:d≤35:=by unfold dataN at hd;omega
  clear hp hd
  go_enter Tryz.func70,Tryz.ntmps70
  go_wp2_with fail
  refine (plan_any b m _).mono ?_
  rintro e w1 ⟨rfl,hb1⟩
  unfold planC geomC
  rw [if_pos HP.out,HP.out,HDI.out]
  have B:=Lib.hid hb1
  clear hb1
  have hz:=B.out.size
  go_wp2_with (refine make_blk 24 (.tmp 22) (.tmp 22) 9 i0 (.string ⟨#[]⟩) b b b rfl rfl Tryz.underlying24 I0.out.1 I0.out.2.1 I0.out.2.2.1 rfl rfl rfl rfl rfl (by rw [I0.out.2.2.2];omega) (by unfold maxLen;omega) ?_;intro w2 g2 hg2;have G8:=Lib.hid g2;have G6:=Lib.hid ((Blk.new w1 51 #[.int .i64 b,.int .i64 m,.int .i64 1,.int .i64 2,.int .i64 3,.int .i64 d]).grown hg2 (by simp));have B2:=Lib.hid ((B.out.alloc hz _).grown hg2 (by simp;omega) (by intro k hk;cases hk));clear g2 hg2)
  have e8:(w1.alloc (.cells #[.int .i64 b,.int .i64 m,.int .i64 1,.int .i64 2,.int .i64 3,.int .i64 d] 51)).heap.size=w1.heap.size+1:=by simp
  rw [e8] at G8
  clear e8
  have hz1:w.heap.size≤w1.heap.size:=hz
  go_loopw [26] (fun i wr=>∃ k:Nat,k≤b∧i=.int .i64 k∧Hid (Blk wr (w1.heap.size+1) 9 ((zrow b k).map .string).toArray)∧Hid (Blk wr w1.heap.size 51 #[.int .i64 b,.int .i64 m,.int .i64 1,.int .i64 2,.int .i64 3,.int .i64 d])∧Hid (Below w.heap.size w wr)) (fun i _=>b-(intOf i).toNat)
  case atStart=>exact ⟨0,Nat.zero_le _,rfl,by show Blk _ _ _ _;have:=G8.out;unfold zrow;simpa using this,G6,B2⟩
  case round=>
   obtain ⟨k,hk,rfl,Y8,Y6,Y⟩:=hrel
   by_cases hlt:k<b
   ·go_wp2_with fail
    refine (zeros_any _).mono ?_
    rintro e w3 ⟨rfl,hb3⟩
    have Y8:=Lib.hid (Y8.out.below hb3 Y8.out.lt)
    have Y6:=Lib.hid (Y6.out.below hb3 Y6.out.lt)
    have Y:=Lib.hid (Y.out.trans (hb3.mono Y.out.size))
    clear hb3
    have hkt:k<(zrow b k).length:=by rw [zrow_length b k hk];exact hlt
    have hc:∃ s,w3.cell? ⟨w1.heap.size+1,k,none⟩=some (.string s):=⟨(zrow b k)[k],Y8.out.cell k (by simp only [List.getElem?_toArray,List.getElem?_map,List.getElem?_eq_getElem hkt];rfl)⟩
    obtain ⟨s,hc⟩:=hc
    have hf:=Y8.out.frozen k
    have i1:(0:Int)≤(k:Int):=by omega
    have i2:(k:Int)<(b:Int):=by omega
    clear hkt
    go_wp2
    go_roundw
    case rel=>
     refine ⟨k+1,by omega,by go_num,?_,Y6.out.far (by simp) _,Y.out.setCell (by show w.heap.size≤w1.heap.size+1;omega) _⟩
     have:=Y8.out.set_ k (.string (zerosB 128))
     rw [List.setIfInBounds_toArray,← List.map_set,zrow_set b k hlt] at this
     exact this
    case measure=>simp [intOf];omega
   ·obtain rfl:k=b:=by omega
    clear hlt hk
    have x0:wr.cell? ⟨w1.heap.size,0,none⟩=some (.int .i64 k):=Y6.out.cell 0 rfl
    have x1:wr.cell? ⟨w1.heap.size,1,none⟩=some (.int .i64 m):=Y6.out.cell 1 rfl
    have x2:wr.cell? ⟨w1.heap.size,2,none⟩=some (.int .i64 1):=Y6.out.cell 2 rfl
    have x3:wr.cell? ⟨w1.heap.size,3,none⟩=some (.int .i64 2):=Y6.out.cell 3 rfl
    have x4:wr.cell? ⟨w1.heap.size,4,none⟩=some (.int .i64 3):=Y6.out.cell 4 rfl
    have x5:wr.cell? ⟨w1.heap.size,5,none⟩=some (.int .i64 d):=Y6.out.cell 5 rfl
    go_wp2_with fail
    refine (first_any k m 1 2 3 d _ (by omega) (by omega)).mono ?_
    rintro e w3 ⟨rfl,hb3⟩
    have Y8:=Lib.hid (Y8.out.below hb3 Y8.out.lt)
    have Y6:=Lib.hid (Y6.out.below hb3 Y6.out.lt)
    have Y:=Lib.hid (Y.out.trans (hb3.mono Y.out.size))
    clear hb3 x0 x1 x2 x3 x4 x5
    have hkt:0<(zrow k k).length:=by rw [zrow_length k k (Nat.le_refl _)];omega
    have hc:∃ s,w3.cell? ⟨w1.heap.size+1,0,none⟩=some (.string s):=⟨(zrow k k)[0],Y8.out.cell 0 (by simp only [List.getElem?_toArray,List.getElem?_map,List.getElem?_eq_getElem hkt];rfl)⟩
    obtain ⟨s,hc⟩:=hc
    have hf:=Y8.out.frozen 0
    have i2:(0:Int)<(k:Int):=by omega
    have i3:0<k:=by omega
    clear hkt
    go_upto_region 11 with fail
    obtain ⟨w4,hw4⟩:∃ w4,w3.setCell ⟨w1.heap.size+1,0,none⟩ (.string (headB k m))=w4:=⟨_,rfl⟩
    rw [hw4]
    have X8:Hid (Blk w4 (w1.heap.size+1) 9 (((zrow k k).set 0 (headB k m)).map .string).toArray):=by
     have:=Y8.out.set_ 0 (.string (headB k m))
     rw [List.setIfInBounds_toArray,← List.map_set,hw4] at this
     exact this
    have X6:Hid (Blk w4 w1.heap.size 51 #[.int .i64 k,.int .i64 m,.int .i64 1,.int .i64 2,.int .i64 3,.int .i64 d]):=hw4▸Y6.out.far (by simp) _
    have X:Hid (Below w.heap.size w w4):=hw4▸Y.out.setCell (by show w.heap.size≤w1.heap.size+1;omega) _
    clear hw4 hc hf i2 Y8 Y6 Y
    have hx8:=X8.out.lt
    go_wp2_with (refine make_blk 44 (.const (.int .i64 128)) (.const (.int .i64 128)) 5 i1 (.int .u8 0) 128 128 128 rfl rfl Tryz.underlying44 I1.out.1 I1.out.2.1 I1.out.2.2.1 rfl rfl rfl rfl rfl (by rw [I1.out.2.2.2];decide) (by decide) ?_;intro w5 g5 hg5;have T:=Lib.hid g5;have X8:=Lib.hid (X8.out.grown hg5 (by simp));have X6:=Lib.hid (X6.out.grown hg5 (by simp));have X:=Lib.hid (X.out.grown hg5 X.out.size (by intro k hk;cases hk));have x5:w5.cell? ⟨w1.heap.size,5,none⟩=some (.int .i64 d):=X6.out.cell 5 rfl;clear g5 hg5)
    rw [byteC_zero] at T
    go_loopw [41] (fun i wr=>∃ j:Nat,j≤d∧i=.int .i64 j∧Hid (Blk wr w4.heap.size 5 (byteC (mapN j)))∧Hid (Blk wr (w1.heap.size+1) 9 (((zrow k k).set 0 (headB k m)).map .string).toArray)∧Hid (Below w.heap.size w wr)) (fun i _=>d-(intOf i).toNat)
    case atStart=>exact ⟨0,Nat.zero_le _,rfl,T,X8,X⟩
    case round=>
     obtain ⟨j,hj,rfl,T,X8,X⟩:=hrel
     have hxz:=X.out.size
     by_cases hlt:j<d
     ·have hjl:j / 8<(mapN j).length:=by rw [mapN_length];omega
      have HT:=Lib.hid (or_byte (mapN j) j hjl)
      have HC2:=Lib.hid (or_cells (mapN j) j hjl)
      have k1:=T.out.cell (j / 8) (byteC_get (mapN j) (j / 8) hjl)
      have k2:=T.out.frozen (j / 8)
      have k3:(j:Int) / 8<128:=by omega
      have k4:IntKind.i64.wrap ((j:Int) / 8)=(j:Int) / 8:=IntWalk.i64_in _ (by omega)
      have k5:IntKind.i64.wrap ((j:Int) % 8)=(j:Int) % 8:=IntWalk.i64_in _ (by omega)
      have k6:(0:Int)≤(j:Int) / 8:=by omega
      have k7:((j:Int) / 8).toNat=j / 8:=by omega
      have k8:(0:Int)≤(j:Int) % 8:=by omega
      have k9:((j:Int) % 8).toNat=j % 8:=by omega
      generalize hby:(mapN j).getD (j / 8) 0=by0 at k1 HT
      go_upto_region 15 with fail
      go_region
      rw [HT.out]
      generalize hw6:World.drew _=w6
      have T6:Hid (Blk w6 w4.heap.size 5 (byteC (mapN (j+1)))):=by
       show Blk _ _ _ _
       rw [mapN_succ,← HC2.out,← hw6];exact (T.out.set_ (j / 8) _).drew
      have X86:Hid (Blk w6 (w1.heap.size+1) 9 (((zrow k k).set 0 (headB k m)).map .string).toArray):=hw6▸(X8.out.far (by simp;omega) _).drew
      have X6':Hid (Below w.heap.size w w6):=hw6▸(X.out.setCell (by show w.heap.size≤w4.heap.size;omega) _).drew
      clear hw6 k1 k2 k3 k4 k5 k6 k7 k8 k9 hby HT HC2
      go_wp2
      go_roundw
      case rel=>exact ⟨j+1,by omega,by go_num,T6,X86,X6'⟩
      case measure=>simp [intOf];omega
     ·obtain rfl:j=d:=by omega
      clear hlt hj
      have hcv:=conv_blk (P:=Tryz.prog) (st:=mapB j) 128 (by rw [mapB_list];exact T.out) (mapB_size j) 128 Tryz.underlying44 Tryz.underlying5 Tryz.underlying9
      have hlen:((zrow k k).set 0 (headB k m)).length=k:=by rw [List.length_set,zrow_length k k (Nat.le_refl _)]
      have hc:∃ s,wr.cell? ⟨w1.heap.size+1,2,none⟩=some (.string s):=⟨((zrow k k).set 0 (headB k m))[2]'(by omega),X8.out.cell 2 (by simp only [List.getElem?_toArray,List.getElem?_map];rw [List.getElem?_eq_getElem (by omega)];rfl)⟩
      obtain ⟨s,hc⟩:=hc
      have hf:=X8.out.frozen 2
      have i2:(2:Int)<(k:Int):=by omega
      clear hlen
      go_wp2
      go_ret2
      unfold FmtPost
      rw [if_pos HP.out]
      refine ⟨X.out.setCell (by show w.heap.size≤w1.heap.size+1;omega) _,_,rfl,w1.heap.size+1,by rw [Int.toNat_natCast,fmtV_length];rfl,by omega,?_⟩
      have:=X8.out.set_ 2 (.string (mapB j))
      rw [List.setIfInBounds_toArray,← List.map_set] at this
      have e:fmtV k m=((zrow k k).set 0 (headB k m)).set 2 (mapB j):=by unfold fmtV zrow;rw [HD.out];simp
      rw [Int.toNat_natCast,Int.toNat_natCast,e];exact this
def OwnRow (ys:List ByteArray) (w:World) (v:Value) (w':World):Prop:=w'.ownsRow w.heap.size 9 1 v ys.length (ys.map .string)
theorem OwnRow.read {ys:List ByteArray} {w w':World} {v:Value} (h:OwnRow ys w v w'):∃ A c,v=.slice A ys.length c∧RowAt w' w'.heap.size A (ys.map .string):=by
 unfold OwnRow at h
 by_cases hy:ys=[]
 ·subst hy
  rcases Go.Joins.ownsRow_forms h with ⟨e,_⟩ | ⟨g,cap,e⟩
  ·exact ⟨none,0,e,RowAt.nil⟩
  ·exact ⟨_,cap,e,RowAt.nil⟩
 ·have hl:0<ys.length:=List.length_pos_iff.2 hy
  obtain ⟨g,cap,rfl⟩:=Go.Joins.ownsRow_form h hl
  refine ⟨_,cap,rfl,.inr ⟨g,0,rfl,(h.lt g rfl).2,fun j u hu=>?_⟩⟩
  have hj:j<ys.length:=by
   have:=(List.getElem?_eq_some_iff.1 hu).1
   simpa using this
  rw [Nat.zero_add,h.cellAt j (by omega)]
  exact hu
theorem OwnRow.base {ys:List ByteArray} {w0 w w':World} {v:Value} (h:OwnRow ys w v w') (hz:w0.heap.size≤w.heap.size):OwnRow ys w0 v w':=Go.Joins.ownsRow_le h hz
open Go.RowKit Go.Shelf
attribute [local go_sem] Oper.semAt_some
def fbytes (l:List Nat) (pre:List (Fin 12)):List UInt8:=pre.flatMap fun i=>putL (l.getD (fof i) 0) (fsz i)
theorem fbytes_snoc (l:List Nat) (pre:List (Fin 12)) (i:Fin 12):fbytes l (pre++[i])=fbytes l pre++putL (l.getD (fof i) 0) (fsz i):=by unfold fbytes;simp
theorem fbytes_len (l:List Nat):∀ pre:List (Fin 12),(fbytes l pre).length≤4 * pre.length
 | []=>by simp [fbytes]
 | i::pre=>by
  have h:=fbytes_len l pre
  have hz:=fsz_le i
  unfold fbytes at *
  simp only [List.flatMap_cons,List.length_append,putL_length,List.length_cons]
  omega
def byteL (bs:List UInt8):List Value:=bs.map fun x=>Value.int .u8 (x.toNat:Int)
theorem fbytes_all_len (l:List Nat):(fbytes l allF).length=24:=by
 unfold fbytes
 simp only [allF,List.flatMap_cons,List.flatMap_nil,List.length_append,putL_length,List.length_nil]
 rfl
structure WrI (w:World) (gx gb:Nat) (l:List Nat) (pre:List (Fin 12)) (W:World):Prop where
 fx:Blk W gx 39 (inoC l)
 fb:∃ g cap,Blk W gb 44 #[.slice (some ⟨g,0,none⟩) (fbytes l pre).length cap]∧W.ownsRow w.heap.size 5 1 (.slice (some ⟨g,0,none⟩) (fbytes l pre).length cap) (fbytes l pre).length (byteL (fbytes l pre))
 below:Below w.heap.size w W
theorem own_own {β:Type} {B:Nat} {e:TypeId} {v:Value} {n:Nat} {xs:List Value} (s:β) {X Y:World} {row:Option Nat} (h:X.ownsRow B e 1 v n xs) (hg:X.grownBy Y row) (hr:∀ r,row=some r→∃ o:Obj,X.heap[r]?=some o∧o.isCells=false):Y.ownsRow B e 1 v n xs:=by
 refine h.kept hg ?_
 rcases h.2 with ⟨rfl,_⟩ | ⟨g,cap,cur,rfl,_,hgg,_⟩
 ·exact .inl rfl
 ·right
  intro e
  obtain ⟨o,h1,h2⟩:=hr g e.symm
  rw [hgg] at h1;cases h1;cases h2
theorem WrI.own {w:World} {gx gb:Nat} {l:List Nat} {B:Nat} (hB:w.heap.size≤B):OwnFrom B (fun pre W=>WrI w gx gb l pre W):=fun s X Y row hs hg hr=>
 have hr':∀ r,row=some r→∃ o:Obj,X.heap[r]?=some o∧o.isCells=false:=fun r e=>(hr r e).2
 ⟨Blk.own gx _ (fun _=>_) s X Y row hs.fx hg hr',by
  obtain ⟨g,cap,h1,h2⟩:=hs.fb
  exact ⟨g,cap,Blk.own gb _ (fun _=>_) s X Y row h1 hg hr',own_own s h2 hg hr'⟩,ownFrom_below (Nat.le_refl _) hB s X Y row hs.below hg hr⟩
theorem WrI.later {w:World} {gx gb:Nat} {l:List Nat} {pre:List (Fin 12)} {X Y:World} (h:WrI w gx gb l pre X) (hb:Below X.heap.size X Y):WrI w gx gb l pre Y:=
 ⟨h.fx.below hb h.fx.lt,by obtain ⟨g,cap,h1,h2⟩:=h.fb;exact ⟨g,cap,h1.below hb h1.lt,own_below h2 hb⟩,h.below.trans (hb.mono h.below.size)⟩
theorem own_blkT {W:World} {B:Nat} {e:TypeId} {g n cap:Nat} {xs:List Value} (h:W.ownsRow B e 1 (.slice (some ⟨g,0,none⟩) n cap) n xs):∃ cur,Blk W g e cur:=by
 rcases h.2 with ⟨h',_⟩ | ⟨g',cap',cur,h',_,hg,_⟩
 ·cases h'
 ·cases h';exact ⟨cur,hg⟩
theorem byteL_str (bs:List UInt8) (b:List UInt8):byteL bs++Lib.strCells ⟨b.toArray⟩=byteL (bs++b):=by unfold byteL Lib.strCells;simp
def putInoB (s:ByteArray) (p:Nat) (l:List Nat):ByteArray:=⟨(s.data.toList.take p++fbytes l allF++s.data.toList.drop (p+24)).toArray⟩
set_option maxHeartbeats 4000000 in
theorem written_any (A:Option Addr) (c:Nat) (xs:List ByteArray) (b m q r d:Int) (n:Nat) (l:List Nat) (w:World) (hx:xs.length≤1000000) (h1:1≤n) (h2:3+(n-1) / 2<xs.length) (hs:(xs.getD (3+(n-1) / 2) ⟨#[]⟩).size=128) (h:RowAt w w.heap.size A (xs.map .string))
  (hl:l.length=12) (hlt:∀ z ∈ l,z<4294967296) :
  Calls Tryz.prog 128 #[.slice A xs.length c,.agg #[.int .i64 b,.int .i64 m,.int .i64 q,.int .i64 r,.int .i64 3,.int .i64 d],.int .i64 n,.agg (inoC l)] w fun e w'=>
   (∃ v,e=.returned v∧OwnRow (xs.set (3+(n-1) / 2) (putInoB (xs.getD (3+(n-1) / 2) ⟨#[]⟩) ((n-1) % 2 * 64) l)) w v w')∧Below w.heap.size w w':=by
 obtain ⟨k,hk⟩:∃ k,3+(n-1) / 2=k:=⟨_,rfl⟩
 obtain ⟨p,hp⟩:∃ p,(n-1) % 2 * 64=p:=⟨_,rfl⟩
 have PL:=Lib.hid (place_any b m q r d n)
 rw [hk,hp] at PL
 rw [hk] at h2 hs ⊢
 rw [hp]
 have hp64:p≤64:=by omega
 have hn:n≤4000000:=by omega
 have HH:=Lib.hid h
 have HL:=Lib.hid hl
 have HLT:Hid (∀ i:Fin 12,∃ z,l.getD (fof i) 0=z∧l[fof i]?=some z∧z<4294967296):=fun i=>by
  have hi:fof i<l.length:=by rw [hl];exact fof_lt i
  exact ⟨l[fof i],by simp [List.getD,hi],by simp [hi],hlt _ (List.getElem_mem hi)⟩
 obtain ⟨bb,oo,rfl,hbb,hc⟩:=row_get h k h2
 have HS:Hid (∀ s:ByteArray,xs.getD k ⟨#[]⟩=s→xs.getD k ⟨#[]⟩=s):=fun _ h=>h
 obtain ⟨i0,q1,q2,q3,q4⟩:=info_parts u8_info
 have I0:=Lib.hid (And.intro q1 (And.intro q2 (And.intro q3 q4)))
 generalize hsx:xs.getD k ⟨#[]⟩=s at hs hc ⊢
 clear h hk hp HS hl hlt q1 q2 q3 q4
 refine (callsIn_wide (n:=4)).1 ?_
 refine callsIn_of_wp_marks Tryz.func128 rfl trivial ?_
 simp only [Tryz.ntmps128,List.size_toArray,List.length_cons,List.length_nil,Nat.reduceAdd,Nat.reduceSub,Array.replicate_succ,Array.replicate_zero,List.push_toArray,List.append_toArray,List.nil_append,List.cons_append]
 refine wpIn_wide.2 ?_
 go_wp2_with fail
 refine (PL.out _ h1 hn).mono ?_
 rintro e w1 ⟨rfl,hb1⟩
 have B1:Hid (Below w.heap.size w w1):=(((Below.refl w.heap.size w).alloc (Nat.le_refl _) _).alloc (by simp) _).trans (hb1.mono (by simp;omega))
 have G7:Hid (Blk w1 (w.heap.size+1) 39 (inoC l)):=by
  refine Blk.below ?_ hb1 (by simp)
  have:=Blk.new (w.alloc (.cells #[.int .i64 b,.int .i64 m,.int .i64 q,.int .i64 r,.int .i64 3,.int .i64 d] 51)) 39 (inoC l)
  simp only [World.size_alloc] at this
  exact this
 have hz1:=B1.out.size
 clear hb1 PL
 go_wp2_with (refine wpList_make_own _ rfl (.const (.int .i64 0)) (.const (.int .i64 24)) 44 rfl w.heap.size 5 i0 (.int .u8 0) 1 Tryz.underlying44 I0.out.1 I0.out.2.1 I0.out.2.2.1 .i64 .i64 24 24 rfl rfl rfl (by rw [I0.out.2.2.2];decide) (by decide) hz1 ?_;intro w2 own hg2;have O2:=Lib.hid own;have B2:=Lib.hid (B1.out.grown hg2 hz1 (by intro k hk;cases hk));have G8:=Lib.hid (G7.out.grown hg2 (by simp));have hz2:=B2.out.size;clear own hg2)
 refine (fields_any _ _).mono ?_
 rintro e w' ⟨rfl,rfl⟩
 go_wp2_with fail
 obtain ⟨W0,hW0⟩:∃ W0,(w2.alloc (Obj.cells #[Value.slice (some ⟨w1.heap.size,0,none⟩) 0 24] 44)).alloc (Obj.cells #[Value.pointer (some ⟨w.heap.size+1,0,none⟩)] 184)=W0:=⟨_,rfl⟩
 have HI0:Hid (WrI w (w.heap.size+1) w2.heap.size l [] W0):=by
  rw [← hW0]
  exact ⟨(G8.out.alloc _).alloc _,⟨w1.heap.size,24,(Blk.new w2 _ _).alloc _,(O2.out.alloc _).alloc _⟩,(B2.out.alloc hz2 _).alloc (by simp;omega) _⟩
 have HBn:Hid (Blk W0 (w2.heap.size+1) 184 #[.pointer (some ⟨w.heap.size+1,0,none⟩)]):=by
  rw [← hW0]
  have:=Blk.new (w2.alloc (Obj.cells #[Value.slice (some ⟨w1.heap.size,0,none⟩) 0 24] 44)) 184 #[.pointer (some ⟨w.heap.size+1,0,none⟩)]
  simp only [World.size_alloc] at this
  exact this
 have hz0:W0.heap.size=w2.heap.size+2:=by rw [← hW0];simp
 rw [hW0]
 have hgx:w.heap.size+1<w2.heap.size:=G8.out.lt
 clear hW0 G7 G8 O2 B1 B2 hz1
 generalize w2.heap.size=z2 at *
 generalize w1.heap.size=z1 at *
 refine (wpIn_wide (n:=4)).1 ?_
 refine wpIn_rangeFunc_ownH rfl (by omega) (gf:=173) (lb:=#[.pointer (some ⟨z2+1,0,none⟩)]) rfl trivial (enters_of Tryz.func173 (by kernel_rfl) rfl)
  (fields_stops 3 (by omega) (z2+1) (w.heap.size+1) W0 HBn.out)
  (fun h k=>h.trans k) (fun W l o o' _ ho hc _=>KeepT.putObj W l o o' ho hc) (Below.refl _ _) (fun _=>rfl)
  (fun pre W=>WrI w (w.heap.size+1) z2 l pre W) (fun _ _ _=>False)
  (WrI.own (by omega)) (fun _ _ _ _ _ hs _ _=>hs) HI0.out
  (fun x a' W=>∃ Bx,Blk W Bx 187 #[.int .i64 (fsz x:Nat),.pointer (some ⟨w.heap.size+1,fof x,none⟩)]∧a'={ tmps:=#[Value.slice (some ⟨bb,oo,none⟩) xs.length c,Value.agg #[Value.int IntKind.i64 b,Value.int IntKind.i64 m,Value.int IntKind.i64 q,Value.int IntKind.i64 r,Value.int IntKind.i64 3,Value.int IntKind.i64 d],Value.int IntKind.i64 ↑n,Value.agg (inoC l),undef,Value.pointer (some ⟨w.heap.size,0,none⟩),undef,Value.pointer (some ⟨w.heap.size+1,0,none⟩),Value.slice none 0 0,Value.int IntKind.i64 ↑k,Value.int IntKind.i64 ↑p,Value.pointer (some ⟨z2,0,none⟩),.pointer (some ⟨Bx,0,none⟩),undef,Value.tuple #[Value.int IntKind.i64 ↑k,Value.int IntKind.i64 ↑p],Value.agg #[Value.int IntKind.i64 b,Value.int IntKind.i64 m,Value.int IntKind.i64 q,Value.int IntKind.i64 r,Value.int IntKind.i64 3,Value.int IntKind.i64 d],Value.int IntKind.i64 ↑n,Value.tuple #[Value.int IntKind.i64 ↑k,Value.int IntKind.i64 ↑p],Value.int IntKind.i64 ↑k,Value.int IntKind.i64 ↑p,Value.slice (some ⟨z1,0,none⟩) 0 24,Value.func (Fn.func 173) #[] #[Value.pointer (some ⟨z2+1,0,none⟩)],.agg #[.int .i64 (fsz x:Nat),.pointer (some ⟨w.heap.size+1,fof x,none⟩)],undef,undef,undef,undef,undef,undef,undef,undef,undef,undef,undef,undef,undef,undef,undef,undef,undef,undef,undef,undef,undef,undef,undef,undef,undef,undef,undef,undef,undef,undef,undef,undef,undef],defers:=[] })
  (fun x a' s X Y row hs hg hr=>by obtain ⟨Bx,h1,h2⟩:=hs;exact ⟨Bx,Blk.own Bx _ (fun (_:Unit)=>_) s X Y row h1 hg (fun r e=>(hr r e).2),h2⟩)
  ?assign ?body ?done ?stop
 case assign=>
  rintro lp pre x W K hi hK
  dsimp only [fieldV]
  gi_wp2
  exact hK _ _ ((KeepsOthers.alloc _ _).from _) (KeepT.alloc _ _) (hi.later ((Below.refl _ _).alloc (Nat.le_refl _) _)) ⟨W.heap.size,Blk.new W _ _,rfl⟩
 case body=>
  rintro lp pre x a' W hlp ⟨r0,hr0⟩ hi ⟨Bx,bX,rfl⟩ hlt
  obtain ⟨z,hz,hzg,hzl⟩:=HLT.out x
  obtain ⟨g,cap,hB,hO⟩:=hi.fb
  have hbl:=fbytes_len l pre
  have HSN:=Lib.hid (fbytes_snoc l pre x)
  have hszl:=fsz_le x
  rw [hz] at HSN
  have u3:∀ u:Ext W,u.val.cell? ⟨w.heap.size+1,fof x,none⟩=some (.int .i64 (z:Int)):=fun u=>u.cell (hi.fx.cell (fof x) (by unfold inoC;simp [hzg]))
  have u4:∀ u:Ext W,u.val.cell? ⟨z2,0,none⟩=some (.slice (some ⟨g,0,none⟩) (fbytes l pre).length cap):=fun u=>u.cell (hB.cell 0 rfl)
  have HI:=Lib.hid hi
  have BX:=Lib.hid bX
  have BB:=Lib.hid hB
  have OO:=Lib.hid hO
  clear hr0 hi bX hz hzg hB hO
  generalize fsz x=sz at *
  generalize fof x=f at *
  generalize hob:fbytes l pre=ob at *
  have CP:Hid (∀ u:Ext W,Calls Tryz.prog 93 #[.int .u64 (z:Int),.int .i64 (sz:Int)] u.val fun e w'=>e=.returned (.string ⟨(putL z sz).toArray⟩)∧Below u.val.heap.size u.val w'):=fun u=>put_any z sz u.val (by omega) (by omega)
  have HPS:Hid ((⟨(putL z sz).toArray⟩:ByteArray).size=sz):=by show (putL z sz).toArray.size=sz;rw [List.size_toArray,putL_length]
  have HBS:=Lib.hid (byteL_str ob (putL z sz))
  generalize hpt:(⟨(putL z sz).toArray⟩:ByteArray)=pt at *
  have u1:∀ u:Ext W,u.val.cell? ⟨Bx,1,none⟩=some (.pointer (some ⟨w.heap.size+1,f,none⟩)):=fun u=>u.cell (BX.out.cell 1 rfl)
  have u2:∀ u:Ext W,u.val.cell? ⟨Bx,0,none⟩=some (.int .i64 (sz:Int)):=fun u=>u.cell (BX.out.cell 0 rfl)
  have s1:IntKind.u64.wrap (z:Int)=(z:Int):=IntWalk.u64_in _ (by omega)
  have HOB:=Lib.hid hob
  have HPT:=Lib.hid hpt
  clear hob hpt
  gi_wp2_with fail
  refine wpIn_round_tail 9 (by kernel_rfl) (by kernel_rfl) (by kernel_rfl) ?_
  simp only [List.take_succ_cons,List.take_zero,List.drop_succ_cons,List.drop_zero]
  repeat (go_big_quiet_step (first
   | (go_at_call 93;with_reducible exact Ext.call (CP.out _))))
  refine wpQuiet_nil ?_
  rintro _ ⟨u,rfl⟩
  have HI2:=Lib.hid (HI.out.later u.below)
  have BB2:=Lib.hid (BB.out.below u.below BB.out.lt)
  have OO2:=Lib.hid (own_below OO.out u.below)
  have UB:=Lib.hid u.below
  generalize u.val=W2 at *
  clear u1 u2 u3 u4 s1 CP BB OO HI
  have c1:W2.cell? ⟨z2,0,none⟩=some (.slice (some ⟨g,0,none⟩) ob.length cap):=BB2.out.cell 0 rfl
  have hzz:w.heap.size≤W2.heap.size:=HI2.out.below.size
  refine Lib.wpList_append_own_string _ rfl (.tmp 23) (.tmp 31) 44 9 rfl w.heap.size 5 i0 Tryz.underlying44 Tryz.underlying9 I0.out.1 I0.out.2.1 I0.out.2.2.1 I0.out.2.2.2 (.slice (some ⟨g,0,none⟩) ob.length cap) ob.length (byteL ob) rfl OO2.out pt rfl (by rw [HPS.out];unfold maxLen;omega) (by rw [HPS.out];omega) hzz ?_
  intro v' W3 own3 hg3 hnil
  rcases Go.Joins.ownsRow_forms own3 with ⟨rfl,_⟩ | ⟨g',cap',rfl⟩
  ·exact absurd (hnil.1 rfl).1 (by intro h;cases h)
  obtain ⟨cur,hcur⟩:=own_blkT OO2.out
  have hne:some z2≠(Value.slice (some ⟨g,0,none⟩) ob.length cap).ownBlock:=by
   intro e
   exact BB2.out.ne hcur (by decide) (Option.some.inj e)
  have hne2:some (w.heap.size+1)≠(Value.slice (some ⟨g,0,none⟩) ob.length cap).ownBlock:=by
   intro e
   exact HI2.out.fx.ne hcur (by decide) (Option.some.inj e)
  have BB3:=Lib.hid (BB2.out.grown hg3 hne)
  have X3:=Lib.hid (HI2.out.fx.grown hg3 hne2)
  have B3:=Lib.hid (HI2.out.below.grown hg3 hzz (fun j e=>(OO2.out.lt j e).1))
  have K3:Hid (KeepT keepTy W W3):=(KeepT.below UB.out).trans (KeepT.grown hg3 (fun r e=>by cases e;exact .inr ⟨_,_,hcur,rfl⟩))
  have Q3:Hid (KeepsOthers W W3):=(keeps_below UB.out).trans (KeepsOthers.of_grownBy hg3 (fun j o e hj=>by cases e;unfold Blk at hcur;rw [hcur] at hj;cases hj;rfl))
  have hln:ob.length+pt.size=(fbytes l (pre++[x])).length:=by rw [HSN.out,List.length_append,putL_length,HPS.out]
  rw [HBS.out,← HSN.out] at own3
  rw [hln] at own3 ⊢
  have O3:=Lib.hid own3
  clear own3 hg3 hnil hcur hne hne2 hln c1 BB2 OO2 HI2 UB
  have c1:W3.cell? ⟨z2,0,none⟩=some (.slice (some ⟨g,0,none⟩) ob.length cap):=BB3.out.cell 0 rfl
  have c2:W3.frozen? ⟨z2,0,none⟩=false:=BB3.out.frozen 0
  go_frame
  go_wp2_with fail
  refine ⟨by simp,?_⟩
  gi_wp2
  have hg4:W3.grownBy (W3.setCell ⟨z2,0,none⟩ (.slice (some ⟨g',0,none⟩) (fbytes l (pre++[x])).length cap')) (some z2):=only_setCell (World.grownBy.refl W3 _) 0 _
  refine ⟨(Q3.out.trans (KeepsOthers.setCell _ _ _)).from _,K3.out.trans (KeepT.set_ BB3.out rfl 0 _),X3.out.grown hg4 (by intro e;have:=Option.some.inj e;omega),⟨g',cap',BB3.out.set_ 0 _,?_⟩,B3.out.setCell (by simp;omega) _⟩
  refine World.ownsRow.kept O3.out hg4 ?_
  right
  intro e
  obtain ⟨cur,hcur⟩:=own_blkT O3.out
  exact hcur.ne BB3.out (by decide) (Option.some.inj e)
 case done=>
  rintro D ys W hD rfl hi hK
  obtain ⟨g,cap,hB,hO⟩:=hi.fb
  have hfl:=fbytes_all_len l
  rw [hfl] at hB hO
  have HI:=Lib.hid hi
  have HK:=Lib.hid hK
  have BB:=Lib.hid hB
  have OO:=Lib.hid hO
  have HFL:=Lib.hid hfl
  clear hi hK hB hO hfl
  obtain ⟨j0,q1,q2,q3,q4⟩:=info_parts str_info
  have J0:=Lib.hid (And.intro q1 (And.intro q2 (And.intro q3 q4)))
  have R0:=Lib.hid ((HH.out.below HI.out.below).mono HI.out.below.size)
  have hzW:=HI.out.below.size
  have HC:Hid (∀ j u,(xs.map Value.string)[j]?=some u→W.cell? ((⟨bb,oo,none⟩:Addr).add j)=some u):=fun j u hu=>by
   have:(⟨bb,oo,none⟩:Addr).add j=⟨bb,oo+j,none⟩:=by unfold Addr.add;split <;> simp_all
   obtain ⟨b',o',hA,_,hcc⟩:=R0.out.at_ (by simp;omega)
   cases hA
   rw [this];exact hcc j u hu
  have H1:=Lib.hid (str_cells xs)
  have HM:Hid (0+xs.length≤maxLen):=by show _≤_;unfold maxLen;omega
  have HY:Hid ((0+xs.length) * 16≤140737488355328):=by show _≤_;omega
  clear q1 q2 q3 q4
  go_wp2_with (at_builtin;refine wpList_append_own _ rfl (.const (.slice none 0 0)) (.tmp 33) 24 rfl w.heap.size 9 j0 (.string ⟨#[]⟩) 1 16 Tryz.underlying24 J0.out.1 J0.out.2.1 J0.out.2.2.1 J0.out.2.2.2 rfl (by decide) _ 0 [] rfl (World.ownsRow_nil _ _ _ _) ⟨bb,oo,none⟩ xs.length c (xs.map .string) rfl (by rw [List.length_map,Nat.mul_one]) HC.out H1.out HM.out HY.out hzW ?_;intro v W2 own hg hv)
  rw [Nat.zero_add,List.nil_append] at own
  have hg0:W.grownBy W2 none:=hg
  obtain ⟨gr,cr,rfl⟩:=Go.Joins.ownsRow_form own (by omega)
  have OR:=Lib.hid own
  have B2:=Lib.hid (HI.out.below.grown hg0 hzW (by intro k hk;cases hk))
  have BB2:=Lib.hid (BB.out.grown hg0 (by simp))
  have OO2:=Lib.hid (World.ownsRow.kept OO.out hg0 (.inr (by intro h;cases h)))
  have HK2:Hid (W2.heap[D]?=some (.deferred (some []))):=(hg0.block D (Array.getElem?_eq_some_iff.1 HK.out).1 (by simp)).trans HK.out
  have hgr:w.heap.size≤gr:=(own.lt gr rfl).1
  clear own hg hg0 hv BB OO HK HC H1 HM HY J0 R0
  obtain ⟨st,hst⟩:∃ st:ByteArray,(⟨(fbytes l allF).toArray⟩:ByteArray)=st:=⟨_,rfl⟩
  have hstz:st.size=24:=by rw [← hst];show (fbytes l allF).toArray.size=24;rw [List.size_toArray,HFL.out]
  have hcv:∀ u:Ext W2,(convert 44 9 (.slice (some ⟨g,0,none⟩) 24 cap)).run Tryz.prog u.val=.ok (.string st) u.val:=fun u=>by
   have hlen:(fbytes l allF).length=24:=HFL.out
   have:=run_convert_bytes_arg (P:=Tryz.prog) u.val 44 5 Tryz.underlying44 Tryz.underlying5 g 0 24 cap ((fbytes l allF).map fun x=>(x.toNat:Int)) (by simpa using hlen) (fun i hi=>by
    rw [Nat.zero_add]
    refine u.cell ?_
    rw [OO2.out.cellAt i (by omega)]
    unfold byteL
    simp only [List.getElem?_map,List.getD]
    rw [List.getElem?_eq_getElem (by omega)];rfl) 9 Tryz.underlying9
   rw [this,← hst]
   congr 2
   unfold strOfNums
   apply WideShapes.bytes_inj
   rw [List.map_map,List.toList_toArray]
   have e:((fun n:Int=>UInt8.ofNat n.toNat)∘fun x:UInt8=>(x.toNat:Int))=id:=by funext x;simp
   rw [e,List.map_id]
  have HST:=Lib.hid hst
  clear hst
  have ze:∀ a b,a≤b→b≤128→(s.extract a b).size=b-a:=fun a b h1 h2=>by rw [ByteArray.size_extract];omega
  have ad1:=fun (w:World)=>run_string_add_sum (P:=Tryz.prog) (w:=w) (s.extract 0 p) st (by rw [ze 0 p (by omega) (by omega)];omega)
  have ad2:=fun (w:World)=>run_string_add_sum (P:=Tryz.prog) (w:=w) (s.extract 0 p++st) (s.extract (p+24) s.size) (by rw [ByteArray.size_append,ze 0 p (by omega) (by omega),ze (p+24) s.size (by omega) (by omega)];omega)
  clear ze
  have u1:∀ u:Ext W2,u.val.cell? ⟨bb,oo+k,none⟩=some (.string s):=fun u=>u.cell ((B2.out.cell (p:=⟨bb,oo+k,none⟩) hbb).trans hc)
  have u2:∀ u:Ext W2,u.val.cell? ⟨z2,0,none⟩=some (.slice (some ⟨g,0,none⟩) 24 cap):=fun u=>u.cell (BB2.out.cell 0 rfl)
  have s1:IntKind.i64.wrap ((p:Int)+24)=(p:Int)+24:=IntWalk.i64_in _ (by omega)
  have s2:(0:Int)≤(p:Int)+24:=by omega
  have s3:((p:Int)+24).toNat=p+24:=by omega
  have s4:(p:Int)≤(s.size:Int):=by omega
  have s5:(p:Int)+24≤(s.size:Int):=by omega
  have s6:(0:Int)≤(k:Int):=by omega
  have s7:(k:Int)<(xs.length:Int):=by omega
  have s8:(0:Int)≤(p:Int):=by omega
  have HSX:=Lib.hid hsx
  clear hsx hs
  go_wp2_with fail
  refine wp_region_ext_tail 20 (by kernel_rfl) (by kernel_rfl) ?_
  simp only [List.take_succ_cons,List.take_zero,List.drop_succ_cons,List.drop_zero]
  repeat (go_big_quiet_step (fail))
  refine wpQuiet_nil ?_
  rintro _ ⟨u,rfl⟩
  have OR3:=Lib.hid (own_below OR.out u.below)
  have B3:=Lib.hid (B2.out.trans (u.below.mono B2.out.size))
  have HK3:Hid (u.val.heap[D]?=some (.deferred (some []))):=(u.below.block D (Array.getElem?_eq_some_iff.1 HK2.out).1).trans HK2.out
  generalize u.val=W3 at *
  clear hcv u1 u2 ad1 ad2 s1 s2 s3 s4 s5 s8
  have c1:W3.cell? ⟨gr,k,none⟩=some (.string xs[k]):=by
   rw [OR3.out.cellAt k (by omega)];simp [h2]
  have c2:W3.frozen? ⟨gr,k,none⟩=false:=OR3.out.frozenAt k
  generalize hnb:s.extract 0 p++st++s.extract (p+24) s.size=nb at *
  have hnb2:putInoB s p l=nb:=by
   rw [← hnb,← HST.out]
   unfold putInoB
   apply WideShapes.bytes_inj
   have e1:=Lib.extract_data s 0 p
   have e2:(s.extract (p+24) s.size).data.toList=s.data.toList.drop (p+24):=by
    rw [Lib.extract_data,List.take_of_length_le]
    rw [List.length_drop,Array.length_toList];exact Nat.le_refl _
   simp only [ByteArray.data_append,Array.toList_append,e1,e2,List.drop_zero,Nat.sub_zero]
  have HNB:=Lib.hid hnb2
  obtain ⟨o1,o2⟩:=World.ownsRow.stored OR3.out k (.string nb)
  have OR4:=Lib.hid o1
  have hK4:(W3.setCell ⟨gr,k,none⟩ (.string nb)).heap[D]?=some (.deferred (some [])):=(o2.block D (Array.getElem?_eq_some_iff.1 HK3.out).1 (by
   intro e
   have e':D=gr:=Option.some.inj e
   obtain ⟨cur,hcur⟩:=own_blkT OR3.out
   have:=HK3.out
   rw [e'] at this
   unfold Blk at hcur
   rw [this] at hcur;cases hcur)).trans HK3.out
  have HK4:=Lib.hid hK4
  have B4:Hid (Below w.heap.size w (W3.setCell ⟨gr,k,none⟩ (.string nb))):=B3.out.setCell hgr _
  clear o1 o2 hK4 hnb hnb2
  go_wp2
  refine ⟨by simp,.inl ⟨_,_,rfl,run_takeDeferred HK4.out,?_⟩⟩
  refine ⟨_,results_tmp rfl _ _ _,⟨_,rfl,?_⟩,B4.out.trans (belowK_b (w:=W0) (by omega) _ D _ _ (by omega) HK4.out rfl rfl)⟩
  unfold OwnRow
  rw [HNB.out,List.length_set,List.map_set]
  exact own_own () OR4.out (grownBy_putObj' _ D _) (fun r e=>by cases e;exact ⟨_,HK4.out,rfl⟩)
 case stop=>
  rintro D c pre W _ _ h _
  exact h.elim
end Go.Proofs.YtdldlendppkknaaGreatDoor
