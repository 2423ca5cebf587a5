/-
  Contracts and plain laws: ExtS, ExtT, ExtCnt, QuoA.
-/
import Derived.Test.YtdldlendppkknaaGreatDoorPackV12
namespace Go.Proofs.YtdldlendppkknaaGreatDoor
open Go.RowKit
set_option linter.unusedVariables false
set_option linter.unusedSimpArgs false
set_option maxRecDepth 100000
theorem giveV_zero (V:List ByteArray) (m:Nat):giveV V m 0=V:=by
 unfold giveV
 rw [datB_zero,if_neg (by simp)]
section
variable {B:Nat} {g m n:Nat} {V:List ByteArray} {l:List Nat}
set_option maxHeartbeats 8000000 in
theorem shorten_any (size:Nat) (w:World) (hs:size<8960) (h:FileX B w g m n V l) :
  Calls Tryz.prog 164 #[.pointer (some ⟨g,0,none⟩),.int .i64 size] w fun e w'=>e=.returned (.int .i64 0)∧FileX B w' g m n (shortG (putK n) m size (V,l)).1 (shortG (putK n) m size (V,l)).2∧Below B w w':=by
 have FX:=Lib.hid h
 have hz:=h.base
 have HOK:Hid (∀ j,needN size+j≤70→OkS V.length m (dropN (putK n) m (needN size) (V,l) j)):=fun j hj=>dropN_ok (putK_ok h.ok.2.1 h.ok.2.2) h.ok.1 j hj
 have hn70:=needN_le (n:=size) (by omega)
 have HK0:Hid (((size:Int)+128-1) / 128=((needN size:Nat):Int)):=by show _=_;unfold needN;omega
 have HSH:Hid (shortG (putK n) m size (V,l)=tailZ m size (dropI (putK n) m size (dropN (putK n) m (needN size) (V,l) (70-needN size)))):=rfl
 have hq:size / 128<70:=by omega
 generalize needN size=k0 at *
 clear h
 have h1:IntKind.i64.wrap ((size:Int)+128)=(size:Int)+128:=IntWalk.i64_in _ (by omega)
 have h2:IntKind.i64.wrap ((size:Int)+128-1)=(size:Int)+128-1:=IntWalk.i64_in _ (by omega)
 go_enter Tryz.func164,Tryz.ntmps164
 go_wp2
 go_loopw [5] (fun i wr=>∃ (j:Nat),k0+j≤70∧i=.int .i64 ((k0+j:Nat):Int)∧Hid (FileX B wr g m n (dropN (putK n) m k0 (V,l) j).1 (dropN (putK n) m k0 (V,l) j).2)∧Hid (Below B w wr)) (fun i _=>70-(intOf i).toNat)
 case atStart=>exact ⟨0,by omega,by rw [HK0.out];rfl,FX,Below.refl _ _⟩
 case round=>
  obtain ⟨j,hj,rfl,HF,HB⟩:=hrel
  have HS:Hid (dropN (putK n) m k0 (V,l) (j+1)=nameG (putK n) (giveV (dropN (putK n) m k0 (V,l) j).1 m (atX (dropN (putK n) m k0 (V,l) j).1 m (dropN (putK n) m k0 (V,l) j).2 (k0+j))) m (dropN (putK n) m k0 (V,l) j).2 (k0+j) 0):=rfl
  by_cases hlt:k0+j<70
  ·have HJ:Hid (k0+(j+1)≤70):=by show _≤_;omega
   have HQ:Hid (∀ q,k0+j=q→k0+(j+1)=q+1):=fun q hq=>by omega
   have hlj:=hlt
   obtain ⟨V1,l1,hs1⟩:∃ V1 l1,dropN (putK n) m k0 (V,l) j=(V1,l1):=⟨_,_,rfl⟩
   rw [hs1] at HF HS
   dsimp only at HF HS
   clear hs1
   obtain ⟨q,hq1⟩:∃ q,k0+j=q:=⟨_,rfl⟩
   have HQ1:=Lib.hid hq1
   rw [hq1] at hlj HS ⊢
   have HQS:=Lib.hid (HQ.out q hq1)
   clear HQ hlt hj hq1
   have CA:=Lib.hid (at_any q wr hlj HF.out)
   by_cases h0:atX V1 m l1 q=0
   ·rw [h0] at HS CA
    rw [giveV_zero] at HS
    clear h0
    go_wp2_with fail
    refine CA.out.mono ?_
    rintro e w1 ⟨rfl,hb1⟩
    have H1:=Lib.hid (HF.out.below hb1)
    have B1:=Lib.hid (HB.out.trans (hb1.mono HF.out.base))
    clear hb1 CA HF HB
    unfold atI
    rw [if_pos rfl]
    go_wp2_with fail
    refine (name_any q 0 w1 hlj (by omega) H1.out).mono ?_
    rintro e w3 ⟨rfl,hf,hb3⟩
    rw [← HS.out] at hf
    have H3:=Lib.hid hf
    have B3:=Lib.hid (B1.out.trans hb3)
    clear hf hb3 H1 B1 HS
    go_wp2
    go_roundw
    case rel=>exact ⟨j+1,HJ.out,by rw [HQS.out];go_num,H3,B3⟩
    case measure=>simp [intOf];omega
   ·have hne:(((atX V1 m l1 q:Nat):Int) != -1)=true:=by simp
    have HA:Hid (atI (atX V1 m l1 q)=(atX V1 m l1 q:Nat)):=by show _=_;unfold atI;rw [if_neg h0]
    rw [HA.out] at CA
    clear h0 HA
    generalize atX V1 m l1 q=a at *
    go_wp2_with fail
    refine CA.out.mono ?_
    rintro e w1 ⟨rfl,hb1⟩
    have H1:=Lib.hid (HF.out.below hb1)
    have B1:=Lib.hid (HB.out.trans (hb1.mono HF.out.base))
    clear hb1 CA HF HB
    go_wp2_with fail
    refine (give_file a w1 H1.out.base H1.out).mono ?_
    rintro e w2 ⟨rfl,hf,hb2⟩
    have H2:=Lib.hid hf
    have B2:=Lib.hid (B1.out.trans hb2)
    clear hf hb2 H1 B1
    go_wp2_with fail
    refine (name_any q 0 w2 hlj (by omega) H2.out).mono ?_
    rintro e w3 ⟨rfl,hf,hb3⟩
    rw [← HS.out] at hf
    have H3:=Lib.hid hf
    have B3:=Lib.hid (B2.out.trans hb3)
    clear hf hb3 H2 B2 HS
    go_wp2
    go_roundw
    case rel=>exact ⟨j+1,HJ.out,by rw [HQS.out];go_num,H3,B3⟩
    case measure=>simp [intOf];omega
  ·obtain rfl:j=70-k0:=by omega
   obtain ⟨V1,l1,hs1⟩:∃ V1 l1,dropN (putK n) m k0 (V,l) (70-k0)=(V1,l1):=⟨_,_,rfl⟩
   rw [hs1] at HF HSH
   dsimp only at HF
   clear hs1 HS HOK
   by_cases h768:size≤768
   ·have HDI:Hid (dropI (putK n) m size (V1,l1)=(putV (giveV V1 m (l1.getD 10 0)) n (l1.set 10 0),l1.set 10 0)):=by show _=_;unfold dropI;rw [if_pos h768];rfl
    rw [HDI.out] at HSH
    have j1:(size:Int)≤768:=by omega
    have c18:wr.cell? ⟨g,18,none⟩=some (.int .i64 ((l1.getD 10 0:Nat):Int)):=by
     obtain ⟨gv,c,h⟩:=HF.out
     exact h.ino 10 (by omega)
    clear HDI h768
    generalize l1.getD 10 0=i at *
    go_wp2_with fail
    refine (give_file i wr HF.out.base HF.out).mono ?_
    rintro e w3 ⟨rfl,hf,hb3⟩
    have B3:=Lib.hid (HB.out.trans hb3)
    obtain ⟨gv,c,hF⟩:=hf
    have c18b:w3.cell? ⟨g,18,none⟩=some (.int .i64 ((l1.getD 10 0:Nat):Int)):=hF.ino 10 (by omega)
    have c18f:w3.frozen? ⟨g,18,none⟩=false:=hF.blk.frozen _
    have HP4:Hid (FileX B (w3.setCell ⟨g,18,none⟩ (.int .i64 ((0:Nat):Int))) g m n (giveV V1 m i) (l1.set 10 0)):=⟨gv,c,hF.put 10 0 (hF.fit.ind (by omega))⟩
    have B4:Hid (Below B w (w3.setCell ⟨g,18,none⟩ (.int .i64 ((0:Nat):Int)))):=B3.out.setCell hF.low _
    clear hb3 hF HF HB B3 c18
    generalize l1.getD 10 0=i2 at *
    go_wp2_with fail
    refine (keep_any _ HP4.out.base HP4.out).mono ?_
    rintro e w5 ⟨rfl,hf,hb5⟩
    have HX:=Lib.hid hf
    have BX:=Lib.hid (B4.out.trans hb5)
    clear hf hb5 HP4 B4 c18b c18f
    generalize putV (giveV V1 m i) n (l1.set 10 0)=V2 at *
    generalize l1.set 10 0=l2 at *
    have HT:Hid (tailZ m size (V2,l2)=if size % 128≠0∧atX V2 m l2 (size / 128)≠0 then (layX V2 (atX V2 m l2 (size / 128)) (size % 128) (List.replicate (128-size % 128) 0),l2) else (V2,l2)):=rfl
    by_cases hp:size % 128=0
    ·rw [if_neg (by simp [hp])] at HT
     rw [HT.out] at HSH
     have k1:(size:Int) % 128=0:=by omega
     clear HT hp
     go_wp2
     go_ret
     rw [HSH.out]
     exact ⟨rfl,HX.out,BX.out⟩
    ·obtain ⟨pp,hpp⟩:∃ pp,size % 128=pp:=⟨_,rfl⟩
     obtain ⟨q,hqq⟩:∃ q,size / 128=q:=⟨_,rfl⟩
     rw [hpp,hqq] at HT
     rw [hqq] at hq
     rw [hpp] at hp
     have k1:(size:Int) % 128=(pp:Int):=by omega
     have k2:(size:Int) / 128=(q:Int):=by omega
     have k3:¬ pp=0:=hp
     have k4:pp<128:=by omega
     clear hpp hqq hp
     have CA:Hid (∀ w,FileX B w g m n V2 l2→Calls Tryz.prog 175 #[.pointer (some ⟨g,0,none⟩),.int .i64 q] w fun e w'=>e=.returned (.int .i64 (atI (atX V2 m l2 q)))∧Below w.heap.size w w'):=fun w h=>at_any q w hq h
     by_cases h0:atX V2 m l2 q=0
     ·rw [if_neg (by simp [h0])] at HT
      rw [HT.out] at HSH
      rw [h0] at CA
      clear h0 HT
      go_wp2_with fail
      refine (CA.out _ HX.out).mono ?_
      rintro e w8 ⟨rfl,hb8⟩
      have H8:=Lib.hid (HX.out.below hb8)
      have B8:=Lib.hid (BX.out.trans (hb8.mono HX.out.base))
      clear hb8 CA HX BX
      unfold atI
      rw [if_pos rfl]
      go_wp2
      go_ret
      rw [HSH.out]
      exact ⟨rfl,H8.out,B8.out⟩
     ·rw [if_pos ⟨k3,h0⟩] at HT
      rw [HT.out] at HSH
      have HD:Hid (datB V2 m (atX V2 m l2 q)=true):=atX_dat h0
      have hne:(((atX V2 m l2 q:Nat):Int) != -1)=true:=by simp
      have HA:Hid (atI (atX V2 m l2 q)=(atX V2 m l2 q:Nat)):=by show _=_;unfold atI;rw [if_neg h0]
      rw [HA.out] at CA
      clear h0 HT HA
      generalize atX V2 m l2 q=a at *
      obtain ⟨z,hz⟩:∃ z,128-pp=z:=⟨_,rfl⟩
      rw [hz] at HSH
      have k5:(128:Int)-(pp:Int)=(z:Int):=by omega
      have k6:z≤128:=by omega
      have HZ:Hid (zerosB z=(⟨(Lib.repeatL (⟨#[0]⟩:ByteArray).data.toList z).toArray⟩:ByteArray)):=(repeat_zero z).symm
      have HP:Hid (pp+(zerosB z).size≤128):=by show _≤_;rw [zerosB_size];omega
      have HL:=Lib.hid (zerosB_list z)
      have CR:Hid (∀ w,Calls Tryz.prog 101 #[.string ⟨#[0]⟩,.int .i64 z] w fun e w'=>e=.returned (.string (zerosB z))∧Below w.heap.size w w'):=fun w=>by
       rw [HZ.out]
       exact Tryz.strings_Repeat ⟨#[0]⟩ z w (by omega) (by show 1 * z≤_;omega)
      rw [← HL.out] at HSH
      generalize zerosB z=zb at *
      clear hz HZ HL
      go_wp2_with fail
      refine (CA.out _ HX.out).mono ?_
      rintro e w8 ⟨rfl,hb8⟩
      have H8:=Lib.hid (HX.out.below hb8)
      have B8:=Lib.hid (BX.out.trans (hb8.mono HX.out.base))
      clear hb8 CA HX BX
      go_wp2_with fail
      refine (CR.out _).mono ?_
      rintro e w9 ⟨rfl,hb9⟩
      have H9:=Lib.hid (H8.out.below hb9)
      have B9:=Lib.hid (B8.out.trans (hb9.mono H8.out.base))
      clear hb9 CR H8 B8
      go_wp2_with fail
      refine (lay_any a pp zb w9 H9.out.base HD.out HP.out H9.out).mono ?_
      rintro e w10 ⟨rfl,hf,hb10⟩
      have H10:=Lib.hid hf
      have B10:=Lib.hid (B9.out.trans hb10)
      clear hf hb10 H9 B9
      go_wp2
      go_ret
      rw [HSH.out]
      exact ⟨rfl,H10.out,B10.out⟩
   ·have HDI:Hid (dropI (putK n) m size (V1,l1)=(V1,l1)):=by show _=_;unfold dropI;rw [if_neg h768]
    rw [HDI.out] at HSH
    have j1:¬ (size:Int)≤768:=by omega
    have HX:=HF
    have BX:=HB
    clear HDI h768 HF HB
    have HT:Hid (tailZ m size (V1,l1)=if size % 128≠0∧atX V1 m l1 (size / 128)≠0 then (layX V1 (atX V1 m l1 (size / 128)) (size % 128) (List.replicate (128-size % 128) 0),l1) else (V1,l1)):=rfl
    by_cases hp:size % 128=0
    ·rw [if_neg (by simp [hp])] at HT
     rw [HT.out] at HSH
     have k1:(size:Int) % 128=0:=by omega
     clear HT hp
     go_wp2
     go_ret
     rw [HSH.out]
     exact ⟨rfl,HX.out,BX.out⟩
    ·obtain ⟨pp,hpp⟩:∃ pp,size % 128=pp:=⟨_,rfl⟩
     obtain ⟨q,hqq⟩:∃ q,size / 128=q:=⟨_,rfl⟩
     rw [hpp,hqq] at HT
     rw [hqq] at hq
     rw [hpp] at hp
     have k1:(size:Int) % 128=(pp:Int):=by omega
     have k2:(size:Int) / 128=(q:Int):=by omega
     have k3:¬ pp=0:=hp
     have k4:pp<128:=by omega
     clear hpp hqq hp
     have CA:Hid (∀ w,FileX B w g m n V1 l1→Calls Tryz.prog 175 #[.pointer (some ⟨g,0,none⟩),.int .i64 q] w fun e w'=>e=.returned (.int .i64 (atI (atX V1 m l1 q)))∧Below w.heap.size w w'):=fun w h=>at_any q w hq h
     by_cases h0:atX V1 m l1 q=0
     ·rw [if_neg (by simp [h0])] at HT
      rw [HT.out] at HSH
      rw [h0] at CA
      clear h0 HT
      go_wp2_with fail
      refine (CA.out _ HX.out).mono ?_
      rintro e w8 ⟨rfl,hb8⟩
      have H8:=Lib.hid (HX.out.below hb8)
      have B8:=Lib.hid (BX.out.trans (hb8.mono HX.out.base))
      clear hb8 CA HX BX
      unfold atI
      rw [if_pos rfl]
      go_wp2
      go_ret
      rw [HSH.out]
      exact ⟨rfl,H8.out,B8.out⟩
     ·rw [if_pos ⟨k3,h0⟩] at HT
      rw [HT.out] at HSH
      have HD:Hid (datB V1 m (atX V1 m l1 q)=true):=atX_dat h0
      have hne:(((atX V1 m l1 q:Nat):Int) != -1)=true:=by simp
      have HA:Hid (atI (atX V1 m l1 q)=(atX V1 m l1 q:Nat)):=by show _=_;unfold atI;rw [if_neg h0]
      rw [HA.out] at CA
      clear h0 HT HA
      generalize atX V1 m l1 q=a at *
      obtain ⟨z,hz⟩:∃ z,128-pp=z:=⟨_,rfl⟩
      rw [hz] at HSH
      have k5:(128:Int)-(pp:Int)=(z:Int):=by omega
      have k6:z≤128:=by omega
      have HZ:Hid (zerosB z=(⟨(Lib.repeatL (⟨#[0]⟩:ByteArray).data.toList z).toArray⟩:ByteArray)):=(repeat_zero z).symm
      have HP:Hid (pp+(zerosB z).size≤128):=by show _≤_;rw [zerosB_size];omega
      have HL:=Lib.hid (zerosB_list z)
      have CR:Hid (∀ w,Calls Tryz.prog 101 #[.string ⟨#[0]⟩,.int .i64 z] w fun e w'=>e=.returned (.string (zerosB z))∧Below w.heap.size w w'):=fun w=>by
       rw [HZ.out]
       exact Tryz.strings_Repeat ⟨#[0]⟩ z w (by omega) (by show 1 * z≤_;omega)
      rw [← HL.out] at HSH
      generalize zerosB z=zb at *
      clear hz HZ HL
      go_wp2_with fail
      refine (CA.out _ HX.out).mono ?_
      rintro e w8 ⟨rfl,hb8⟩
      have H8:=Lib.hid (HX.out.below hb8)
      have B8:=Lib.hid (BX.out.trans (hb8.mono HX.out.base))
      clear hb8 CA HX BX
      go_wp2_with fail
      refine (CR.out _).mono ?_
      rintro e w9 ⟨rfl,hb9⟩
      have H9:=Lib.hid (H8.out.below hb9)
      have B9:=Lib.hid (B8.out.trans (hb9.mono H8.out.base))
      clear hb9 CR H8 B8
      go_wp2_with fail
      refine (lay_any a pp zb w9 H9.out.base HD.out HP.out H9.out).mono ?_
      rintro e w10 ⟨rfl,hf,hb10⟩
      have H10:=Lib.hid hf
      have B10:=Lib.hid (B9.out.trans hb10)
      clear hf hb10 H9 B9
      go_wp2
      go_ret
      rw [HSH.out]
      exact ⟨rfl,H10.out,B10.out⟩
end
set_option maxHeartbeats 8000000 in
theorem cut_neg (A:Option Addr) (c:Nat) (xs:List ByteArray) (n size:Int) (w:World) (hx:xs.length≤1000000) (h:RowAt w w.heap.size A (xs.map .string)) (h0:inoE xs n=0) (hneg:size<0) :
  Calls Tryz.prog 91 #[.slice A xs.length c,.int .i64 n,.int .i64 size] w (RowCode (cutO xs n size).1 (cutO xs n size).2 w):=by
 have CO:=Lib.hid (opened_any A c xs n w hx h)
 unfold OpenPost at CO
 simp only [if_pos h0] at CO
 obtain ⟨m,k,hv,rfl,hk1,hk2,hk3⟩:=inoE_ok h0
 have hvl:=hv.len
 have HO:Hid (∀ g w2 gv c,w.heap.size≤g→Blk w2 g 112 (fileC (.slice (some ⟨gv,0,none⟩) xs.length c) xs.length (mO xs) (k:Int).toNat (getR xs (k:Int)))→w2.ownsRow w.heap.size 9 1 (.slice (some ⟨gv,0,none⟩) xs.length c) xs.length (xs.map .string)→FileX w.heap.size w2 g m k xs (getR xs (k:Int))):=fun g w2 gv c a b c'=>OpenPost.file (w':=w) hv hk1 hk2 a b c'
 have HLL:Hid (∀ sl,(fileC sl xs.length (mO xs) (k:Int).toNat (getR xs (k:Int))).size=20):=fun sl=>fileC_size _ _ _ _ _ (getR_len _ _)
 have HOK:Hid (OkS xs.length m (xs,getR xs (k:Int))):=⟨hv,rfl,by rw [getR_vol hv hk1 hk2];exact inoR_fit _ _⟩
 have HPS:Hid (putV xs k (getR xs (k:Int))=xs):=by show _=_;rw [getR_vol hv hk1 hk2];exact putV_self hv hk1 hk2
 have HW0:Hid (cutO xs (k:Int) size=if size<0 then (([],1):List ByteArray × Int) else if 8960<size then ([],6)
  else (putV (cutG noK xs m (getR xs k) size.toNat).1 k (cutG noK xs m (getR xs k) size.toNat).2,0)):=by
  show _=_
  unfold cutO
  rw [if_neg (by rw [h0];simp),mO_vol hv,Int.toNat_natCast]
 clear h0 hk3 hv
 rw [if_pos hneg] at HW0
 go_enter Tryz.func91,Tryz.ntmps91
 go_wp2_with fail
 refine CO.out.mono ?_
 rintro e w1 ⟨hb1,gv,cv,rfl,ho⟩
 have B1:=Lib.hid hb1
 have O1:=Lib.hid ho
 have hz1:=hb1.size
 clear hb1 ho CO
 go_wp2_with (refine store_blk 112 (.tmp 8) (.tmp 17) w1.heap.size 112 fileZ (fileC (.slice (some ⟨gv,0,none⟩) xs.length cv) xs.length (mO xs) (k:Int).toNat (getR xs (k:Int))) rfl rfl rfl rfl (Blk.new w1 _ _) (by rw [HLL.out];rfl) (by rw [HLL.out];kernel_rfl) (fileC_one _ _ _ _ _ _ _) ?_;intro w2 hr2 hg2)
 have FX:Hid (FileX w.heap.size w2 w1.heap.size m k xs (getR xs (k:Int))):=HO.out _ _ gv cv hz1 hr2 (by
  refine (O1.out.alloc _).kept hg2 (.inr ?_)
  have:=own_ne (O1.out.alloc _) (Blk.new w1 112 fileZ) (by decide)
  intro e;exact this e.symm)
 have BW:Hid (Below w.heap.size w w2):=(B1.out.alloc hz1 _).grown hg2 (by simp;omega) (fun k e=>by cases e;exact hz1)
 go_ret2
 rw [HW0.out]
 exact ⟨⟨_,rfl,own_nil _ _⟩,BW.out⟩
set_option maxHeartbeats 8000000 in
theorem cut_big (A:Option Addr) (c:Nat) (xs:List ByteArray) (n size:Int) (w:World) (hx:xs.length≤1000000) (h:RowAt w w.heap.size A (xs.map .string)) (h0:inoE xs n=0) (hneg:¬ size<0) (hbig:8960<size) :
  Calls Tryz.prog 91 #[.slice A xs.length c,.int .i64 n,.int .i64 size] w (RowCode (cutO xs n size).1 (cutO xs n size).2 w):=by
 have CO:=Lib.hid (opened_any A c xs n w hx h)
 unfold OpenPost at CO
 simp only [if_pos h0] at CO
 obtain ⟨m,k,hv,rfl,hk1,hk2,hk3⟩:=inoE_ok h0
 have hvl:=hv.len
 have HO:Hid (∀ g w2 gv c,w.heap.size≤g→Blk w2 g 112 (fileC (.slice (some ⟨gv,0,none⟩) xs.length c) xs.length (mO xs) (k:Int).toNat (getR xs (k:Int)))→w2.ownsRow w.heap.size 9 1 (.slice (some ⟨gv,0,none⟩) xs.length c) xs.length (xs.map .string)→FileX w.heap.size w2 g m k xs (getR xs (k:Int))):=fun g w2 gv c a b c'=>OpenPost.file (w':=w) hv hk1 hk2 a b c'
 have HLL:Hid (∀ sl,(fileC sl xs.length (mO xs) (k:Int).toNat (getR xs (k:Int))).size=20):=fun sl=>fileC_size _ _ _ _ _ (getR_len _ _)
 have HOK:Hid (OkS xs.length m (xs,getR xs (k:Int))):=⟨hv,rfl,by rw [getR_vol hv hk1 hk2];exact inoR_fit _ _⟩
 have HPS:Hid (putV xs k (getR xs (k:Int))=xs):=by show _=_;rw [getR_vol hv hk1 hk2];exact putV_self hv hk1 hk2
 have HW0:Hid (cutO xs (k:Int) size=if size<0 then (([],1):List ByteArray × Int) else if 8960<size then ([],6)
  else (putV (cutG noK xs m (getR xs k) size.toNat).1 k (cutG noK xs m (getR xs k) size.toNat).2,0)):=by
  show _=_
  unfold cutO
  rw [if_neg (by rw [h0];simp),mO_vol hv,Int.toNat_natCast]
 clear h0 hk3 hv
 rw [if_neg hneg,if_pos hbig] at HW0
 go_enter Tryz.func91,Tryz.ntmps91
 go_wp2_with fail
 refine CO.out.mono ?_
 rintro e w1 ⟨hb1,gv,cv,rfl,ho⟩
 have B1:=Lib.hid hb1
 have O1:=Lib.hid ho
 have hz1:=hb1.size
 clear hb1 ho CO
 go_wp2_with (refine store_blk 112 (.tmp 8) (.tmp 17) w1.heap.size 112 fileZ (fileC (.slice (some ⟨gv,0,none⟩) xs.length cv) xs.length (mO xs) (k:Int).toNat (getR xs (k:Int))) rfl rfl rfl rfl (Blk.new w1 _ _) (by rw [HLL.out];rfl) (by rw [HLL.out];kernel_rfl) (fileC_one _ _ _ _ _ _ _) ?_;intro w2 hr2 hg2)
 have FX:Hid (FileX w.heap.size w2 w1.heap.size m k xs (getR xs (k:Int))):=HO.out _ _ gv cv hz1 hr2 (by
  refine (O1.out.alloc _).kept hg2 (.inr ?_)
  have:=own_ne (O1.out.alloc _) (Blk.new w1 112 fileZ) (by decide)
  intro e;exact this e.symm)
 have BW:Hid (Below w.heap.size w w2):=(B1.out.alloc hz1 _).grown hg2 (by simp;omega) (fun k e=>by cases e;exact hz1)
 go_ret2
 rw [HW0.out]
 exact ⟨⟨_,rfl,own_nil _ _⟩,BW.out⟩
set_option maxHeartbeats 8000000 in
theorem cut_ok (A:Option Addr) (c:Nat) (xs:List ByteArray) (n size:Int) (w:World) (hx:xs.length≤1000000) (h:RowAt w w.heap.size A (xs.map .string)) (h0:inoE xs n=0) (hneg:¬ size<0) (hbig:¬ 8960<size) :
  Calls Tryz.prog 91 #[.slice A xs.length c,.int .i64 n,.int .i64 size] w (RowCode (cutO xs n size).1 (cutO xs n size).2 w):=by
 have CO:=Lib.hid (opened_any A c xs n w hx h)
 unfold OpenPost at CO
 simp only [if_pos h0] at CO
 obtain ⟨m,k,hv,rfl,hk1,hk2,hk3⟩:=inoE_ok h0
 have hvl:=hv.len
 have HO:Hid (∀ g w2 gv c,w.heap.size≤g→Blk w2 g 112 (fileC (.slice (some ⟨gv,0,none⟩) xs.length c) xs.length (mO xs) (k:Int).toNat (getR xs (k:Int)))→w2.ownsRow w.heap.size 9 1 (.slice (some ⟨gv,0,none⟩) xs.length c) xs.length (xs.map .string)→FileX w.heap.size w2 g m k xs (getR xs (k:Int))):=fun g w2 gv c a b c'=>OpenPost.file (w':=w) hv hk1 hk2 a b c'
 have HLL:Hid (∀ sl,(fileC sl xs.length (mO xs) (k:Int).toNat (getR xs (k:Int))).size=20):=fun sl=>fileC_size _ _ _ _ _ (getR_len _ _)
 have HOK:Hid (OkS xs.length m (xs,getR xs (k:Int))):=⟨hv,rfl,by rw [getR_vol hv hk1 hk2];exact inoR_fit _ _⟩
 have HPS:Hid (putV xs k (getR xs (k:Int))=xs):=by show _=_;rw [getR_vol hv hk1 hk2];exact putV_self hv hk1 hk2
 have HW0:Hid (cutO xs (k:Int) size=if size<0 then (([],1):List ByteArray × Int) else if 8960<size then ([],6)
  else (putV (cutG noK xs m (getR xs k) size.toNat).1 k (cutG noK xs m (getR xs k) size.toNat).2,0)):=by
  show _=_
  unfold cutO
  rw [if_neg (by rw [h0];simp),mO_vol hv,Int.toNat_natCast]
 clear h0 hk3 hv
 obtain ⟨sz,rfl⟩:=Int.eq_ofNat_of_zero_le (show 0≤size by omega)
 rw [if_neg hneg,if_neg hbig,Int.toNat_natCast] at HW0
 have g0:decide ((sz:Int)<0)=false:=by simp
 have g1:¬ 8960<(sz:Int):=hbig
 have HPUT:Hid (cutO xs (k:Int) (sz:Int)=((cutG (putK k) xs m (getR xs k) sz).1,0)):=by
  show _=_
  rw [HW0.out]
  have:=cutG_put hk1 hk2 HOK.out (size:=sz) (by omega)
  rw [HPS.out] at this
  rw [this];rfl
 clear hneg hbig HW0 HPS
 go_enter Tryz.func91,Tryz.ntmps91
 go_wp2_with fail
 refine CO.out.mono ?_
 rintro e w1 ⟨hb1,gv,cv,rfl,ho⟩
 have B1:=Lib.hid hb1
 have O1:=Lib.hid ho
 have hz1:=hb1.size
 clear hb1 ho CO
 go_wp2_with (refine store_blk 112 (.tmp 8) (.tmp 17) w1.heap.size 112 fileZ (fileC (.slice (some ⟨gv,0,none⟩) xs.length cv) xs.length (mO xs) (k:Int).toNat (getR xs (k:Int))) rfl rfl rfl rfl (Blk.new w1 _ _) (by rw [HLL.out];rfl) (by rw [HLL.out];kernel_rfl) (fileC_one _ _ _ _ _ _ _) ?_;intro w2 hr2 hg2)
 have FX:Hid (FileX w.heap.size w2 w1.heap.size m k xs (getR xs (k:Int))):=HO.out _ _ gv cv hz1 hr2 (by
  refine (O1.out.alloc _).kept hg2 (.inr ?_)
  have:=own_ne (O1.out.alloc _) (Blk.new w1 112 fileZ) (by decide)
  intro e;exact this e.symm)
 have BW:Hid (Below w.heap.size w w2):=(B1.out.alloc hz1 _).grown hg2 (by simp;omega) (fun k e=>by cases e;exact hz1)
 have hgg:w.heap.size≤w1.heap.size:=hz1
 generalize hg:w1.heap.size=g at *
 generalize getR xs (k:Int)=l0 at *
 clear hr2 hg2 HO O1 B1 HLL hg hz1
 have CS:=Lib.hid (size_any (B:=w.heap.size) (g:=g) (m:=m) (n:=k) (V:=xs) (l:=l0) w2 FX.out)
 obtain ⟨gv2,c2,hF⟩:=FX.out
 have c11:w2.cell? ⟨g,11,none⟩=some (.int .i64 ((l0.getD 3 0:Nat):Int)):=hF.ino 3 (by omega)
 have c11f:w2.frozen? ⟨g,11,none⟩=false:=hF.blk.frozen _
 have HP:Hid (FileX w.heap.size (w2.setCell ⟨g,11,none⟩ (.int .i64 (sz:Int))) g m k xs (l0.set 3 sz)):=⟨gv2,c2,hF.put 3 sz (hF.fit.size (by omega))⟩
 have BP:Hid (Below w.heap.size w (w2.setCell ⟨g,11,none⟩ (.int .i64 (sz:Int)))):=BW.out.setCell hF.low _
 have HCG:Hid (cutG (putK k) xs m l0 sz=if sz<sizeX l0 then shortG (putK k) m sz (putV xs k (l0.set 3 sz),l0.set 3 sz) else (putV xs k (l0.set 3 sz),l0.set 3 sz)):=rfl
 have hsx:=sizeX_le l0
 clear hF FX BW HOK
 generalize l0.set 3 sz=l3 at *
 generalize l0.getD 3 0=l3v at *
 by_cases hless:sz<sizeX l0
 ·rw [if_pos hless] at HCG
  rw [HCG.out] at HPUT
  have n1:(sz:Int)<(sizeX l0:Int):=by omega
  have hs:sz<8960:=by omega
  generalize sizeX l0=sx at *
  clear HCG hsx
  go_wp2_with fail
  refine CS.out.mono ?_
  rintro e w3 ⟨rfl,rfl⟩
  go_wp2_with fail
  refine (keep_any _ HP.out.base HP.out).mono ?_
  rintro e w4 ⟨rfl,hf,hb4⟩
  have H4:=Lib.hid hf
  have B4:=Lib.hid (BP.out.trans hb4)
  clear hf hb4 HP BP
  go_wp2_with fail
  refine (shorten_any sz w4 hs H4.out).mono ?_
  rintro e w5 ⟨rfl,hf,hb5⟩
  obtain ⟨gv3,c3,hF3⟩:=hf
  have HF3:=Lib.hid hF3
  have B5:=Lib.hid (B4.out.trans hb5)
  have c0:=hF3.c0
  clear hb5 hF3 H4 B4 c11 c11f
  go_wp2
  go_ret2
  rw [HPUT.out]
  exact ⟨⟨_,rfl,HF3.out.own⟩,B5.out⟩
 ·rw [if_neg hless] at HCG
  rw [HCG.out] at HPUT
  have n1:¬ (sz:Int)<(sizeX l0:Int):=by omega
  generalize sizeX l0=sx at *
  clear HCG hsx
  go_wp2_with fail
  refine CS.out.mono ?_
  rintro e w3 ⟨rfl,rfl⟩
  go_wp2_with fail
  refine (keep_any _ HP.out.base HP.out).mono ?_
  rintro e w4 ⟨rfl,hf,hb4⟩
  have H4:=Lib.hid hf
  have B4:=Lib.hid (BP.out.trans hb4)
  clear hf hb4 HP BP
  obtain ⟨gv3,c3,hF3⟩:=H4.out
  have HF3:=Lib.hid hF3
  have c0:=hF3.c0
  clear hF3 c11 c11f
  go_wp2
  go_ret2
  rw [HPUT.out]
  exact ⟨⟨_,rfl,HF3.out.own⟩,B4.out⟩
set_option maxHeartbeats 8000000 in
theorem cut_none (A:Option Addr) (c:Nat) (xs:List ByteArray) (n size:Int) (w:World) (hx:xs.length≤1000000) (h:RowAt w w.heap.size A (xs.map .string)) (h0:¬ inoE xs n=0) :
  Calls Tryz.prog 91 #[.slice A xs.length c,.int .i64 n,.int .i64 size] w (RowCode (cutO xs n size).1 (cutO xs n size).2 w):=by
 have CO:=Lib.hid (opened_any A c xs n w hx h)
 unfold OpenPost at CO
 simp only [if_neg h0] at CO
 have HW0:Hid (cutO xs n size=([],inoE xs n)):=by show _=_;unfold cutO;rw [if_pos h0]
 have hn0:(inoE xs n != 0)=true:=by simpa using h0
 generalize inoE xs n=ie at *
 clear h0
 go_enter Tryz.func91,Tryz.ntmps91
 go_wp2_with fail
 refine CO.out.mono ?_
 rintro e w1 ⟨hb1,rfl⟩
 have B1:=Lib.hid hb1
 have hz1:=hb1.size
 clear hb1 CO
 go_wp2_with (refine store_blk 112 (.tmp 8) (.tmp 17) w1.heap.size 112 fileZ fileZ rfl rfl rfl rfl (Blk.new w1 _ _) rfl (by kernel_rfl) fileZ_one ?_;intro w2 hr2 hg2)
 have BW:Hid (Below w.heap.size w w2):=(B1.out.alloc hz1 _).grown hg2 (by simp;omega) (fun k e=>by cases e;exact hz1)
 go_ret2
 rw [HW0.out]
 exact ⟨⟨_,rfl,own_nil _ _⟩,BW.out⟩
theorem cut_any (A:Option Addr) (c:Nat) (xs:List ByteArray) (n size:Int) (w:World) (hx:xs.length≤1000000) (h:RowAt w w.heap.size A (xs.map .string)) :
  Calls Tryz.prog 91 #[.slice A xs.length c,.int .i64 n,.int .i64 size] w (RowCode (cutO xs n size).1 (cutO xs n size).2 w):=by
 by_cases h0:inoE xs n=0
 ·by_cases hneg:size<0
  ·exact cut_neg A c xs n size w hx h h0 hneg
  ·by_cases hbig:8960<size
   ·exact cut_big A c xs n size w hx h h0 hneg hbig
   ·exact cut_ok A c xs n size w hx h h0 hneg hbig
 ·exact cut_none A c xs n size w hx h h0
open Go.RowKit Go.Shelf
attribute [local go_sem] Oper.semAt_some
theorem upK_map (c:Nat) (h:c≤70):(upK c).map Fin.val=List.range c:=by
 induction c with
 | zero=>rfl
 | succ c ih=>rw [upK_succ c (by omega),List.map_append,ih (by omega),List.range_succ];rfl
def cntF (V:List ByteArray) (m:Nat) (l:List Nat) (pre:List (Fin 70)):Nat:=(pre.filter fun i=>atX V m l i.1 != 0).length
theorem cntF_snoc (V:List ByteArray) (m:Nat) (l:List Nat) (pre:List (Fin 70)) (x:Fin 70):cntF V m l (pre++[x])=cntF V m l pre+(if atX V m l x.1 != 0 then 1 else 0):=by
 unfold cntF
 rw [List.filter_append,List.length_append]
 by_cases h:(atX V m l x.1 != 0)=true <;> simp [h]
theorem cntF_le (V:List ByteArray) (m:Nat) (l:List Nat) (pre:List (Fin 70)):cntF V m l pre≤pre.length:=List.length_filter_le _ _
theorem cntF_all (V:List ByteArray) (m:Nat) (l:List Nat):cntF V m l (upK 70)=manyX V m l 70:=by
 unfold cntF manyX
 rw [← upK_map 70 (Nat.le_refl _),List.filter_map,List.length_map]
 rfl
theorem FileX.own {B C:Nat} {g m n:Nat} {V:List ByteArray} {l:List Nat} {β:Type}:OwnFrom C (fun (_:β) W=>FileX B W g m n V l):=fun s X Y row hs hg hr=>by
 have hr':∀ r,row=some r→∃ o:Obj,X.heap[r]?=some o∧o.isCells=false:=fun r e=>(hr r e).2
 obtain ⟨gv,c,h⟩:=hs
 exact ⟨gv,c,h.low,Blk.own g _ (fun (_:Unit)=>_) () X Y row h.blk hg hr',own_own () h.own hg hr',h.vol,h.fit,h.one,h.top⟩
structure CntI (w:World) (gc g m n:Nat) (V:List ByteArray) (l:List Nat) (pre:List (Fin 70)) (W:World):Prop where
 fc:Blk W gc 3 #[.int .i64 (cntF V m l pre:Nat)]
 ff:FileX w.heap.size W g m n V l
 low:w.heap.size≤gc
 below:Below w.heap.size w W
theorem CntI.own {w:World} {gc g m n:Nat} {V:List ByteArray} {l:List Nat} {B:Nat} (hB:w.heap.size≤B):OwnFrom B (fun pre W=>CntI w gc g m n V l pre W):=fun s X Y row hs hg hr=>
 have hr':∀ r,row=some r→∃ o:Obj,X.heap[r]?=some o∧o.isCells=false:=fun r e=>(hr r e).2
 ⟨Blk.own gc _ (fun (_:Unit)=>_) () X Y row hs.fc hg hr',FileX.own (β:=Unit) (C:=B) () X Y row hs.ff hg hr,hs.low,ownFrom_below (Nat.le_refl _) hB s X Y row hs.below hg hr⟩
theorem FileX.cell {w w':World} {B g m n:Nat} {V:List ByteArray} {l:List Nat} (h:FileX B w g m n V l) {gc:Nat} {cs:Array Value} (hb:Blk w gc 3 cs) (hg:w.grownBy w' (some gc)):FileX B w' g m n V l:=by
 obtain ⟨gv,c,h⟩:=h
 refine ⟨gv,c,h.low,h.blk.grown hg (by intro e;exact h.blk.ne hb (by decide) (Option.some.inj e)),h.own.kept hg (.inr ?_),h.vol,h.fit,h.one,h.top⟩
 intro e
 have:=own_ne h.own hb (by decide)
 exact this e.symm
set_option maxHeartbeats 8000000 in
theorem count_ok (A:Option Addr) (c:Nat) (xs:List ByteArray) (n:Int) (w:World) (hx:xs.length≤1000000) (h:RowAt w w.heap.size A (xs.map .string)) (h0:inoE xs n=0) :
  Calls Tryz.prog 19 #[.slice A xs.length c,.int .i64 n] w fun e w'=>e=.returned (.int .i64 (countO xs n:Nat))∧Below w.heap.size w w':=by
 have CO:=Lib.hid (opened_any A c xs n w hx h)
 unfold OpenPost at CO
 simp only [if_pos h0] at CO
 obtain ⟨m,k,hv,rfl,hk1,hk2,hk3⟩:=inoE_ok h0
 have hvl:=hv.len
 have HO:Hid (∀ g w2 gv c,w.heap.size≤g→Blk w2 g 112 (fileC (.slice (some ⟨gv,0,none⟩) xs.length c) xs.length (mO xs) (k:Int).toNat (getR xs (k:Int)))→w2.ownsRow w.heap.size 9 1 (.slice (some ⟨gv,0,none⟩) xs.length c) xs.length (xs.map .string)→FileX w.heap.size w2 g m k xs (getR xs (k:Int))):=fun g w2 gv c a b c'=>OpenPost.file (w':=w) hv hk1 hk2 a b c'
 have HLL:Hid (∀ sl,(fileC sl xs.length (mO xs) (k:Int).toNat (getR xs (k:Int))).size=20):=fun sl=>fileC_size _ _ _ _ _ (getR_len _ _)
 have HW0:Hid (countO xs (k:Int)=countX xs m (getR xs (k:Int))):=by
  show _=_
  unfold countO
  rw [if_neg (by rw [h0];simp),mO_vol hv]
 clear h0 hk3 hv
 refine (callsIn_wide (n:=4)).1 ?_
 refine callsIn_of_wp_marks Tryz.func19 rfl trivial ?_
 simp only [Tryz.ntmps19,List.size_toArray,List.length_cons,List.length_nil,Nat.reduceAdd,Nat.reduceSub,Array.replicate_succ,Array.replicate_zero,List.push_toArray,List.append_toArray,List.nil_append,List.cons_append]
 refine wpIn_wide.2 ?_
 go_wp2_with fail
 refine CO.out.mono ?_
 rintro e w1 ⟨hb1,gv,cv,rfl,ho⟩
 have B1:=Lib.hid hb1
 have O1:=Lib.hid ho
 have hz1:=hb1.size
 clear hb1 ho CO
 go_wp2_with (refine store_blk 112 (.tmp 5) (.tmp 14) w1.heap.size 112 fileZ (fileC (.slice (some ⟨gv,0,none⟩) xs.length cv) xs.length (mO xs) (k:Int).toNat (getR xs (k:Int))) rfl rfl rfl rfl (Blk.new w1 _ _) (by rw [HLL.out];rfl) (by rw [HLL.out];kernel_rfl) (fileC_one _ _ _ _ _ _ _) ?_;intro w2 hr2 hg2)
 have FX:Hid (FileX w.heap.size w2 w1.heap.size m k xs (getR xs (k:Int))):=HO.out _ _ gv cv hz1 hr2 (by
  refine (O1.out.alloc _).kept hg2 (.inr ?_)
  have:=own_ne (O1.out.alloc _) (Blk.new w1 112 fileZ) (by decide)
  intro e;exact this e.symm)
 have BW:Hid (Below w.heap.size w w2):=(B1.out.alloc hz1 _).grown hg2 (by simp;omega) (fun k e=>by cases e;exact hz1)
 have hgg:w.heap.size≤w1.heap.size:=hz1
 generalize hg:w1.heap.size=g at *
 generalize getR xs (k:Int)=l at *
 clear hr2 hg2 HO O1 B1 HLL hg hz1
 have F3:=Lib.hid (FX.out.below ((Below.refl w2.heap.size w2).alloc (Nat.le_refl _) (.cells #[.int .i64 0] 3)))
 have G3:=Lib.hid (Blk.new w2 3 #[.int .i64 0])
 have B3:=Lib.hid (BW.out.alloc BW.out.size (.cells #[.int .i64 0] 3))
 have hz2:=BW.out.size
 go_wp2_with fail
 refine (first_file 70 _ F3.out).mono ?_
 rintro e w4 ⟨Bl,Bc,rfl,hbc,hlc,hbl,hbb,hb4⟩
 obtain ⟨gc,hgc⟩:∃ gc,w2.heap.size=gc:=⟨_,rfl⟩
 rw [hgc] at G3 hz2
 have H0:Hid (CntI w gc g m k xs l [] w4):=⟨G3.out.below hb4 G3.out.lt,F3.out.below hb4,hz2,B3.out.trans (hb4.mono B3.out.size)⟩
 have HBL:=Lib.hid hbl
 have HBB:=Lib.hid hbb
 have hbcl:Bc≠gc:=by
  have:=G3.out.lt
  omega
 have HBC:Hid (Bc≠gc):=hbcl
 have hz4:w.heap.size≤w4.heap.size:=H0.out.below.size
 rw [hgc]
 clear hbl hbb hb4 B3 F3 G3 FX BW hbc hlc hgc hbcl
 go_wp2_with fail
 refine (wpIn_wide (n:=4)).1 ?_
 apply wpIn_rangeFunc_ownG rfl (by omega) (gf:=121) (lb:=#[.pointer (some ⟨Bl,0,none⟩),.pointer (some ⟨Bc,0,none⟩)]) rfl trivial (enters_of Tryz.func121 (by kernel_rfl) rfl)
  (first_stops (atF xs m l) 70 3 (Nat.le_refl _) (by omega) Bl Bc w4 HBL.out HBB.out)
  (fun h k=>h.trans k) (fun W l o o' _ ho hc _=>KeepB.putObj W l o o' ho hc) (Below.refl _ _) (fun _=>rfl)
  (fun pre W=>CntI w gc g m k xs l pre W) (fun _ _ _=>False)
  (CntI.own hz4) (fun _ _ _ _ _ hs _ _=>hs) H0.out
 case hassign=>
  intro l x W K hK
  gi_wp2
  exact hK
 case hbody=>
  rintro ll pre x W hi hlt
  have HI:=Lib.hid hi
  have HSN:=Lib.hid (cntF_snoc xs m l pre x)
  have hle:=cntF_le xs m l pre
  have c0:=hi.fc.cell 0 rfl
  have c0f:=hi.fc.frozen 0
  obtain ⟨cn,hcn⟩:∃ cn,cntF xs m l pre=cn:=⟨_,rfl⟩
  have HFC:Hid (Blk W gc 3 #[.int .i64 (cn:Int)]):=by rw [← hcn];exact hi.fc
  rw [hcn] at hle c0 HSN
  by_cases hz:atX xs m l x.1=0
  ·have hv:atF xs m l x.1 = -1:=by unfold atF atI;rw [if_pos hz]
   have HE:Hid (cntF xs m l (pre++[x])=cn):=by show _=_;rw [HSN.out,hz];rfl
   rw [hv]
   clear hi hv hcn
   gi_wp2
   refine ⟨KeepsFrom.refl _ _,KeepB.refl _ _,?_⟩
   exact ⟨by rw [HE.out];exact HFC.out,HI.out.ff,HI.out.low,HI.out.below⟩
  ·have hv:(atF xs m l x.1 != -1)=true:=by
    have:atF xs m l x.1=(atX xs m l x.1:Nat):=by unfold atF atI;rw [if_neg hz]
    rw [this];simp
   have hv2:¬ atF xs m l x.1 = -1:=by simpa using hv
   have HE:Hid (cntF xs m l (pre++[x])=cn+1):=by show _=_;rw [HSN.out,if_pos (by simpa using hz)]
   generalize atF xs m l x.1=v at *
   clear hi hcn hz
   have w1:IntKind.i64.wrap ((cn:Int)+1)=(cn:Int)+1:=IntWalk.i64_in _ (by omega)
   gi_wp2
   have hgr:=only_setCell (World.grownBy.refl W (some gc)) 0 (.int .i64 ((cn:Int)+1))
   refine ⟨(KeepsOthers.setCell _ _ _).from _,KeepB.grown hgr (by intro e;exact HBC.out (Option.some.inj e)),?_⟩
   refine ⟨?_,HI.out.ff.cell HFC.out hgr,HI.out.low,HI.out.below.grown hgr HI.out.below.size (fun j e=>by cases e;exact HI.out.low)⟩
   rw [HE.out]
   have:=HFC.out.set_ 0 (.int .i64 ((cn:Int)+1))
   simpa using this
 case hdone=>
  rintro D ys W hD rfl hi hK
  have HF:=Lib.hid hi.ff
  have HK:=Lib.hid hK
  have HFC:=Lib.hid hi.fc
  have HB:=Lib.hid hi.below
  rw [cntF_all] at HFC
  have hml:=manyX_le xs m l 70
  have HC:Hid (countX xs m l=manyX xs m l 70+(if datB xs m (l.getD 10 0)=true then 1 else 0)+(if datB xs m (l.getD 11 0)=true then 1 else 0)):=rfl
  have HL:=Lib.hid hi.low
  obtain ⟨gv3,c3,hF3⟩:=hi.ff
  have c18:W.cell? ⟨g,18,none⟩=some (.int .i64 ((l.getD 10 0:Nat):Int)):=hF3.ino 10 (by omega)
  have c19:W.cell? ⟨g,19,none⟩=some (.int .i64 ((l.getD 11 0:Nat):Int)):=hF3.ino 11 (by omega)
  have HNE:Hid (g≠gc):=by
   intro e
   exact hF3.blk.ne HFC.out (by decide) e
  clear hi hK hF3 H0 HBL HBB
  generalize manyX xs m l 70=mn at *
  generalize l.getD 10 0=i10 at *
  generalize l.getD 11 0=i11 at *
  have hne:¬ g=gc:=HNE.out
  have c0:=HFC.out.cell 0 rfl
  have c0f:=HFC.out.frozen 0
  cases hd:datB xs m i10 with
  | false=>
   rw [hd] at HC
   go_wp2_with fail
   refine (is_any i10 _ HF.out).mono ?_
   rw [hd]
   rintro e w' ⟨rfl,rfl⟩
   cases hd2:datB xs m i11 with
   | false=>
    rw [hd2] at HC
    go_wp2_with fail
    refine (is_any i11 _ HF.out).mono ?_
    rw [hd2]
    rintro e w' ⟨rfl,rfl⟩
    go_wp2
    refine ⟨by simp,.inl ⟨_,_,rfl,run_takeDeferred HK.out,?_⟩⟩
    refine ⟨_,results_tmp rfl _ _ _,⟨?_,?_⟩⟩
    ·refine ret_int ?_
     rw [HW0.out,HC.out]
     simp
    ·exact HB.out.trans (belowK_b (w:=w4) (by omega) W D _ _ (by omega) HK.out rfl rfl)
   | true=>
    rw [hd2] at HC
    have w2':IntKind.i64.wrap ((mn:Int)+1)=(mn:Int)+1:=IntWalk.i64_in _ (by omega)
    have HK2:Hid ((W.setCell ⟨gc,0,none⟩ (.int .i64 ((mn:Int)+1))).heap[D]?=some (.deferred (some []))):=(KeepsOthers.setCell W ⟨gc,0,none⟩ _).same D _ HK.out rfl
    have HB2:Hid (Below w.heap.size w (W.setCell ⟨gc,0,none⟩ (.int .i64 ((mn:Int)+1)))):=HB.out.setCell HL.out _
    have c0:=HFC.out.cell 0 rfl
    have c0f:=HFC.out.frozen 0
    go_wp2_with fail
    refine (is_any i11 _ HF.out).mono ?_
    rw [hd2]
    rintro e w' ⟨rfl,rfl⟩
    go_wp2
    refine ⟨by simp,.inl ⟨_,_,rfl,run_takeDeferred HK2.out,?_⟩⟩
    refine ⟨_,results_tmp rfl _ _ _,⟨?_,?_⟩⟩
    ·refine ret_int ?_
     rw [HW0.out,HC.out]
     simp
    ·exact HB2.out.trans (belowK_b (w:=w4) (by omega) _ D _ _ (by omega) HK2.out rfl rfl)
  | true=>
   rw [hd] at HC
   have w1':IntKind.i64.wrap ((mn:Int)+1)=(mn:Int)+1:=IntWalk.i64_in _ (by omega)
   have hgr:=only_setCell (World.grownBy.refl W (some gc)) 0 (.int .i64 ((mn:Int)+1))
   have HF1:=Lib.hid (HF.out.cell HFC.out hgr)
   have HK1:Hid ((W.setCell ⟨gc,0,none⟩ (.int .i64 ((mn:Int)+1))).heap[D]?=some (.deferred (some []))):=(KeepsOthers.setCell W ⟨gc,0,none⟩ _).same D _ HK.out rfl
   have HB1:Hid (Below w.heap.size w (W.setCell ⟨gc,0,none⟩ (.int .i64 ((mn:Int)+1)))):=HB.out.setCell HL.out _
   have HFC1:Hid (Blk (W.setCell ⟨gc,0,none⟩ (.int .i64 ((mn:Int)+1))) gc 3 #[.int .i64 ((mn:Int)+1)]):=by
    have:=HFC.out.set_ 0 (.int .i64 ((mn:Int)+1))
    exact this
   have c19':(W.setCell ⟨gc,0,none⟩ (.int .i64 ((mn:Int)+1))).cell? ⟨g,19,none⟩=some (.int .i64 (i11:Int)):=by
    rw [World.cell?_setCell_other _ _ _ _ (by simp [hne])]
    exact c19
   clear hgr
   go_wp2_with fail
   refine (is_any i10 _ HF.out).mono ?_
   rw [hd]
   rintro e w' ⟨rfl,rfl⟩
   clear c18 HF HK HB
   go_wp2_with fail
   cases hd2:datB xs m i11 with
   | false=>
    rw [hd2] at HC
    refine (is_any i11 _ HF1.out).mono ?_
    rw [hd2]
    rintro e w' ⟨rfl,rfl⟩
    go_wp2
    refine ⟨by simp,.inl ⟨_,_,rfl,run_takeDeferred HK1.out,?_⟩⟩
    refine ⟨_,results_tmp rfl _ _ _,⟨?_,?_⟩⟩
    ·refine ret_int ?_
     rw [HW0.out,HC.out]
     simp
    ·exact HB1.out.trans (belowK_b (w:=w4) (by omega) (W.setCell ⟨gc,0,none⟩ (.int .i64 ((mn:Int)+1))) D _ _ (by omega) HK1.out rfl rfl)
   | true=>
    rw [hd2] at HC
    have w2':IntKind.i64.wrap (((mn:Int)+1)+1)=((mn:Int)+1)+1:=IntWalk.i64_in _ (by omega)
    have HK2:Hid (((W.setCell ⟨gc,0,none⟩ (.int .i64 ((mn:Int)+1))).setCell ⟨gc,0,none⟩ (.int .i64 (((mn:Int)+1)+1))).heap[D]?=some (.deferred (some []))):=(KeepsOthers.setCell (W.setCell ⟨gc,0,none⟩ (.int .i64 ((mn:Int)+1))) ⟨gc,0,none⟩ _).same D _ HK1.out rfl
    have HB2:Hid (Below w.heap.size w ((W.setCell ⟨gc,0,none⟩ (.int .i64 ((mn:Int)+1))).setCell ⟨gc,0,none⟩ (.int .i64 (((mn:Int)+1)+1)))):=HB1.out.setCell HL.out _
    have c0:=HFC1.out.cell 0 rfl
    have c0f:=HFC1.out.frozen 0
    refine (is_any i11 _ HF1.out).mono ?_
    rw [hd2]
    rintro e w' ⟨rfl,rfl⟩
    go_wp2
    refine ⟨by simp,.inl ⟨_,_,rfl,run_takeDeferred HK2.out,?_⟩⟩
    refine ⟨_,results_tmp rfl _ _ _,⟨?_,?_⟩⟩
    ·refine ret_int ?_
     rw [HW0.out,HC.out]
     simp
    ·exact HB2.out.trans (belowK_b (w:=w4) (by omega) _ D _ _ (by omega) HK2.out rfl rfl)
 case hstop=>
  rintro D c pre W _ _ h _
  exact h.elim
set_option maxHeartbeats 4000000 in
theorem count_none (A:Option Addr) (c:Nat) (xs:List ByteArray) (n:Int) (w:World) (hx:xs.length≤1000000) (h:RowAt w w.heap.size A (xs.map .string)) (h0:¬ inoE xs n=0) :
  Calls Tryz.prog 19 #[.slice A xs.length c,.int .i64 n] w fun e w'=>e=.returned (.int .i64 (countO xs n:Nat))∧Below w.heap.size w w':=by
 have CO:=Lib.hid (opened_any A c xs n w hx h)
 unfold OpenPost at CO
 simp only [if_neg h0] at CO
 have HW0:Hid (countO xs n=0):=by show _=_;unfold countO;rw [if_pos h0]
 have hn0:(inoE xs n != 0)=true:=by simpa using h0
 generalize inoE xs n=ie at *
 clear h0
 go_enter Tryz.func19,Tryz.ntmps19
 go_wp2_with fail
 refine CO.out.mono ?_
 rintro e w1 ⟨hb1,rfl⟩
 have B1:=Lib.hid hb1
 have hz1:=hb1.size
 clear hb1 CO
 go_wp2_with (refine store_blk 112 (.tmp 5) (.tmp 14) w1.heap.size 112 fileZ fileZ rfl rfl rfl rfl (Blk.new w1 _ _) rfl (by kernel_rfl) fileZ_one ?_;intro w2 hr2 hg2)
 have BW:Hid (Below w.heap.size w w2):=(B1.out.alloc hz1 _).grown hg2 (by simp;omega) (fun k e=>by cases e;exact hz1)
 go_ret
 exact ⟨ret_int (by rw [HW0.out];rfl),BW.out⟩
theorem count_any (A:Option Addr) (c:Nat) (xs:List ByteArray) (n:Int) (w:World) (hx:xs.length≤1000000) (h:RowAt w w.heap.size A (xs.map .string)) :
  Calls Tryz.prog 19 #[.slice A xs.length c,.int .i64 n] w fun e w'=>e=.returned (.int .i64 (countO xs n:Nat))∧Below w.heap.size w w':=by
 by_cases h0:inoE xs n=0
 ·exact count_ok A c xs n w hx h h0
 ·exact count_none A c xs n w hx h h0
def limN (xs:List ByteArray) (o:Nat):Nat:=numAt (blkL xs 1) (2 * o) 2
def quoE (xs:List ByteArray) (owner:Int):Int:=match ofR xs with
 | none=>3
 | some _=>if owner<0∨16≤owner then 1 else 0
def limitO (xs:List ByteArray) (owner:Int):Int × Int:=if quoE xs owner=0 then ((limN xs owner.toNat:Nat),0) else (0,quoE xs owner)
def hisB (xs:List ByteArray) (owner:Int) (n:Nat):Bool:=decide ((((getR xs (n:Int)).getD 2 0:Nat):Int)=owner)
def usedL (xs:List ByteArray) (owner:Int) (ns:List Nat):Nat:=((ns.filter (hisB xs owner)).map fun n:Nat=>countO xs (n:Int)).sum
def usedO (xs:List ByteArray) (owner:Int):Nat:=usedL xs owner (allO xs)
def overB (xs:List ByteArray) (owner limit:Int):Bool:=decide (limit≠0∧limit<(usedO xs owner:Int))
def setO (xs:List ByteArray) (owner limit:Int):List ByteArray × Int:=
 if quoE xs owner≠0 then ([],quoE xs owner) else if limit<0∨65535<limit then ([],2) else if overB xs owner limit=true then ([],13)
 else (layX xs 1 (2 * owner.toNat) (putL limit.toNat 2),0)
def checkO (xs:List ByteArray):Int:=match ofR xs with
 | none=>3
 | some _=>if (List.range 16).any (fun o=>overB xs (o:Int) (limN xs o:Int))=true then 13 else 0
theorem limN_lt (xs:List ByteArray) (o:Nat):limN xs o<65536:=numAt_lt _ _ 2
theorem usedL_snoc (xs:List ByteArray) (owner:Int) (ns:List Nat) (n:Nat):usedL xs owner (ns++[n])=usedL xs owner ns+(if hisB xs owner n=true then countO xs (n:Int) else 0):=by
 unfold usedL
 rw [List.filter_append,List.map_append,List.sum_append]
 by_cases h:hisB xs owner n=true <;> simp [h]
theorem countO_le (xs:List ByteArray) (n:Int):countO xs n≤72:=by
 unfold countO
 split
 ·omega
 ·have:=manyX_le xs (mO xs) (getR xs n) 70
  unfold countX
  split <;> split <;> omega
theorem usedL_le (xs:List ByteArray) (owner:Int):∀ ns:List Nat,usedL xs owner ns≤72 * ns.length
 | []=>by simp [usedL]
 | n::ns=>by
  have ih:=usedL_le xs owner ns
  have hc:=countO_le xs (n:Int)
  unfold usedL at ih ⊢
  rw [List.filter_cons,List.length_cons]
  by_cases h:hisB xs owner n=true
  ·rw [if_pos h,List.map_cons,List.sum_cons]
   omega
  ·rw [if_neg h]
   omega
theorem allO_len (xs:List ByteArray):(allO xs).length≤64:=by
 unfold allO
 cases h:ofR xs with
 | none=>simp
 | some m=>
  have:=(ofR_some.1 h).len
  have:=allR_len xs m
  dsimp only
  omega
theorem usedO_le (xs:List ByteArray) (owner:Int):usedO xs owner≤4608:=by
 have:=usedL_le xs owner (allO xs)
 have:=allO_len xs
 unfold usedO
 omega
theorem allO_ok {xs:List ByteArray} {n:Nat} (h:n ∈ allO xs):inoE xs (n:Int)=0:=by
 unfold allO at h
 cases ho:ofR xs with
 | none=>rw [ho] at h;simp at h
 | some m=>
  rw [ho] at h
  unfold allR at h
  have:=List.mem_filter.1 h
  have:=List.mem_range'_1.1 this.1
  exact inoE_zero (ofR_some.1 ho) (by omega) (by omega)
theorem quo_is (o:Int) (w:World):Calls Tryz.prog 92 #[.int .i64 o] w fun e w'=>e=.returned (.bool (decide (0≤o∧o<16)))∧w=w':=by
 by_cases h1:0≤o
 ·by_cases h2:o<16
  ·go_enter Tryz.func92,Tryz.ntmps92
   go_wp2
   go_ret
   exact ⟨ret_bool (by simp [h1,h2]),rfl⟩
  ·go_enter Tryz.func92,Tryz.ntmps92
   go_wp2
   go_ret
   exact ⟨ret_bool (by simp [h1,h2]),rfl⟩
 ·go_enter Tryz.func92,Tryz.ntmps92
  go_wp2
  go_ret
  exact ⟨ret_bool (by rw [show decide (0≤o)=false by simpa using h1];simp),rfl⟩
set_option maxHeartbeats 2000000 in
theorem quo_lim (A:Option Addr) (c:Nat) (xs:List ByteArray) (m o:Nat) (w:World) (hv:IsVol xs m) (ho:o<16) (h:RowAt w w.heap.size A (xs.map .string)) :
  Calls Tryz.prog 68 #[.slice A xs.length c,.agg #[.int .i64 (xs.length:Int),.int .i64 (m:Int),.int .i64 1,.int .i64 2,.int .i64 3,.int .i64 (dataN m:Nat)],.int .i64 (o:Int)] w fun e w'=>e=.returned (.int .i64 (limN xs o:Nat))∧Below w.heap.size w w':=by
 have hvl:=hv.len
 obtain ⟨bb,oo,rfl,hbb,hc⟩:=row_get h 1 (by omega)
 have hsz:=hv.size 1 (by omega)
 have HL:Hid (limN xs o=numAt (blkL xs 1) (2 * o) 2):=rfl
 unfold blkL at HL
 generalize xs.getD 1 ⟨#[]⟩=s at *
 obtain ⟨p,hp⟩:∃ p,2 * o=p:=⟨_,rfl⟩
 rw [hp] at HL
 have p1:(2:Int) * (o:Int)=(p:Int):=by omega
 have p2:p+2≤128:=by omega
 obtain ⟨v,hvv⟩:∃ v,numAt s.data.toList p 2=v:=⟨_,rfl⟩
 have hv6:v<65536:=by rw [← hvv];exact numAt_lt _ _ 2
 have CG:Hid (∀ w,Calls Tryz.prog 52 #[.string (s.extract p (p+2))] w fun e w'=>e=.returned (.int .u64 (v:Int))∧w=w'):=fun w=>by
  have:=get_any (s.extract p (p+2)) w (by rw [ByteArray.size_extract];omega)
  rw [two_sub,hvv] at this
  exact this
 have hcw:=((Below.refl w.heap.size w).alloc (Nat.le_refl _) (.cells #[.int .i64 (xs.length:Int),.int .i64 (m:Int),.int .i64 1,.int .i64 2,.int .i64 3,.int .i64 (dataN m:Int)] 51)).cell (p:=⟨bb,oo+1,none⟩) hbb
 rw [hc] at hcw
 have s1:IntKind.i64.wrap ((p:Int)+2)=(p:Int)+2:=IntWalk.i64_in _ (by omega)
 have s3:((p:Int)+2).toNat=p+2:=by omega
 have s4:IntKind.i64.wrap (v:Int)=(v:Int):=IntWalk.i64_in _ (by omega)
 have s5:(1:Int)<(xs.length:Int):=by omega
 have s9:(p:Int)+2≤(s.size:Int):=by omega
 rw [hvv] at HL
 clear hp hvv hv hc h
 go_enter Tryz.func68,Tryz.ntmps68
 go_wp2_with fail
 refine (CG.out _).mono ?_
 rintro e w1 ⟨rfl,rfl⟩
 go_wp2
 go_ret
 exact ⟨ret_int (by rw [HL.out]),(Below.refl _ _).alloc (Nat.le_refl _) _⟩
set_option maxHeartbeats 2000000 in
theorem quo_limit (A:Option Addr) (c:Nat) (xs:List ByteArray) (o:Int) (w:World) (hx:xs.length≤1000000) (h:RowAt w w.heap.size A (xs.map .string)) :
  Calls Tryz.prog 174 #[.slice A xs.length c,.int .i64 o] w fun e w'=>e=.returned (.tuple #[.int .i64 (limitO xs o).1,.int .i64 (limitO xs o).2])∧Below w.heap.size w w':=by
 have HR:=Lib.hid h
 clear h
 cases ho:ofR xs with
 | none=>
  have HL:Hid (limitO xs o=(0,3)):=by show _=_;unfold limitO quoE;rw [ho];rfl
  have CO:=Lib.hid (of_any A c xs w hx HR.out)
  unfold OfPost ofE at CO
  rw [ho] at CO
  dsimp only at CO
  clear ho
  go_enter Tryz.func174,Tryz.ntmps174
  go_wp2_with fail
  refine CO.out.mono ?_
  rintro e w1 ⟨rfl,hb1⟩
  have B1:=Lib.hid hb1
  have hz1:=hb1.size
  clear hb1
  go_wp2
  go_ret2
  rw [HL.out]
  exact ⟨rfl,B1.out.alloc hz1 _⟩
 | some m=>
  have hv:=ofR_some.1 ho
  have HV:=Lib.hid hv
  have CO:=Lib.hid (of_any A c xs w hx HR.out)
  unfold OfPost ofE at CO
  rw [ho] at CO
  dsimp only at CO
  by_cases hb:o<0∨16≤o
  ·have HL:Hid (limitO xs o=(0,1)):=by show _=_;unfold limitO quoE;rw [ho];dsimp only;rw [if_pos hb,if_neg (by omega)]
   have HQ:Hid (decide (0≤o∧o<16)=false):=by show _=_;rw [decide_eq_false_iff_not];omega
   clear ho hv hb
   go_enter Tryz.func174,Tryz.ntmps174
   go_wp2_with fail
   refine CO.out.mono ?_
   rintro e w1 ⟨rfl,hb1⟩
   have B1:=Lib.hid hb1
   have hz1:=hb1.size
   clear hb1
   go_wp2_with fail
   refine (quo_is o _).mono ?_
   rw [HQ.out]
   rintro e w' ⟨rfl,rfl⟩
   go_wp2
   go_ret2
   rw [HL.out]
   exact ⟨rfl,B1.out.alloc hz1 _⟩
  ·obtain ⟨q,rfl⟩:=Int.eq_ofNat_of_zero_le (show 0≤o by omega)
   have hq:q<16:=by omega
   have HL:Hid (limitO xs (q:Int)=(((limN xs q:Nat):Int),0)):=by show _=_;unfold limitO quoE;rw [ho];dsimp only;rw [if_neg hb,if_pos rfl,Int.toNat_natCast]
   have HQ:Hid (decide (0≤(q:Int)∧(q:Int)<16)=true):=by show _=_;rw [decide_eq_true_iff];omega
   have CL:=Lib.hid (fun w h=>quo_lim A c xs m q w hv hq h)
   clear ho hv hb
   go_enter Tryz.func174,Tryz.ntmps174
   go_wp2_with fail
   refine CO.out.mono ?_
   rintro e w1 ⟨rfl,hb1⟩
   have B1:=Lib.hid hb1
   have hz1:=hb1.size
   have G1:=Lib.hid (Blk.new w1 51 #[.int .i64 (xs.length:Int),.int .i64 (m:Int),.int .i64 1,.int .i64 2,.int .i64 3,.int .i64 (dataN m:Int)])
   have B2:=Lib.hid (B1.out.alloc hz1 (.cells #[.int .i64 (xs.length:Int),.int .i64 (m:Int),.int .i64 1,.int .i64 2,.int .i64 3,.int .i64 (dataN m:Int)] 51))
   have R2:=Lib.hid ((HR.out.below B2.out).mono B2.out.size)
   clear hb1 CO
   go_wp2_with fail
   refine (quo_is (q:Int) _).mono ?_
   rw [HQ.out]
   rintro e w' ⟨rfl,rfl⟩
   go_wp2_with (refine load_blk 51 (.tmp 6) w1.heap.size 51 #[.int .i64 (xs.length:Int),.int .i64 (m:Int),.int .i64 1,.int .i64 2,.int .i64 3,.int .i64 (dataN m:Int)] _ rfl rfl rfl G1.out Tryz.underlying51 rfl (by kernel_rfl) ?_;go_frame)
   refine (CL.out _ R2.out).mono ?_
   rintro e w3 ⟨rfl,hb3⟩
   have B3:=Lib.hid (B2.out.trans (hb3.mono B2.out.size))
   clear hb3
   go_wp2
   go_ret2
   rw [HL.out]
   exact ⟨rfl,B3.out⟩
end Go.Proofs.YtdldlendppkknaaGreatDoor
