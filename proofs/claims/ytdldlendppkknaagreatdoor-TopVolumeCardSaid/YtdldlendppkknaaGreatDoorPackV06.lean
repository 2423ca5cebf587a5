/-
  Contracts and plain laws: TakesOwn, InoA, InoB, InoC, InoD, InoPl.
-/
import Derived.Test.YtdldlendppkknaaGreatDoorPackV05
namespace Go.Proofs.YtdldlendppkknaaGreatDoor
open Go.RowKit
set_option linter.unusedVariables false
theorem NewRow.own {ys:List ByteArray} {w w':World} {v:Value} (h:NewRow ys w v w') (hl:ys.length≤maxLen):OwnRow ys w v w':=by
 obtain ⟨g,rfl,hg,hn⟩:=h
 exact ⟨by simp,.inr ⟨g,_,_,rfl,hg,hn,Nat.le_refl _,hl,by simp,List.take_of_length_le (by simp)⟩⟩
set_option linter.unusedSimpArgs false
set_option maxRecDepth 100000
def inoE (xs:List ByteArray) (n:Int):Int:=match ofR xs with
 | none=>3
 | some m=>if n<1∨(m:Int)<n then 2 else 0
def knownC (xs:List ByteArray) (n:Int):Array Value:=match ofR xs with
 | none=>geomZ
 | some m=>if n<1∨(m:Int)<n then geomZ else #[.int .i64 (xs.length:Int),.int .i64 (m:Int),.int .i64 1,.int .i64 2,.int .i64 3,.int .i64 (dataN m:Nat)]
def blkN (n:Nat):Nat:=3+(n-1) / 2
def atN (n:Nat):Nat:=(n-1) % 2 * 64
def getR (xs:List ByteArray) (n:Int):List Nat:=if inoE xs n=0 then inoR (blkL xs (blkN n.toNat)) (atN n.toNat) else List.replicate 12 0
theorem inoE_ok {xs:List ByteArray} {n:Int} (h:inoE xs n=0):∃ (m k:Nat),IsVol xs m∧n=(k:Int)∧1≤k∧k≤m∧blkN k<dataN m:=by
 unfold inoE at h
 cases ho:ofR xs with
 | none=>rw [ho] at h;cases h
 | some m=>
  rw [ho] at h
  dsimp only at h
  by_cases hc:n<1∨(m:Int)<n
  ·rw [if_pos hc] at h;cases h
  ·refine ⟨m,n.toNat,ofR_some.1 ho,by omega,by omega,by omega,?_⟩
   unfold blkN dataN
   omega
theorem geomZ_one:∀ v ∈ geomZ,v.oneCell'=true:=by intro v hv;unfold geomZ at hv;simp at hv;subst hv;rfl
theorem geom_one (a b d:Int):∀ v ∈ #[Value.int .i64 a,.int .i64 b,.int .i64 1,.int .i64 2,.int .i64 3,.int .i64 d],v.oneCell'=true:=by
 intro v hv;simp at hv;rcases hv with rfl | rfl | rfl | rfl | rfl | rfl <;> rfl
set_option maxHeartbeats 1000000 in
theorem known_any (A:Option Addr) (c:Nat) (xs:List ByteArray) (n:Int) (w:World) (hx:xs.length≤1000000) (h:RowAt w w.heap.size A (xs.map .string)) :
  Calls Tryz.prog 42 #[.slice A xs.length c,.int .i64 n] w fun e w'=>e=.returned (.tuple #[.agg (knownC xs n),.int .i64 (inoE xs n)])∧Below w.heap.size w w':=by
 have R0:Hid (RowAt (w.alloc (.cells geomZ 51)) (w.alloc (.cells geomZ 51)).heap.size A (xs.map .string)):=(h.below ((Below.refl _ _).alloc (Nat.le_refl _) _)).mono (by simp)
 have B0:Hid (Below w.heap.size w (w.alloc (.cells geomZ 51))):=(Below.refl _ _).alloc (Nat.le_refl _) _
 clear h
 go_enter Tryz.func42,Tryz.ntmps42
 go_wp2_with fail
 refine (of_any A c xs _ hx R0.out).mono ?_
 rintro e w1 ⟨rfl,hb1⟩
 have G4:Hid (Blk w1 w.heap.size 51 geomZ):=(Blk.new w _ _).below hb1 (by simp)
 have B1:Hid (Below w.heap.size w w1):=B0.out.trans (hb1.mono (by simp))
 have hz1:=B1.out.size
 have hlt1:w.heap.size<w1.heap.size:=G4.out.lt
 clear hb1 R0 B0
 cases ho:ofR xs with
 | none=>
  have HE:Hid (inoE xs n=3∧knownC xs n=geomZ):=by unfold inoE knownC;rw [ho];exact ⟨rfl,rfl⟩
  clear ho
  unfold ofE
  dsimp only
  go_wp2_with (refine store_blk 51 (.tmp 4) (.tmp 15) w.heap.size 51 geomZ geomZ rfl rfl rfl rfl (G4.out.alloc _) rfl (by kernel_rfl) geomZ_one ?_;intro w3 hr3 hg3)
  refine bodyPost_ret (results_ct rfl rfl rfl hr3 Tryz.underlying51 rfl (by kernel_rfl)) rfl ⟨?_,?_⟩
  ·rw [HE.out.1,HE.out.2];rfl
  ·exact (B1.out.alloc hz1 _).grown hg3 (by simp;omega) (fun k e=>by cases e;exact Nat.le_refl _)
 | some m=>
  have hl:=(ofR_some.1 ho).len
  unfold ofE
  dsimp only
  by_cases hc:n<1∨(m:Int)<n
  ·have HE:Hid (inoE xs n=2∧knownC xs n=geomZ):=by unfold inoE knownC;rw [ho];dsimp only;rw [if_pos hc,if_pos hc];exact ⟨rfl,rfl⟩
   clear ho
   by_cases h1:n<1
   ·clear hc
    go_wp2_with (refine store_blk 51 (.tmp 4) (.tmp 25) w.heap.size 51 geomZ geomZ rfl rfl rfl rfl (G4.out.alloc _) rfl (by kernel_rfl) geomZ_one ?_;intro w3 hr3 hg3)
    refine bodyPost_ret (results_ct rfl rfl rfl hr3 Tryz.underlying51 rfl (by kernel_rfl)) rfl ⟨?_,?_⟩
    ·rw [HE.out.1,HE.out.2];rfl
    ·exact (B1.out.alloc hz1 _).grown hg3 (by simp;omega) (fun k e=>by cases e;exact Nat.le_refl _)
   ·have h2:(m:Int)<n:=by omega
    have h1':decide (n<1)=false:=by simpa using h1
    clear hc
    go_wp2_with (refine store_blk 51 (.tmp 4) (.tmp 25) w.heap.size 51 geomZ geomZ rfl rfl rfl rfl (G4.out.alloc _) rfl (by kernel_rfl) geomZ_one ?_;intro w3 hr3 hg3)
    refine bodyPost_ret (results_ct rfl rfl rfl hr3 Tryz.underlying51 rfl (by kernel_rfl)) rfl ⟨?_,?_⟩
    ·rw [HE.out.1,HE.out.2];rfl
    ·exact (B1.out.alloc hz1 _).grown hg3 (by simp;omega) (fun k e=>by cases e;exact Nat.le_refl _)
  ·have HE:Hid (inoE xs n=0∧knownC xs n=#[.int .i64 (xs.length:Int),.int .i64 (m:Int),.int .i64 1,.int .i64 2,.int .i64 3,.int .i64 (dataN m:Int)]):=by unfold inoE knownC;rw [ho];dsimp only;rw [if_neg hc,if_neg hc];exact ⟨rfl,rfl⟩
   have h1':decide (n<1)=false:=by simp;omega
   have h2':decide ((m:Int)<n)=false:=by simp;omega
   clear ho hc
   go_wp2_with (refine store_blk 51 (.tmp 4) (.tmp 26) w.heap.size 51 geomZ #[.int .i64 (xs.length:Int),.int .i64 (m:Int),.int .i64 1,.int .i64 2,.int .i64 3,.int .i64 (dataN m:Int)] rfl rfl rfl rfl (G4.out.alloc _) rfl (by kernel_rfl) (geom_one _ _ _) ?_;intro w3 hr3 hg3)
   refine bodyPost_ret (results_ct rfl rfl rfl hr3 Tryz.underlying51 rfl (by kernel_rfl)) rfl ⟨?_,?_⟩
   ·rw [HE.out.1,HE.out.2];rfl
   ·exact (B1.out.alloc hz1 _).grown hg3 (by simp;omega) (fun k e=>by cases e;exact Nat.le_refl _)
theorem geomC_of {xs:List ByteArray} {n:Int} {m:Nat} (hv:IsVol xs m) (h:inoE xs n=0):knownC xs n=#[.int .i64 (xs.length:Int),.int .i64 (m:Int),.int .i64 1,.int .i64 2,.int .i64 3,.int .i64 (dataN m:Nat)]:=by
 unfold inoE at h
 unfold knownC
 rw [ofR_some.2 hv] at h ⊢
 dsimp only at h ⊢
 by_cases hc:n<1∨(m:Int)<n
 ·rw [if_pos hc] at h;cases h
 ·rw [if_neg hc]
theorem getR_len (xs:List ByteArray) (n:Int):(getR xs n).length=12:=by unfold getR;split <;> rfl
set_option maxHeartbeats 1000000 in
theorem get_ino (A:Option Addr) (c:Nat) (xs:List ByteArray) (n:Int) (w:World) (hx:xs.length≤1000000) (h:RowAt w w.heap.size A (xs.map .string)) :
  Calls Tryz.prog 12 #[.slice A xs.length c,.int .i64 n] w fun e w'=>e=.returned (.tuple #[.agg (inoC (getR xs n)),.int .i64 (inoE xs n)])∧Below w.heap.size w w':=by
 have B0:Hid (Below w.heap.size w (w.alloc (.cells (inoC (List.replicate 12 0)) 39))):=(Below.refl _ _).alloc (Nat.le_refl _) _
 have R0:Hid (RowAt (w.alloc (.cells (inoC (List.replicate 12 0)) 39)) (w.alloc (.cells (inoC (List.replicate 12 0)) 39)).heap.size A (xs.map .string)):=(h.below B0.out).mono (by simp)
 have HR:=Lib.hid h
 clear h
 go_enter Tryz.func12,Tryz.ntmps12
 go_wp2_with fail
 refine (known_any A c xs n _ hx R0.out).mono ?_
 rintro e w1 ⟨rfl,hb1⟩
 have G4:Hid (Blk w1 w.heap.size 39 (inoC (List.replicate 12 0))):=(Blk.new w _ _).below hb1 (by simp)
 have B1:Hid (Below w.heap.size w w1):=B0.out.trans (hb1.mono (by simp))
 have hz1:=B1.out.size
 have hlt1:w.heap.size<w1.heap.size:=G4.out.lt
 clear hb1 R0 B0
 by_cases h0:inoE xs n=0
 ·obtain ⟨m,k,hv,rfl,hk1,hk2,hk3⟩:=inoE_ok h0
  have hl:=hv.len
  have HG:Hid (getR xs (k:Int)=inoR (blkL xs (3+(k-1) / 2)) ((k-1) % 2 * 64)):=by show _=_;unfold getR;rw [if_pos h0];rfl
  have HE:=Lib.hid h0
  rw [geomC_of hv h0,h0]
  have hbl:3+(k-1) / 2<xs.length:=by unfold blkN at hk3;omega
  have HT:Hid (∀ w,RowAt w w.heap.size A (xs.map .string)→Calls Tryz.prog 43 #[.slice A xs.length c,.agg #[.int .i64 (xs.length:Int),.int .i64 (m:Int),.int .i64 1,.int .i64 2,.int .i64 3,.int .i64 (dataN m:Nat)],.int .i64 k] w fun e w'=>e=.returned (.agg (inoC (getR xs (k:Int))))∧Below w.heap.size w w'):=fun w h=>by
   rw [HG.out]
   exact told_any A c xs _ _ _ _ _ k w hx hk1 hbl (hv.size _ hbl) h
  clear h0 hk3 hbl HG hv
  have B2:=Lib.hid (B1.out.alloc hz1 (.cells #[.int .i64 (xs.length:Int),.int .i64 (m:Int),.int .i64 1,.int .i64 2,.int .i64 3,.int .i64 (dataN m:Int)] 51))
  have G5:=Lib.hid (G4.out.alloc (.cells #[.int .i64 (xs.length:Int),.int .i64 (m:Int),.int .i64 1,.int .i64 2,.int .i64 3,.int .i64 (dataN m:Int)] 51))
  go_wp2_with fail
  refine (HT.out _ ((HR.out.below B2.out).mono B2.out.size)).mono ?_
  rintro e w3 ⟨rfl,hb3⟩
  have G6:=Lib.hid (G5.out.below hb3 G5.out.lt)
  have B3:=Lib.hid (B2.out.trans (hb3.mono B2.out.size))
  have hz3:=B3.out.size
  clear hb3
  go_wp2_with (refine store_blk 39 (.tmp 4) (.tmp 21) w.heap.size 39 (inoC (List.replicate 12 0)) (inoC (getR xs (k:Int))) rfl rfl rfl rfl G6.out (by rw [inoC_size,inoC_size,getR_len];rfl) (by rw [inoC_size,getR_len];kernel_rfl) (inoC_one _) ?_;intro w4 hr4 hg4)
  refine bodyPost_ret (results_ct rfl rfl rfl hr4 Tryz.underlying39 rfl (by rw [inoC_size,getR_len];kernel_rfl)) rfl ⟨?_,?_⟩
  ·rw [HE.out];rfl
  ·exact B3.out.grown hg4 hz3 (fun k e=>by cases e;exact Nat.le_refl _)
 ·have HG:Hid (getR xs n=List.replicate 12 0):=by show _=_;unfold getR;rw [if_neg h0]
  have hn0:(inoE xs n != 0)=true:=by simpa using h0
  have hsz:(knownC xs n).size=6:=by unfold knownC;split <;> (try split) <;> rfl
  obtain ⟨a1,a2,a3,a4,a5,a6,hkc⟩:∃ a1 a2 a3 a4 a5 a6,knownC xs n=#[.int .i64 a1,.int .i64 a2,.int .i64 a3,.int .i64 a4,.int .i64 a5,.int .i64 a6]:=by
   unfold knownC geomZ;split <;> (try split) <;> exact ⟨_,_,_,_,_,_,rfl⟩
  rw [hkc]
  generalize hie:inoE xs n=ie at *
  have HIE:=Lib.hid hie
  clear h0 hsz hkc hie
  go_wp2_with (refine store_blk 39 (.tmp 4) (.tmp 16) w.heap.size 39 (inoC (List.replicate 12 0)) (inoC (List.replicate 12 0)) rfl rfl rfl rfl (G4.out.alloc _) rfl (by kernel_rfl) (inoC_one _) ?_;intro w4 hr4 hg4)
  refine bodyPost_ret (results_ct rfl rfl rfl hr4 Tryz.underlying39 rfl (by kernel_rfl)) rfl ⟨?_,?_⟩
  ·rw [HIE.out,HG.out];rfl
  ·exact (B1.out.alloc hz1 _).grown hg4 (by simp;omega) (fun k e=>by cases e;exact Nat.le_refl _)
def RowCode (rows:List ByteArray) (code:Int) (w:World) (e:Ending) (w':World):Prop:=(∃ v,e=.returned (.tuple #[v,.int .i64 code])∧OwnRow rows w v w')∧Below w.heap.size w w'
def putV (xs:List ByteArray) (n:Nat) (l:List Nat):List ByteArray:=xs.set (blkN n) (putInoB (xs.getD (blkN n) ⟨#[]⟩) (atN n) l)
def putO (xs:List ByteArray) (n:Int) (l:List Int):List ByteArray × Int:=
 if inoE xs n≠0 then ([],inoE xs n) else if fitsR l=false then ([],1) else (putV xs n.toNat (l.map Int.toNat),0)
theorem own_nil (w w':World):OwnRow [] w (.slice none 0 0) w':=World.ownsRow_nil _ _ _ _
theorem allF_mem:∀ i:Fin 12,i ∈ allF:=by decide
theorem fitsR_nat {l:List Int} (hl:l.length=12) (h:fitsR l=true):(∀ z ∈ l,0≤z∧z<4294967296):=by
 intro z hz
 obtain ⟨j,hj,rfl⟩:=List.getElem_of_mem hz
 rw [hl] at hj
 have key:∀ j,j<12→∃ i:Fin 12,fof i=j:=by decide
 obtain ⟨i,hi⟩:=key j hj
 unfold fitsR at h
 have:=List.all_eq_true.1 h i (allF_mem i)
 unfold fitB at this
 rw [hi] at this
 have hg:l.getD j 0=l[j]:=by simp [List.getD,hl,hj]
 rw [hg] at this
 have:=of_decide_eq_true this
 have hp:(256:Int) ^ fsz i≤256 ^ 4:=by
  have h4:=fsz_le i
  exact_mod_cast Nat.pow_le_pow_right (n:=256) (by omega) h4
 omega
theorem intC_nat {l:List Int} (h:∀ z ∈ l,0≤z∧z<4294967296):intC l=inoC (l.map Int.toNat):=by
 unfold intC inoC
 rw [List.map_map]
 congr 1
 apply List.map_congr_left
 intro z hz
 have:=h z hz
 simp only [Function.comp]
 congr 1
 omega
set_option maxHeartbeats 2000000 in
theorem put_ino (A:Option Addr) (c:Nat) (xs:List ByteArray) (n:Int) (l:List Int) (w:World) (hx:xs.length≤1000000) (h:RowAt w w.heap.size A (xs.map .string)) (hl:l.length=12) (hr:∀ z ∈ l,-9223372036854775808≤z∧z≤9223372036854775807) :
  Calls Tryz.prog 65 #[.slice A xs.length c,.int .i64 n,.agg (intC l)] w (RowCode (putO xs n l).1 (putO xs n l).2 w):=by
 have B0:Hid (Below w.heap.size w (w.alloc (.cells (intC l) 39))):=(Below.refl _ _).alloc (Nat.le_refl _) _
 have R0:Hid (RowAt (w.alloc (.cells (intC l) 39)) (w.alloc (.cells (intC l) 39)).heap.size A (xs.map .string)):=(h.below B0.out).mono (by simp)
 have HR:=Lib.hid h
 have HL:=Lib.hid hl
 have HI:=Lib.hid hr
 clear h hl hr
 go_enter Tryz.func65,Tryz.ntmps65
 go_wp2_with fail
 refine (known_any A c xs n _ hx R0.out).mono ?_
 rintro e w1 ⟨rfl,hb1⟩
 have G4:Hid (Blk w1 w.heap.size 39 (intC l)):=(Blk.new w _ _).below hb1 (by simp)
 have B1:Hid (Below w.heap.size w w1):=B0.out.trans (hb1.mono (by simp))
 have hz1:=B1.out.size
 have hlt1:w.heap.size<w1.heap.size:=G4.out.lt
 clear hb1 R0 B0
 by_cases h0:inoE xs n=0
 ·obtain ⟨m,k,hv,rfl,hk1,hk2,hk3⟩:=inoE_ok h0
  have hlv:=hv.len
  rw [geomC_of hv h0,h0]
  have hbl:3+(k-1) / 2<xs.length:=by unfold blkN at hk3;omega
  have HSZ:=Lib.hid (hv.size _ hbl)
  have H0:=Lib.hid h0
  have B2:=Lib.hid (B1.out.alloc hz1 (.cells #[.int .i64 (xs.length:Int),.int .i64 (m:Int),.int .i64 1,.int .i64 2,.int .i64 3,.int .i64 (dataN m:Int)] 51))
  have G5:=Lib.hid (G4.out.alloc (.cells #[.int .i64 (xs.length:Int),.int .i64 (m:Int),.int .i64 1,.int .i64 2,.int .i64 3,.int .i64 (dataN m:Int)] 51))
  have G8:Hid (Blk (w1.alloc (.cells #[.int .i64 (xs.length:Int),.int .i64 (m:Int),.int .i64 1,.int .i64 2,.int .i64 3,.int .i64 (dataN m:Int)] 51)) w1.heap.size 51 #[.int .i64 (xs.length:Int),.int .i64 (m:Int),.int .i64 1,.int .i64 2,.int .i64 3,.int .i64 (dataN m:Int)]):=Blk.new w1 _ _
  clear h0 hk3
  go_wp2_with (first
   | (refine load_blk 39 (.tmp 5) w.heap.size 39 (intC l) _ rfl rfl rfl G5.out Tryz.underlying39 rfl (by rw [intC_size,HL.out];kernel_rfl) ?_;go_frame))
  refine (fits_any l _ HL.out HI.out).mono ?_
  rintro e w3 ⟨rfl,hb3⟩
  have G6:=Lib.hid (G5.out.below hb3 G5.out.lt)
  have G9:=Lib.hid (G8.out.below hb3 G8.out.lt)
  have B3:=Lib.hid (B2.out.trans (hb3.mono B2.out.size))
  clear hb3 G8 G5
  cases hf:fitsR l with
  | false=>
   have HP:Hid (putO xs (k:Int) l=([],1)):=by show _=_;unfold putO;rw [if_neg (by rw [H0.out];simp),if_pos hf]
   clear hf
   go_wp2
   go_ret2
   rw [HP.out]
   exact ⟨⟨_,rfl,own_nil _ _⟩,B3.out⟩
  | true=>
   have HP:Hid (putO xs (k:Int) l=(putV xs k (l.map Int.toNat),0)):=by show _=_;unfold putO;rw [if_neg (by rw [H0.out];simp),if_neg (by rw [hf];simp),Int.toNat_natCast]
   have hnat:=fitsR_nat HL.out hf
   have HIC:=Lib.hid (intC_nat hnat)
   have HLT:Hid (∀ z ∈ l.map Int.toNat,z<4294967296):=fun z hz=>by
    obtain ⟨y,hy,rfl⟩:=List.mem_map.1 hz
    have:=hnat y hy
    omega
   clear hf hnat
   have g1:=G9.out.cell 1 rfl
   go_wp2_with (first
    | (refine load_blk 51 (.tmp 8) w1.heap.size 51 #[.int .i64 (xs.length:Int),.int .i64 (m:Int),.int .i64 1,.int .i64 2,.int .i64 3,.int .i64 (dataN m:Int)] _ rfl rfl rfl G9.out Tryz.underlying51 rfl (by kernel_rfl) ?_;go_frame)
    | (refine load_blk 39 (.tmp 5) w.heap.size 39 (intC l) _ rfl rfl rfl G6.out Tryz.underlying39 rfl (by rw [intC_size,HL.out];kernel_rfl) ?_;go_frame))
   rw [HIC.out]
   refine (written_any A c xs _ _ _ _ _ k (l.map Int.toNat) _ hx hk1 hbl HSZ.out ((HR.out.below B3.out).mono B3.out.size) (by rw [List.length_map,HL.out]) HLT.out).mono ?_
   rintro e w4 ⟨⟨v,rfl,hown⟩,hb4⟩
   have O4:Hid (OwnRow (putV xs k (l.map Int.toNat)) w v w4):=hown.base B3.out.size
   have B4:=Lib.hid (B3.out.trans (hb4.mono B3.out.size))
   clear hown hb4
   go_wp2
   go_ret2
   rw [HP.out]
   exact ⟨⟨_,rfl,O4.out⟩,B4.out⟩
 ·have HP:Hid (putO xs n l=([],inoE xs n)):=by show _=_;unfold putO;rw [if_pos h0]
  have hn0:(inoE xs n != 0)=true:=by simpa using h0
  obtain ⟨a1,a2,a3,a4,a5,a6,hkc⟩:∃ a1 a2 a3 a4 a5 a6,knownC xs n=#[.int .i64 a1,.int .i64 a2,.int .i64 a3,.int .i64 a4,.int .i64 a5,.int .i64 a6]:=by
   unfold knownC geomZ;split <;> (try split) <;> exact ⟨_,_,_,_,_,_,rfl⟩
  rw [hkc]
  generalize hie:inoE xs n=ie at *
  clear h0 hkc hie
  go_wp2
  go_ret2
  rw [HP.out]
  exact ⟨⟨_,rfl,own_nil _ _⟩,B1.out.alloc hz1 _⟩
def kindR (xs:List ByteArray) (n:Nat):Nat:=numAt (blkL xs (blkN n)) (atN n) 1
def freeI (xs:List ByteArray) (m:Nat):Option Nat:=(List.range' 1 m).find? fun n=>kindR xs n == 0
theorem freeI_some {xs:List ByteArray} {m n:Nat}:freeI xs m=some n↔1≤n∧n≤m∧kindR xs n=0∧∀ j,1≤j→j<n→kindR xs j≠0:=by
 unfold freeI
 rw [List.find?_range'_eq_some]
 simp only [beq_iff_eq,List.mem_range'_1,Bool.not_eq_true',beq_eq_false_iff_ne]
 constructor
 ·rintro ⟨a,⟨b,c⟩,d⟩
  exact ⟨b,by omega,a,d⟩
 ·rintro ⟨b,c,a,d⟩
  exact ⟨a,⟨b,by omega⟩,d⟩
theorem freeI_none {xs:List ByteArray} {m:Nat}:freeI xs m=none↔∀ j,1≤j→j≤m→kindR xs j≠0:=by
 unfold freeI
 rw [List.find?_eq_none]
 simp only [beq_iff_eq,List.mem_range'_1]
 constructor
 ·intro h j a b;exact h j ⟨a,by omega⟩
 ·intro h j ⟨a,b⟩;exact h j a (by omega)
def newL (kind owner:Nat):List Nat:=[kind,1,owner,0,0,0,0,0,0,0,0,0]
def newO (xs:List ByteArray) (kind owner:Int):List ByteArray × Int × Int:=match ofR xs with
 | none=>([],0,3)
 | some m=>if (kind≠1∧kind≠2)∨owner<0∨16≤owner then ([],0,1) else match freeI xs m with
  | none=>([],0,10)
  | some n=>(putV xs n (newL kind.toNat owner.toNat),n,0)
def RowNumCode (o:List ByteArray × Int × Int) (w:World) (e:Ending) (w':World):Prop:=(∃ v,e=.returned (.tuple #[v,.int .i64 o.2.1,.int .i64 o.2.2])∧OwnRow o.1 w v w')∧Below w.heap.size w w'
theorem ino_field0 (a0 a1 a2 a3 a4 a5 a6 a7 a8 a9 a10 a11:Value) (w:World):(Instr.field 39 (.agg #[a0,a1,a2,a3,a4,a5,a6,a7,a8,a9,a10,a11]) 0).run Tryz.prog w=.ok a0 w:=by kernel_rfl
theorem told_lit (A:Option Addr) (c:Nat) (xs:List ByteArray) (m n:Nat) (w:World) (hx:xs.length≤1000000) (hv:IsVol xs m) (h1:1≤n) (h2:n≤m) (h:RowAt w w.heap.size A (xs.map .string)) :
  Calls Tryz.prog 43 #[.slice A xs.length c,.agg #[.int .i64 (xs.length:Int),.int .i64 (m:Int),.int .i64 1,.int .i64 2,.int .i64 3,.int .i64 (dataN m:Nat)],.int .i64 n] w fun e w'=>(∃ a1 a2 a3 a4 a5 a6 a7 a8 a9 a10 a11,e=.returned (.agg #[.int .i64 (kindR xs n:Nat),a1,a2,a3,a4,a5,a6,a7,a8,a9,a10,a11]))∧Below w.heap.size w w':=by
 have hl:=hv.len
 have hbl:3+(n-1) / 2<xs.length:=by unfold dataN at hl;omega
 exact (told_any A c xs _ _ _ _ _ n w hx h1 hbl (hv.size _ hbl) h).mono fun e w' ⟨he,hb⟩=>⟨⟨_,_,_,_,_,_,_,_,_,_,_,he⟩,hb⟩
set_option maxHeartbeats 2000000 in
theorem new_ino (A:Option Addr) (c:Nat) (xs:List ByteArray) (kind owner:Int) (w:World) (hx:xs.length≤1000000) (h:RowAt w w.heap.size A (xs.map .string)) :
  Calls Tryz.prog 71 #[.slice A xs.length c,.int .i64 kind,.int .i64 owner] w (RowNumCode (newO xs kind owner) w):=by
 have HR:=Lib.hid h
 clear h
 go_enter Tryz.func71,Tryz.ntmps71
 go_wp2_with fail
 refine (of_any A c xs _ hx HR.out).mono ?_
 rintro e w1 ⟨rfl,hb1⟩
 have B1:=Lib.hid hb1
 have hz1:=B1.out.size
 clear hb1
 cases ho:ofR xs with
 | none=>
  have HP:Hid (newO xs kind owner=([],0,3)):=by show _=_;unfold newO;rw [ho]
  clear ho
  unfold ofE
  go_wp2
  go_ret3
  rw [HP.out]
  exact ⟨⟨_,rfl,own_nil _ _⟩,B1.out.alloc hz1 _⟩
 | some m=>
  have hv:=ofR_some.1 ho
  have hl:=hv.len
  have HV:=Lib.hid hv
  unfold ofE
  dsimp only
  by_cases hbad:(kind≠1∧kind≠2)∨owner<0∨16≤owner
  ·have HP:Hid (newO xs kind owner=([],0,1)):=by show _=_;unfold newO;rw [ho];dsimp only;rw [if_pos hbad]
   clear ho hv
   by_cases hk:kind≠1∧kind≠2
   ·have k1:(kind != 1)=true:=by simpa using hk.1
    have k2:(kind != 2)=true:=by simpa using hk.2
    clear hbad hk
    go_wp2
    go_ret3
    rw [HP.out]
    exact ⟨⟨_,rfl,own_nil _ _⟩,B1.out.alloc hz1 _⟩
   ·have hk':kind=1∨kind=2:=by omega
    by_cases ho1:owner<0
    ·have o1:decide (owner<0)=true:=by simpa using ho1
     clear hbad hk
     rcases hk' with rfl | rfl
     all_goals
      go_wp2
      go_ret3
      rw [HP.out]
      exact ⟨⟨_,rfl,own_nil _ _⟩,B1.out.alloc hz1 _⟩
    ·have o1:decide (owner<0)=false:=by simpa using ho1
     have o2:16≤owner:=by omega
     clear hbad hk ho1
     rcases hk' with rfl | rfl
     all_goals
      go_wp2
      go_ret3
      rw [HP.out]
      exact ⟨⟨_,rfl,own_nil _ _⟩,B1.out.alloc hz1 _⟩
  ·have hk':kind=1∨kind=2:=by omega
   obtain ⟨ow,rfl⟩:∃ ow:Nat,owner=ow:=⟨owner.toNat,by omega⟩
   have how:ow<16:=by omega
   have HP:Hid (newO xs kind ow=match freeI xs m with | none=>([],0,10) | some n=>(putV xs n (newL kind.toNat ow),n,0)):=by show _=_;unfold newO;rw [ho];dsimp only;rw [if_neg hbad];rfl
   have o1:decide ((ow:Int)<0)=false:=by simp
   have o2:decide (16≤(ow:Int))=false:=by simp;omega
   have o3:decide (16≤ow)=false:=by simp;omega
   have hfd:=ino_field0
   have GN:=Lib.hid (Blk.new w1 51 #[.int .i64 (xs.length:Int),.int .i64 (m:Int),.int .i64 1,.int .i64 2,.int .i64 3,.int .i64 (dataN m:Int)])
   have BN:=Lib.hid (B1.out.alloc hz1 (.cells #[.int .i64 (xs.length:Int),.int .i64 (m:Int),.int .i64 1,.int .i64 2,.int .i64 3,.int .i64 (dataN m:Int)] 51))
   have HLT:Hid (∀ z ∈ newL kind.toNat ow,z<4294967296):=fun z hz=>by
    unfold newL at hz
    simp only [List.mem_cons,List.not_mem_nil,or_false] at hz
    omega
   clear hbad ho hv
   rcases hk' with rfl | rfl
   all_goals
    go_wp2
    go_loopw [11] (fun i wr=>∃ k:Nat,1≤k∧k≤m+1∧i=.int .i64 k∧Hid (∀ j,1≤j→j<k→kindR xs j≠0)∧Hid (Blk wr w1.heap.size 51 #[.int .i64 (xs.length:Int),.int .i64 (m:Int),.int .i64 1,.int .i64 2,.int .i64 3,.int .i64 (dataN m:Int)])∧Hid (Below w.heap.size w wr)) (fun i _=>m+1-(intOf i).toNat)
    case atStart=>exact ⟨1,by omega,by omega,rfl,(fun j a b=>by omega),GN,BN⟩
    case round=>
     obtain ⟨k,hk1,hk2,rfl,HK,GK,BK⟩:=hrel
     have g1:=GK.out.cell 1 rfl
     by_cases hlt:k≤m
     ·have hlt':(k:Int)≤(m:Int):=by omega
      have TL:=Lib.hid (fun w h=>told_lit A c xs m k w hx HV.out hk1 hlt h)
      go_wp2_with (refine load_blk 51 (.tmp 9) w1.heap.size 51 #[.int .i64 (xs.length:Int),.int .i64 (m:Int),.int .i64 1,.int .i64 2,.int .i64 3,.int .i64 (dataN m:Int)] _ rfl rfl rfl GK.out Tryz.underlying51 rfl (by kernel_rfl) ?_;go_frame)
      refine (TL.out _ ((HR.out.below BK.out).mono BK.out.size)).mono ?_
      rintro e w3 ⟨⟨a1,a2,a3,a4,a5,a6,a7,a8,a9,a10,a11,rfl⟩,hb3⟩
      have G3:=Lib.hid (GK.out.below hb3 GK.out.lt)
      have B3:=Lib.hid (BK.out.trans (hb3.mono BK.out.size))
      clear hb3 TL g1
      by_cases hkd:kindR xs k=0
      ·have HF:=Lib.hid (freeI_some.2 ⟨hk1,hlt,hkd,HK.out⟩)
       have t1:(((kindR xs k:Nat):Int) == 0)=true:=by rw [hkd];rfl
       clear hkd HK
       generalize kindR xs k=kd at *
       go_wp2_with (refine load_blk 51 (.tmp 9) w1.heap.size 51 #[.int .i64 (xs.length:Int),.int .i64 (m:Int),.int .i64 1,.int .i64 2,.int .i64 3,.int .i64 (dataN m:Int)] _ rfl rfl rfl G3.out Tryz.underlying51 rfl (by kernel_rfl) ?_;go_frame)
       refine (written_any A c xs _ _ _ _ _ k (newL _ ow) w3 hx hk1 (by unfold dataN at hl;omega) (HV.out.size _ (by unfold dataN at hl;omega)) ((HR.out.below B3.out).mono B3.out.size) rfl HLT.out).mono ?_
       rintro e w4 ⟨⟨v,rfl,hown⟩,hb4⟩
       have O4:Hid (OwnRow (putV xs k (newL _ ow)) w v w4):=hown.base B3.out.size
       have B4:=Lib.hid (B3.out.trans (hb4.mono B3.out.size))
       clear hown hb4
       go_wp2
       go_ret3
       rw [HP.out,HF.out]
       exact ⟨⟨_,rfl,O4.out⟩,B4.out⟩
      ·have t1:(((kindR xs k:Nat):Int) == 0)=false:=by simpa using hkd
       have HKD:=Lib.hid hkd
       clear hkd
       go_wp2
       go_roundw
       case rel=>exact ⟨k+1,by omega,by omega,by go_num,(fun j a b=>by
        by_cases e:j=k
        ·subst e;exact HKD.out
        ·exact HK.out j a (by omega)),G3,B3⟩
       case measure=>simp [intOf];omega
     ·have hlt':¬ (k:Int)≤(m:Int):=by omega
      have HF:=Lib.hid (@freeI_none xs m |>.2 (fun j a b=>HK.out j a (by omega)))
      go_wp2
      go_ret3
      rw [HP.out,HF.out]
      exact ⟨⟨_,rfl,own_nil _ _⟩,BK.out⟩
theorem i64_info:(Tryz.prog.info? 3).map (fun i=>(i.zero,i.size,i.bytes))=some (some (.int .i64 0),1,8):=by kernel_rfl
def numsC (gs:List Nat):List Value:=gs.map fun g:Nat=>Value.int .i64 (g:Int)
theorem numsC_snoc (gs:List Nat) (g:Nat):numsC (gs++[g])=numsC gs++[.int .i64 (g:Int)]:=by unfold numsC;simp
def OwnNums (l:List Nat) (w:World) (v:Value) (w':World):Prop:=w'.ownsRow w.heap.size 3 1 v l.length (numsC l)
theorem OwnNums.read {ys:List Nat} {w w':World} {v:Value} (h:OwnNums ys w v w'):∃ A c,v=.slice A ys.length c∧RowAt w' w'.heap.size A (numsC ys):=by
 unfold OwnNums at h
 by_cases hy:ys=[]
 ·subst hy
  rcases Go.Joins.ownsRow_forms h with ⟨e,_⟩ | ⟨g,cap,e⟩
  ·exact ⟨none,0,e,RowAt.nil⟩
  ·exact ⟨_,cap,e,RowAt.nil⟩
 ·obtain ⟨g,cap,rfl⟩:=Go.Joins.ownsRow_form h (List.length_pos_iff.2 hy)
  exact ⟨_,cap,rfl,RowAt.of_own h⟩
def allR (xs:List ByteArray) (m:Nat):List Nat:=(List.range' 1 m).filter fun n=>kindR xs n != 0
def allO (xs:List ByteArray):List Nat:=match ofR xs with
 | none=>[]
 | some m=>allR xs m
theorem allR_succ (xs:List ByteArray) (k:Nat):allR xs (k+1)=allR xs k++(if kindR xs (k+1) != 0 then [k+1] else []):=by
 unfold allR
 rw [List.range'_concat,List.filter_append,Nat.one_mul,Nat.add_comm 1 k]
 congr 1
 by_cases h:kindR xs (k+1) != 0
 ·simp [List.filter_cons,h]
 ·simp [List.filter_cons,h]
theorem allR_len (xs:List ByteArray) (k:Nat):(allR xs k).length≤k:=by
 unfold allR
 have:=List.length_filter_le (fun n=>kindR xs n != 0) (List.range' 1 k)
 simpa using this
set_option maxHeartbeats 2000000 in
theorem all_ino (A:Option Addr) (c:Nat) (xs:List ByteArray) (w:World) (hx:xs.length≤1000000) (h:RowAt w w.heap.size A (xs.map .string)) :
  Calls Tryz.prog 14 #[.slice A xs.length c] w fun e w'=>(∃ v,e=.returned v∧OwnNums (allO xs) w v w')∧Below w.heap.size w w':=by
 have HR:=Lib.hid h
 obtain ⟨i0,q1,q2,q3,q4⟩:=info_parts i64_info
 have I0:=Lib.hid (And.intro q1 (And.intro q2 (And.intro q3 q4)))
 clear h q1 q2 q3 q4
 go_enter Tryz.func14,Tryz.ntmps14
 go_wp2_with fail
 refine (of_any A c xs _ hx HR.out).mono ?_
 rintro e w1 ⟨rfl,hb1⟩
 have B1:=Lib.hid hb1
 have hz1:=B1.out.size
 clear hb1
 cases ho:ofR xs with
 | none=>
  have HP:Hid (allO xs=[]):=by show _=_;unfold allO;rw [ho]
  clear ho
  unfold ofE
  go_wp2
  go_ret
  rw [HP.out]
  exact ⟨⟨_,rfl,World.ownsRow_nil _ _ _ _⟩,B1.out.alloc hz1 _⟩
 | some m=>
  have hv:=ofR_some.1 ho
  have hl:=hv.len
  have HV:=Lib.hid hv
  have HP:Hid (allO xs=allR xs m):=by show _=_;unfold allO;rw [ho]
  unfold ofE
  dsimp only
  have hfd:=ino_field0
  have GN:=Lib.hid (Blk.new w1 51 #[.int .i64 (xs.length:Int),.int .i64 (m:Int),.int .i64 1,.int .i64 2,.int .i64 3,.int .i64 (dataN m:Int)])
  have BN:=Lib.hid (B1.out.alloc hz1 (.cells #[.int .i64 (xs.length:Int),.int .i64 (m:Int),.int .i64 1,.int .i64 2,.int .i64 3,.int .i64 (dataN m:Int)] 51))
  clear ho hv
  go_wp2
  go_loopw [5,6] (fun v i wr=>∃ k:Nat,k≤m∧i=.int .i64 ((k+1:Nat):Int)∧Hid (OwnNums (allR xs k) w v wr)∧Hid (Blk wr w1.heap.size 51 #[.int .i64 (xs.length:Int),.int .i64 (m:Int),.int .i64 1,.int .i64 2,.int .i64 3,.int .i64 (dataN m:Int)])∧Hid (Below w.heap.size w wr)) (fun _ i _=>m+1-(intOf i).toNat)
  case atStart=>exact ⟨0,by omega,rfl,World.ownsRow_nil _ _ _ _,GN,BN⟩
  case round=>
   obtain ⟨k,hk1,rfl,OK,GK,BK⟩:=hrel
   have g1:=GK.out.cell 1 rfl
   by_cases hlt:k<m
   ·have hlt':((k+1:Nat):Int)≤(m:Int):=by omega
    have TL:=Lib.hid (fun w h=>told_lit A c xs m (k+1) w hx HV.out (by omega) hlt h)
    have hal:=allR_len xs k
    have HSU:=Lib.hid (allR_succ xs k)
    go_wp2_with (refine load_blk 51 (.tmp 3) w1.heap.size 51 #[.int .i64 (xs.length:Int),.int .i64 (m:Int),.int .i64 1,.int .i64 2,.int .i64 3,.int .i64 (dataN m:Int)] _ rfl rfl rfl GK.out Tryz.underlying51 rfl (by kernel_rfl) ?_;go_frame)
    refine (TL.out _ ((HR.out.below BK.out).mono BK.out.size)).mono ?_
    rintro e w3 ⟨⟨a1,a2,a3,a4,a5,a6,a7,a8,a9,a10,a11,rfl⟩,hb3⟩
    have G3:=Lib.hid (GK.out.below hb3 GK.out.lt)
    have B3:=Lib.hid (BK.out.trans (hb3.mono BK.out.size))
    have O3:Hid (OwnNums (allR xs k) w _ w3):=own_below OK.out hb3
    clear hb3 TL g1
    by_cases hkd:kindR xs (k+1)=0
    ·have t1:(((kindR xs (k+1):Nat):Int) != 0)=false:=by rw [hkd];rfl
     have HE:Hid (allR xs (k+1)=allR xs k):=by show _=_;rw [HSU.out,hkd];simp
     clear hkd HSU
     generalize kindR xs (k+1)=kd at *
     go_wp2
     go_roundw
     case rel=>exact ⟨k+1,by omega,by go_num,by rw [HE.out];exact O3,G3,B3⟩
     case measure=>simp [intOf];omega
    ·have t1:(((kindR xs (k+1):Nat):Int) != 0)=true:=by simpa using hkd
     have HE:Hid (allR xs (k+1)=allR xs k++[k+1]):=by show _=_;rw [HSU.out];simp [hkd]
     clear hkd HSU
     generalize kindR xs (k+1)=kd at *
     generalize hgs:allR xs k=gs at *
     have O4:Hid ((w3.alloc (.cells #[.int .i64 ((k+1:Nat):Int)] 3)).ownsRow w.heap.size 3 1 _ gs.length (numsC gs)):=World.ownsRow.alloc O3.out _
     have B4:=Lib.hid (B3.out.alloc B3.out.size (.cells #[.int .i64 ((k+1:Nat):Int)] 3))
     have G4:=Lib.hid (G3.out.alloc (.cells #[.int .i64 ((k+1:Nat):Int)] 3))
     have HC:Hid (∀ j u,[Value.int .i64 ((k+1:Nat):Int)][j]?=some u→(w3.alloc (.cells #[.int .i64 ((k+1:Nat):Int)] 3)).cell? ((⟨w3.heap.size,0,none⟩:Addr).add j)=some u):=fun j u hu=>by
      cases j with
      | zero=>cases hu;exact (Blk.new w3 3 #[.int .i64 ((k+1:Nat):Int)]).cell 0 rfl
      | succ j=>simp at hu
     have H1:Hid (∀ u ∈ [Value.int .i64 ((k+1:Nat):Int)],u.oneCell'=true):=fun u hu=>by simp at hu;subst hu;rfl
     have HM:Hid (gs.length+1≤maxLen):=by show _≤_;unfold maxLen;omega
     have HY:Hid ((gs.length+1) * 8≤140737488355328):=by show _≤_;omega
     go_wp2_with (at_builtin;refine wpList_append_own _ rfl (.tmp 26) (.tmp 28) 45 rfl w.heap.size 3 i0 (.int .i64 0) 1 8 Tryz.underlying45 I0.out.1 I0.out.2.1 I0.out.2.2.1 I0.out.2.2.2 rfl (by decide) _ gs.length (numsC gs) rfl O4.out ⟨w3.heap.size,0,none⟩ 1 1 [.int .i64 ((k+1:Nat):Int)] rfl rfl HC.out H1.out HM.out HY.out B4.out.size ?_;intro v9 w9 own hg hv)
     have ON:Hid (OwnNums (allR xs (k+1)) w v9 w9):=by
      rw [HE.out]
      unfold OwnNums
      rw [List.length_append,numsC_snoc];exact own
     have GN2:=Lib.hid (G4.out.grown hg (own_ne O4.out G4.out (by decide)))
     have BN2:=Lib.hid (B4.out.grown hg B4.out.size (fun j e=>(O4.out.lt j e).1))
     clear own hg hv
     go_wp2
     go_roundw
     case rel=>exact ⟨k+1,by omega,by go_num,ON,GN2,BN2⟩
     case measure=>simp [intOf];omega
   ·obtain rfl:k=m:=by omega
    have hlt':¬ ((k+1:Nat):Int)≤(k:Int):=by omega
    go_wp2
    go_ret
    rw [HP.out]
    exact ⟨⟨_,rfl,OK.out⟩,BK.out⟩
def putInoL (bs:List UInt8) (p:Nat) (l:List Nat):List UInt8:=bs.take p++fbytes l allF++bs.drop (p+24)
theorem putInoB_list (s:ByteArray) (p:Nat) (l:List Nat):(putInoB s p l).data.toList=putInoL s.data.toList p l:=by unfold putInoB putInoL;simp
theorem putInoL_len (bs:List UInt8) (p:Nat) (l:List Nat) (h:p+24≤bs.length):(putInoL bs p l).length=bs.length:=by
 unfold putInoL
 rw [List.length_append,List.length_append,fbytes_all_len,List.length_take,List.length_drop]
 omega
theorem putInoB_size (s:ByteArray) (p:Nat) (l:List Nat) (h:p+24≤s.size):(putInoB s p l).size=s.size:=by
 have:=putInoL_len s.data.toList p l (by rw [Array.length_toList];exact h)
 rw [← putInoB_list,Array.length_toList,Array.length_toList] at this
 exact this
theorem putInoL_get (bs:List UInt8) (p:Nat) (l:List Nat) (h:p+24≤bs.length) (i:Nat):(putInoL bs p l)[i]?=if p≤i∧i<p+24 then (fbytes l allF)[i-p]? else bs[i]?:=by
 have hf:=fbytes_all_len l
 unfold putInoL
 rw [List.append_assoc,List.getElem?_append]
 have htl:(bs.take p).length=p:=by rw [List.length_take];omega
 rw [htl]
 by_cases h1:i<p
 ·rw [if_pos h1,if_neg (by omega),List.getElem?_take,if_pos h1]
 ·rw [if_neg h1,List.getElem?_append,hf]
  by_cases h2:i<p+24
  ·rw [if_pos (by omega),if_pos (by omega)]
  ·rw [if_neg (by omega),if_neg (by omega),List.getElem?_drop]
   congr 1
   omega
theorem numAt_put_other (bs:List UInt8) (p:Nat) (l:List Nat) (h:p+24≤bs.length) (q k:Nat) (hq:q+k≤p∨p+24≤q):numAt (putInoL bs p l) q k=numAt bs q k:=by
 unfold numAt
 congr 1
 apply List.ext_getElem?
 intro i
 rw [List.getElem?_take,List.getElem?_take]
 by_cases hi:i<k
 ·rw [if_pos hi,if_pos hi,List.getElem?_drop,List.getElem?_drop,putInoL_get _ _ _ h,if_neg (by omega)]
 ·rw [if_neg hi,if_neg hi]
theorem numAt_put_same (bs:List UInt8) (p:Nat) (l:List Nat) (h:p+24≤bs.length) (o k:Nat) (hq:o+k≤24):numAt (putInoL bs p l) (p+o) k=leN (((fbytes l allF).drop o).take k):=by
 unfold numAt
 congr 1
 apply List.ext_getElem?
 intro i
 rw [List.getElem?_take,List.getElem?_take]
 by_cases hi:i<k
 ·rw [if_pos hi,if_pos hi,List.getElem?_drop,List.getElem?_drop,putInoL_get _ _ _ h,if_pos (by omega)]
  congr 1
  omega
 ·rw [if_neg hi,if_neg hi]
theorem len12 {α:Type} {l:List α} (h:l.length=12):∃ a0 a1 a2 a3 a4 a5 a6 a7 a8 a9 a10 a11,l=[a0,a1,a2,a3,a4,a5,a6,a7,a8,a9,a10,a11]:=by
 match l,h with
 | [a0,a1,a2,a3,a4,a5,a6,a7,a8,a9,a10,a11],_=>exact ⟨_,_,_,_,_,_,_,_,_,_,_,_,rfl⟩
def FitN (l:List Nat):Prop:=l.length=12∧∀ i:Fin 12,l.getD (fof i) 0<256 ^ fsz i
theorem inoR_put {bs:List UInt8} {p:Nat} {l:List Nat} (h:p+24≤bs.length) (hl:FitN l):inoR (putInoL bs p l) p=l:=by
 obtain ⟨hlen,hf⟩:=hl
 obtain ⟨a0,a1,a2,a3,a4,a5,a6,a7,a8,a9,a10,a11,rfl⟩:=len12 hlen
 have key:∀ (o k a:Nat),o+k≤24→(((fbytes [a0,a1,a2,a3,a4,a5,a6,a7,a8,a9,a10,a11] allF).drop o).take k)=putL a k→a<256 ^ k→numAt (putInoL bs p [a0,a1,a2,a3,a4,a5,a6,a7,a8,a9,a10,a11]) (p+o) k=a:=fun o k a h1 h2 h3=>by
  rw [numAt_put_same _ _ _ h _ _ h1,h2,leN_putL,Nat.mod_eq_of_lt h3]
 have k0:=key 0 1 a0 (by omega) rfl (hf 0)
 rw [Nat.add_zero] at k0
 unfold inoR
 rw [k0,key 2 2 a1 (by omega) rfl (hf 2),key 1 1 a2 (by omega) rfl (hf 1),key 4 4 a3 (by omega) rfl (hf 3),key 8 2 a4 (by omega) rfl (hf 4),key 10 2 a5 (by omega) rfl (hf 5),key 12 2 a6 (by omega) rfl (hf 6),key 14 2 a7 (by omega) rfl (hf 7),key 16 2 a8 (by omega) rfl (hf 8),key 18 2 a9 (by omega) rfl (hf 9),key 20 2 a10 (by omega) rfl (hf 10),key 22 2 a11 (by omega) rfl (hf 11)]
theorem inoR_other {bs:List UInt8} {p q:Nat} {l:List Nat} (h:p+24≤bs.length) (hq:q+24≤p∨p+24≤q):inoR (putInoL bs p l) q=inoR bs q:=by
 unfold inoR
 rw [numAt_put_other _ _ _ h q 1 (by omega),numAt_put_other _ _ _ h (q+2) 2 (by omega),numAt_put_other _ _ _ h (q+1) 1 (by omega),numAt_put_other _ _ _ h (q+4) 4 (by omega),numAt_put_other _ _ _ h (q+8) 2 (by omega),numAt_put_other _ _ _ h (q+10) 2 (by omega),numAt_put_other _ _ _ h (q+12) 2 (by omega),numAt_put_other _ _ _ h (q+14) 2 (by omega),numAt_put_other _ _ _ h (q+16) 2 (by omega),numAt_put_other _ _ _ h (q+18) 2 (by omega),numAt_put_other _ _ _ h (q+20) 2 (by omega),numAt_put_other _ _ _ h (q+22) 2 (by omega)]
theorem chunk (l:List UInt8) (a k:Nat):l.take a++(l.drop a).take k=l.take (a+k):=by
 rw [List.take_add]
theorem putL_numAt (bs:List UInt8) (q k:Nat) (h:q+k≤bs.length):putL (numAt bs q k) k=(bs.drop q).take k:=by
 unfold numAt
 have hl:((bs.drop q).take k).length=k:=by rw [List.length_take,List.length_drop];omega
 have:=putL_leN ((bs.drop q).take k)
 rwa [hl] at this
theorem putInoL_self {bs:List UInt8} {p:Nat} (h:p+24≤bs.length):putInoL bs p (inoR bs p)=bs:=by
 have hb:fbytes (inoR bs p) allF=(bs.drop p).take 24:=by
  have e:fbytes (inoR bs p) allF=putL (numAt bs p 1) 1++(putL (numAt bs (p+1) 1) 1++(putL (numAt bs (p+2) 2) 2++(putL (numAt bs (p+4) 4) 4++(putL (numAt bs (p+8) 2) 2++(putL (numAt bs (p+10) 2) 2++(putL (numAt bs (p+12) 2) 2++(putL (numAt bs (p+14) 2) 2++(putL (numAt bs (p+16) 2) 2++(putL (numAt bs (p+18) 2) 2++(putL (numAt bs (p+20) 2) 2++(putL (numAt bs (p+22) 2) 2++[]))))))))))):=rfl
  rw [e,putL_numAt _ _ _ (by omega),putL_numAt _ _ _ (by omega),putL_numAt _ _ _ (by omega),putL_numAt _ _ _ (by omega),putL_numAt _ _ _ (by omega),putL_numAt _ _ _ (by omega),putL_numAt _ _ _ (by omega),putL_numAt _ _ _ (by omega),putL_numAt _ _ _ (by omega),putL_numAt _ _ _ (by omega),putL_numAt _ _ _ (by omega),putL_numAt _ _ _ (by omega)]
  simp only [← List.drop_drop,← List.append_assoc,chunk,List.append_nil,Nat.reduceAdd]
 unfold putInoL
 rw [hb,List.append_assoc]
 conv=>rhs;rw [← List.take_append_drop p bs]
 congr 1
 rw [← List.drop_drop]
 exact List.take_append_drop 24 _
theorem atN_le (n:Nat):atN n=0∨atN n=64:=by unfold atN;omega
theorem blk_at {m n:Nat} (h1:1≤n) (h2:n≤m):3≤blkN n∧blkN n<dataN m:=by unfold blkN dataN;omega
theorem place_ne {n k:Nat} (h1:1≤n) (h2:1≤k) (h:n≠k) (hb:blkN n=blkN k):atN k+24≤atN n∨atN n+24≤atN k:=by
 unfold blkN at hb;unfold atN;omega
theorem putV_length (xs:List ByteArray) (n:Nat) (l:List Nat):(putV xs n l).length=xs.length:=by unfold putV;simp
theorem IsVol.putI {xs:List ByteArray} {m n:Nat} (h:IsVol xs m) (h1:1≤n) (h2:n≤m) (l:List Nat):IsVol (putV xs n l) m:=by
 have hb:=blk_at h1 h2
 have hl:=h.len
 have hs:=h.size (blkN n) (by omega)
 exact h.set hb.1 (by rw [putInoB_size _ _ _ (by have:=atN_le n;omega)];exact hs)
theorem putV_blk {xs:List ByteArray} {m n:Nat} (h:IsVol xs m) (h1:1≤n) (h2:n≤m) (l:List Nat) (i:Nat):blkL (putV xs n l) i=if blkN n=i then putInoL (blkL xs i) (atN n) l else blkL xs i:=by
 have hb:=blk_at h1 h2
 have hl:=h.len
 unfold putV
 rw [blkL_set _ _ _ _ (by omega),putInoB_list]
 by_cases e:blkN n=i
 ·rw [if_pos e,if_pos e,← e];rfl
 ·rw [if_neg e,if_neg e]
theorem putV_getD {xs:List ByteArray} {m n:Nat} (h:IsVol xs m) (h1:1≤n) (h2:n≤m) (l:List Nat) (i:Nat) (hi:i≠blkN n):(putV xs n l).getD i ⟨#[]⟩=xs.getD i ⟨#[]⟩:=by
 have hb:=blk_at h1 h2
 have hl:=h.len
 unfold putV
 rw [getD_set' _ _ _ _ (by omega),if_neg (by omega)]
theorem inoE_vol {xs:List ByteArray} {m:Nat} (h:IsVol xs m) (n:Int):inoE xs n=if n<1∨(m:Int)<n then 2 else 0:=by unfold inoE;rw [ofR_some.2 h]
theorem inoE_zero {xs:List ByteArray} {m n:Nat} (h:IsVol xs m) (h1:1≤n) (h2:n≤m):inoE xs (n:Int)=0:=by rw [inoE_vol h,if_neg (by omega)]
theorem getR_vol {xs:List ByteArray} {m n:Nat} (h:IsVol xs m) (h1:1≤n) (h2:n≤m):getR xs (n:Int)=inoR (blkL xs (blkN n)) (atN n):=by
 unfold getR;rw [if_pos (inoE_zero h h1 h2),Int.toNat_natCast]
theorem ino_put_same {xs:List ByteArray} {m n:Nat} (h:IsVol xs m) (h1:1≤n) (h2:n≤m) {l:List Nat} (hl:FitN l):inoR (blkL (putV xs n l) (blkN n)) (atN n)=l:=by
 have hb:=blk_at h1 h2
 have hv:=h.len
 rw [putV_blk h h1 h2,if_pos rfl]
 exact inoR_put (by rw [h.blk _ (by omega)];have:=atN_le n;omega) hl
theorem ino_put_other {xs:List ByteArray} {m n k:Nat} (h:IsVol xs m) (h1:1≤n) (h2:n≤m) (h3:1≤k) (h4:k≤m) (hne:n≠k) (l:List Nat):inoR (blkL (putV xs n l) (blkN k)) (atN k)=inoR (blkL xs (blkN k)) (atN k):=by
 have hb:=blk_at h1 h2
 have hv:=h.len
 rw [putV_blk h h1 h2]
 by_cases e:blkN n=blkN k
 ·rw [if_pos e]
  exact inoR_other (by rw [h.blk _ (by omega)];have:=atN_le n;omega) (place_ne h1 h3 hne e)
 ·rw [if_neg e]
theorem get_put_same {xs:List ByteArray} {m n:Nat} (h:IsVol xs m) (h1:1≤n) (h2:n≤m) {l:List Nat} (hl:FitN l):getR (putV xs n l) (n:Int)=l:=by
 rw [getR_vol (h.putI h1 h2 l) h1 h2,ino_put_same h h1 h2 hl]
theorem inoE_put {xs:List ByteArray} {m n:Nat} (h:IsVol xs m) (h1:1≤n) (h2:n≤m) (l:List Nat) (k:Int):inoE (putV xs n l) k=inoE xs k:=by
 rw [inoE_vol h,inoE_vol (h.putI h1 h2 l)]
theorem get_put_other {xs:List ByteArray} {m n:Nat} (h:IsVol xs m) (h1:1≤n) (h2:n≤m) (l:List Nat) (k:Int) (hne:k≠(n:Int)):getR (putV xs n l) k=getR xs k:=by
 by_cases hk:inoE xs k=0
 ·obtain ⟨m',j,hv',rfl,a,b,_⟩:=inoE_ok hk
  obtain rfl:m'=m:=by
   have:=(ofR_some.2 hv').symm.trans (ofR_some.2 h)
   exact Option.some.inj this
  rw [getR_vol (h.putI h1 h2 l) a b,getR_vol h a b,ino_put_other h h1 h2 a b (by omega) l]
 ·unfold getR
  rw [inoE_put h h1 h2,if_neg hk,if_neg hk]
theorem bytes_set_self {s t:ByteArray} (h:s.data.toList=t.data.toList):s=t:=WideShapes.bytes_inj h
theorem putV_self {xs:List ByteArray} {m n:Nat} (h:IsVol xs m) (h1:1≤n) (h2:n≤m):putV xs n (inoR (blkL xs (blkN n)) (atN n))=xs:=by
 have hb:=blk_at h1 h2
 have hv:=h.len
 have hl:blkN n<xs.length:=by omega
 unfold putV
 have e:putInoB (xs.getD (blkN n) ⟨#[]⟩) (atN n) (inoR (blkL xs (blkN n)) (atN n))=xs[blkN n]:=by
  apply bytes_set_self
  rw [putInoB_list]
  have:=putInoL_self (bs:=blkL xs (blkN n)) (p:=atN n) (by rw [h.blk _ (by omega)];have:=atN_le n;omega)
  unfold blkL at this ⊢
  rw [this,getD_eq xs _ hl]
 rw [e,List.set_getElem_self]
theorem fits_nat {l:List Int} (hl:l.length=12) (h:fitsR l=true):∃ nl:List Nat,l=nl.map (fun k:Nat=>(k:Int))∧FitN nl:=by
 have hn:=fitsR_nat hl h
 refine ⟨l.map Int.toNat,?_,by simpa using hl,fun i=>?_⟩
 ·rw [List.map_map]
  conv=>lhs;rw [← List.map_id l]
  apply List.map_congr_left
  intro z hz
  have:=hn z hz
  simp only [id,Function.comp]
  omega
 ·unfold fitsR at h
  have:=of_decide_eq_true (show decide _=true from List.all_eq_true.1 h i (allF_mem i))
  have hi:fof i<l.length:=by rw [hl];exact fof_lt i
  have e1:(l.map Int.toNat).getD (fof i) 0=(l.getD (fof i) 0).toNat:=by simp [List.getD,hi]
  rw [e1]
  have h2:=this.2
  have h3:(256:Int) ^ fsz i=((256 ^ fsz i:Nat):Int):=by simp
  omega
theorem fits_of_nat {nl:List Nat} (h:FitN nl):fitsR (nl.map (fun k:Nat=>(k:Int)))=true:=by
 unfold fitsR
 rw [List.all_eq_true]
 intro i _
 unfold fitB
 have hi:fof i<nl.length:=by rw [h.1];exact fof_lt i
 have:=h.2 i
 have e1:(nl.map (fun k:Nat=>(k:Int))).getD (fof i) 0=((nl.getD (fof i) 0:Nat):Int):=by simp [List.getD,hi]
 rw [e1]
 have h3:(256:Int) ^ fsz i=((256 ^ fsz i:Nat):Int):=by simp
 exact decide_eq_true ⟨by omega,by omega⟩
theorem toNat_map (nl:List Nat):(nl.map (fun k:Nat=>(k:Int))).map Int.toNat=nl:=by
 rw [List.map_map]
 conv=>rhs;rw [← List.map_id nl]
 apply List.map_congr_left
 intro z _
 simp
theorem putO_cases {xs:List ByteArray} {n:Int} {l:List Int} (hl:l.length=12):((putO xs n l).1=[]∧(putO xs n l).2≠0)∨∃ (m k:Nat) (nl:List Nat),IsVol xs m∧n=(k:Int)∧1≤k∧k≤m∧l=nl.map (fun k:Nat=>(k:Int))∧FitN nl∧putO xs n l=(putV xs k nl,0):=by
 unfold putO
 by_cases h0:inoE xs n=0
 ·rw [if_neg (by simpa using h0)]
  cases hf:fitsR l with
  | false=>left;rw [if_pos rfl];exact ⟨rfl,by decide⟩
  | true=>
   right
   obtain ⟨m,k,hv,rfl,a,b,_⟩:=inoE_ok h0
   obtain ⟨nl,rfl,hn⟩:=fits_nat hl hf
   exact ⟨m,k,nl,hv,rfl,a,b,rfl,hn,by rw [if_neg (by simp),Int.toNat_natCast,toNat_map]⟩
 ·left;rw [if_pos h0];exact ⟨rfl,h0⟩
theorem putO_ok {xs:List ByteArray} {m k:Nat} {nl:List Nat} (hv:IsVol xs m) (a:1≤k) (b:k≤m) (hn:FitN nl):putO xs (k:Int) (nl.map (fun k:Nat=>(k:Int)))=(putV xs k nl,0):=by
 unfold putO
 rw [if_neg (by rw [inoE_zero hv a b];simp),if_neg (by rw [fits_of_nat hn];simp),Int.toNat_natCast,toNat_map]
theorem inoR_fit (bs:List UInt8) (p:Nat):FitN (inoR bs p):=by
 refine ⟨rfl,fun i=>?_⟩
 have:∀ i:Fin 12,∃ q,(inoR bs p).getD (fof i) 0=numAt bs q (fsz i):=fun i=>by
  match i with
  | 0=>exact ⟨_,rfl⟩
  | 1=>exact ⟨_,rfl⟩
  | 2=>exact ⟨_,rfl⟩
  | 3=>exact ⟨_,rfl⟩
  | 4=>exact ⟨_,rfl⟩
  | 5=>exact ⟨_,rfl⟩
  | 6=>exact ⟨_,rfl⟩
  | 7=>exact ⟨_,rfl⟩
  | 8=>exact ⟨_,rfl⟩
  | 9=>exact ⟨_,rfl⟩
  | 10=>exact ⟨_,rfl⟩
  | 11=>exact ⟨_,rfl⟩
 obtain ⟨q,hq⟩:=this i
 rw [hq]
 exact numAt_lt _ _ _
theorem newL_fit {kind owner:Nat} (h1:kind<256) (h2:owner<256):FitN (newL kind owner):=by
 refine ⟨rfl,fun i=>?_⟩
 match i with
 | 0=>exact h1
 | 1=>exact h2
 | 2=>exact (by decide:(1:Nat)<65536)
 | 3=>exact (by decide:(0:Nat)<4294967296)
 | 4=>exact (by decide:(0:Nat)<65536)
 | 5=>exact (by decide:(0:Nat)<65536)
 | 6=>exact (by decide:(0:Nat)<65536)
 | 7=>exact (by decide:(0:Nat)<65536)
 | 8=>exact (by decide:(0:Nat)<65536)
 | 9=>exact (by decide:(0:Nat)<65536)
 | 10=>exact (by decide:(0:Nat)<65536)
 | 11=>exact (by decide:(0:Nat)<65536)
end Go.Proofs.YtdldlendppkknaaGreatDoor
