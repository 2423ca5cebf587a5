/-
  Contracts and plain laws: AttF, AttG, AttI, AttK, AttJ.
-/
import Derived.Shelf.SlicesQ.IndexFunc
import Derived.Shelf.SlSortCmp.WholeK
import Derived.Test.YtdldlendppkknaaGreatDoorPackV22
namespace Go.Proofs.YtdldlendppkknaaGreatDoor
open Go.RowKit
set_option linter.unusedVariables false
set_option linter.unusedSimpArgs false
set_option maxRecDepth 100000
theorem results_ctt {P:Program} {f:Func} {ts:Array Value} {s k k2 g:Nat} {ty t:TypeId} {cs:Array Value} {d:TypeDesc} {w:World} {v v2:Value} (hf:f.results=#[.cell s ty,.tmp k,.tmp k2]) (hs:ts.getD s undef=.pointer (some ⟨g,0,none⟩)) (hk:ts.getD k undef=v) (hk2:ts.getD k2 undef=v2) (hg:Blk w g t cs)
  (hu:P.underlying ty=some d) (hd:(match d with | .struct _ | .array _ _=>true | _=>false)=true) (hi:(P.info? ty).map (·.size)=some cs.size) :
  (results f ts).run P w=.ok (.tuple #[.agg cs,v,v2]) w:=by
 have hr:=run_loadVar_row (P:=P) w g t ty cs (0,0) d hg hu hd hi
 simp only [Array.getD_eq_getD_getElem?] at hs hk hk2
 unfold results
 rw [hf]
 simp [hs,hk,hk2,asAddr,hr,Sem.run_bind,Sem.run_pure,Result.andThen_ok]
def AttAt (xs:List ByteArray) (n:Int) (l:List AttV):Prop:=
 ((getR xs n).getD 11 0=0∧l=[])∨((getR xs n).getD 11 0≠0∧l≠[]∧ValidA l∧(∃ m,ofR xs=some m∧dataN m≤(getR xs n).getD 11 0)∧usedR xs ((getR xs n).getD 11 0:Nat)=true∧(getR xs n).getD 11 0<xs.length∧blkL xs ((getR xs n).getD 11 0)=blockL (rowA l))
def opE (xs:List ByteArray) (n:Int):Int:=if inoE xs n≠0 then inoE xs n else if (getR xs n).getD 0 0=0 then 9 else 0
def OpPost (xs:List ByteArray) (n:Int) (l:List AttV) (w:World) (e:Ending) (w':World):Prop:=
 (∃ v,e=.returned (.tuple #[.agg (inoC (if opE xs n=0 then getR xs n else List.replicate 12 0)),v,.int .i64 (opE xs n)])∧OwnAtts (if opE xs n=0 then l else []) w v w')∧Below w.heap.size w w'
theorem atts_nil (w w':World):OwnAtts [] w (.slice none 0 0) w':=World.ownsRow_nil _ _ _ _
set_option maxHeartbeats 16000000 in
theorem aopen_any (A:Option Addr) (c:Nat) (xs:List ByteArray) (n:Int) (l:List AttV) (w:World) (hx:xs.length≤1000000) (hA:inoE xs n=0→(getR xs n).getD 0 0≠0→AttAt xs n l) (h:RowAt w w.heap.size A (xs.map .string)) :
  Calls Tryz.prog 49 #[.slice A xs.length c,.int .i64 n] w (OpPost xs n l w):=by
 have HR:=Lib.hid h
 obtain ⟨W0,hW0⟩:∃ W0,w.alloc (.cells #[.int .i64 0,.int .i64 0,.int .i64 0,.int .i64 0,.int .i64 0,.int .i64 0,.int .i64 0,.int .i64 0,.int .i64 0,.int .i64 0,.int .i64 0,.int .i64 0] 39)=W0:=⟨_,rfl⟩
 have B0:Hid (Below w.heap.size w W0):=hW0▸(Below.refl _ _).alloc (Nat.le_refl _) _
 have G0:Hid (Blk W0 w.heap.size 39 #[.int .i64 0,.int .i64 0,.int .i64 0,.int .i64 0,.int .i64 0,.int .i64 0,.int .i64 0,.int .i64 0,.int .i64 0,.int .i64 0,.int .i64 0,.int .i64 0]):=hW0▸Blk.new w _ _
 have HW0:=Lib.hid hW0
 have CG:=Lib.hid (get_ino A c xs n W0 hx (row_keep h B0.out B0.out.size))
 have CO:=Lib.hid (fun w h=>of_any A c xs w hx h)
 have CU:=Lib.hid (fun i w h=>used_any A c xs i w hx h)
 have HP:Hid (∀ e w',OpPost xs n l w e w'↔(∃ v,e=.returned (.tuple #[.agg (inoC (if opE xs n=0 then getR xs n else List.replicate 12 0)),v,.int .i64 (opE xs n)])∧OwnAtts (if opE xs n=0 then l else []) w v w')∧Below w.heap.size w w'):=fun _ _=>Iff.rfl
 have HO:Hid (OpPost xs n l w=fun e w'=>(∃ v,e=.returned (.tuple #[.agg (inoC (if opE xs n=0 then getR xs n else List.replicate 12 0)),v,.int .i64 (opE xs n)])∧OwnAtts (if opE xs n=0 then l else []) w v w')∧Below w.heap.size w w'):=rfl
 have HE:Hid (opE xs n=if inoE xs n≠0 then inoE xs n else if (getR xs n).getD 0 0=0 then 9 else 0):=by show _=_;rfl
 generalize OpPost xs n l w=PP at *
 generalize opE xs n=oe at *
 unfold AttAt at hA
 obtain ⟨a0,a1,a2,a3,a4,a5,a6,a7,a8,a9,a10,a11,hg⟩:=len12 (getR_len xs n)
 rw [hg] at CG HE hA HO
 unfold inoC at CG HO
 simp only [List.map_cons,List.map_nil,List.getD_cons_zero,List.getD_cons_succ] at CG HE hA
 generalize inoE xs n=e2 at *
 have HA:=Lib.hid hA
 clear hA hg h hW0 HP
 go_enter Tryz.func49,Tryz.ntmps49
 go_wp2_with fail
 rw [HW0.out]
 refine CG.out.mono ?_
 rintro e' w1 ⟨rfl,hb1⟩
 have B1:=Lib.hid (B0.out.trans (hb1.mono B0.out.size))
 have G1:=Lib.hid (G0.out.below hb1 G0.out.lt)
 have GX:=Lib.hid (G1.out.alloc (.cells #[.int .i64 a0,.int .i64 a1,.int .i64 a2,.int .i64 a3,.int .i64 a4,.int .i64 a5,.int .i64 a6,.int .i64 a7,.int .i64 a8,.int .i64 a9,.int .i64 a10,.int .i64 a11] 39))
 have BX:=Lib.hid (B1.out.alloc B1.out.size (.cells #[.int .i64 a0,.int .i64 a1,.int .i64 a2,.int .i64 a3,.int .i64 a4,.int .i64 a5,.int .i64 a6,.int .i64 a7,.int .i64 a8,.int .i64 a9,.int .i64 a10,.int .i64 a11] 39))
 have XX:=Lib.hid (Blk.new w1 39 #[.int .i64 a0,.int .i64 a1,.int .i64 a2,.int .i64 a3,.int .i64 a4,.int .i64 a5,.int .i64 a6,.int .i64 a7,.int .i64 a8,.int .i64 a9,.int .i64 a10,.int .i64 a11])
 have F1:Hid (w.heap.size<w1.heap.size):=G1.out.lt
 clear hb1 CG G0 B0 HW0
 by_cases h2:e2=0
 case neg=>
  have h2':(e2 != 0)=true:=by simpa using h2
  have hoe:oe=e2:=by rw [HE.out,if_pos h2]
  rw [hoe,if_neg h2,if_neg h2] at HO
  go_wp2_with (refine store_blk 39 (.tmp 4) (.tmp 20) w.heap.size 39 #[.int .i64 0,.int .i64 0,.int .i64 0,.int .i64 0,.int .i64 0,.int .i64 0,.int .i64 0,.int .i64 0,.int .i64 0,.int .i64 0,.int .i64 0,.int .i64 0] #[.int .i64 0,.int .i64 0,.int .i64 0,.int .i64 0,.int .i64 0,.int .i64 0,.int .i64 0,.int .i64 0,.int .i64 0,.int .i64 0,.int .i64 0,.int .i64 0] rfl rfl rfl rfl GX.out rfl (by kernel_rfl) (by simp [Value.oneCell']) ?_;intro wz hrz hgz)
  refine bodyPost_ret (results_ctt rfl rfl rfl rfl hrz Tryz.underlying39 rfl (by kernel_rfl)) rfl ?_
  rw [HO.out]
  exact ⟨⟨_,rfl,atts_nil _ _⟩,BX.out.grown hgz BX.out.size (fun k e=>by cases e;exact Nat.le_refl _)⟩
 subst h2
 rw [if_neg (by simp)] at HE
 by_cases h0:a0=0
 case pos=>
  have h0':((a0:Int) == 0)=true:=by simpa using (by omega:(a0:Int)=0)
  have hoe:oe=9:=by rw [HE.out,if_pos h0]
  rw [hoe,if_neg (by decide),if_neg (by decide)] at HO
  subst h0
  go_wp2_with (refine store_blk 39 (.tmp 4) (.tmp 25) w.heap.size 39 #[.int .i64 0,.int .i64 0,.int .i64 0,.int .i64 0,.int .i64 0,.int .i64 0,.int .i64 0,.int .i64 0,.int .i64 0,.int .i64 0,.int .i64 0,.int .i64 0] #[.int .i64 0,.int .i64 0,.int .i64 0,.int .i64 0,.int .i64 0,.int .i64 0,.int .i64 0,.int .i64 0,.int .i64 0,.int .i64 0,.int .i64 0,.int .i64 0] rfl rfl rfl rfl GX.out rfl (by kernel_rfl) (by simp [Value.oneCell']) ?_;intro wz hrz hgz)
  refine bodyPost_ret (results_ctt rfl rfl rfl rfl hrz Tryz.underlying39 rfl (by kernel_rfl)) rfl ?_
  rw [HO.out]
  exact ⟨⟨_,rfl,atts_nil _ _⟩,BX.out.grown hgz BX.out.size (fun k e=>by cases e;exact Nat.le_refl _)⟩
 have h0':((a0:Int) == 0)=false:=by simpa using (by omega:¬ (a0:Int)=0)
 have hoe:oe=0:=by rw [HE.out,if_neg h0]
 rw [hoe,if_pos rfl,if_pos rfl] at HO
 simp only [List.map_cons,List.map_nil] at HO
 have hA:=HA.out rfl h0
 clear HA HE hoe
 rcases hA with ⟨hz,hl⟩ | ⟨hz,hne,hva,⟨m,hm,hdm⟩,hu,hlt,hbk⟩
 ·subst hl
  have h11:((a11:Int) == 0)=true:=by simpa using (by omega:(a11:Int)=0)
  clear hz
  go_wp2_with (first
   | (refine load_blk 39 (.tmp 7) w1.heap.size 39 #[.int .i64 a0,.int .i64 a1,.int .i64 a2,.int .i64 a3,.int .i64 a4,.int .i64 a5,.int .i64 a6,.int .i64 a7,.int .i64 a8,.int .i64 a9,.int .i64 a10,.int .i64 a11] _ rfl rfl rfl XX.out Tryz.underlying39 rfl (by kernel_rfl) ?_;go_frame)
   | (refine store_blk 39 (.tmp 4) (.tmp 29) w.heap.size 39 #[.int .i64 0,.int .i64 0,.int .i64 0,.int .i64 0,.int .i64 0,.int .i64 0,.int .i64 0,.int .i64 0,.int .i64 0,.int .i64 0,.int .i64 0,.int .i64 0] #[.int .i64 a0,.int .i64 a1,.int .i64 a2,.int .i64 a3,.int .i64 a4,.int .i64 a5,.int .i64 a6,.int .i64 a7,.int .i64 a8,.int .i64 a9,.int .i64 a10,.int .i64 a11] rfl rfl rfl rfl GX.out rfl (by kernel_rfl) (by simp [Value.oneCell']) ?_;intro wz hrz hgz))
  refine bodyPost_ret (results_ctt rfl rfl rfl rfl hrz Tryz.underlying39 rfl (by kernel_rfl)) rfl ?_
  rw [HO.out]
  exact ⟨⟨_,rfl,atts_nil _ _⟩,BX.out.grown hgz BX.out.size (fun k e=>by cases e;exact Nat.le_refl _)⟩
 ·have h11:((a11:Int) == 0)=false:=by simpa using (by omega:¬ (a11:Int)=0)
  obtain ⟨W3,hW3⟩:∃ W3,w1.alloc (.cells #[.int .i64 a0,.int .i64 a1,.int .i64 a2,.int .i64 a3,.int .i64 a4,.int .i64 a5,.int .i64 a6,.int .i64 a7,.int .i64 a8,.int .i64 a9,.int .i64 a10,.int .i64 a11] 39)=W3:=⟨_,rfl⟩
  rw [hW3] at GX BX XX
  have HW3:=Lib.hid hW3
  clear hW3
  have CO:=Lib.hid (CO.out W3 (row_keep HR.out BX.out BX.out.size))
  unfold OfPost ofE at CO
  rw [hm] at CO
  dsimp only at CO
  have CU:=Lib.hid (fun w h=>CU.out (a11:Nat) w h)
  rw [hu] at CU
  have i0:¬ (a11:Int)<(dataN m:Nat):=by omega
  have i1:(a11:Int)<(xs.length:Int):=by omega
  have i2:(0:Int)≤(a11:Int):=by omega
  obtain ⟨s,hs⟩:∃ s,xs[a11]'hlt=s:=⟨_,rfl⟩
  have hsb:s.data.toList=blockL (rowA l):=by
   rw [← hbk,← hs]
   unfold blkL
   rw [getD_eq xs a11 hlt]
  have CA:=Lib.hid (fun w=>attributes_any s l w hsb hva hne)
  have HS:Hid ((xs.map Value.string)[a11]?=some (.string s)):=by show _=_;rw [List.getElem?_map,List.getElem?_eq_getElem hlt,hs];rfl
  have HXL:Hid (0<xs.length):=by show _<_;omega
  clear hz hne hva hdm hu hlt hbk hs hsb hm
  go_wp2_with fail
  rw [HW3.out]
  refine CO.out.mono ?_
  rintro e' w4 ⟨rfl,hb4⟩
  have B4:=Lib.hid (BX.out.trans (hb4.mono BX.out.size))
  have G4:=Lib.hid (GX.out.below hb4 GX.out.lt)
  have X4:=Lib.hid (XX.out.below hb4 XX.out.lt)
  obtain ⟨W5,hW5⟩:∃ W5,w4.alloc (.cells #[.int .i64 (xs.length:Int),.int .i64 (m:Int),.int .i64 1,.int .i64 2,.int .i64 3,.int .i64 (dataN m:Int)] 51)=W5:=⟨_,rfl⟩
  have B5:Hid (Below w.heap.size w W5):=hW5▸B4.out.alloc B4.out.size _
  have G5:Hid (Blk W5 w.heap.size _ _):=hW5▸G4.out.alloc _
  have X5:Hid (Blk W5 w1.heap.size _ _):=hW5▸X4.out.alloc _
  have x11:=X5.out.cell 11 rfl
  rw [← hW5] at x11
  have HW5:=Lib.hid hW5
  clear hb4 CO GX BX XX G4 B4 X4 hW5
  go_wp2_with fail
  rw [HW5.out]
  rw [HW5.out] at x11
  refine (CU.out _ (row_keep HR.out B5.out B5.out.size)).mono ?_
  rintro e' w6 ⟨rfl,hb6⟩
  have B6:=Lib.hid (B5.out.trans (hb6.mono B5.out.size))
  have G6:=Lib.hid (G5.out.below hb6 G5.out.lt)
  have X6:=Lib.hid (X5.out.below hb6 X5.out.lt)
  clear hb6 CU G5 B5 X5 x11 HW5
  have x11:=X6.out.cell 11 rfl
  obtain ⟨bb,oo,rfl,hbb,hcc⟩:=RowAt.at_ (row_keep HR.out B6.out B6.out.size) (by rw [List.length_map];exact HXL.out)
  have cs:=hcc a11 _ HS.out
  clear hcc hbb
  go_wp2_with fail
  refine (CA.out _).mono ?_
  rintro e' w7 ⟨⟨v,rfl,hown⟩,hb7⟩
  have B7:=Lib.hid (B6.out.trans (hb7.mono B6.out.size))
  have G7:=Lib.hid (G6.out.below hb7 G6.out.lt)
  have X7:=Lib.hid (X6.out.below hb7 X6.out.lt)
  have O7:Hid (OwnAtts l w v w7):=own_low hown B6.out.size
  clear hb7 CA G6 B6 X6 x11 cs hown
  go_wp2_with (first
   | (refine load_blk 39 (.tmp 7) w1.heap.size 39 #[.int .i64 a0,.int .i64 a1,.int .i64 a2,.int .i64 a3,.int .i64 a4,.int .i64 a5,.int .i64 a6,.int .i64 a7,.int .i64 a8,.int .i64 a9,.int .i64 a10,.int .i64 a11] _ rfl rfl rfl X7.out Tryz.underlying39 rfl (by kernel_rfl) ?_;go_frame)
   | (refine store_blk 39 (.tmp 4) (.tmp 64) w.heap.size 39 #[.int .i64 0,.int .i64 0,.int .i64 0,.int .i64 0,.int .i64 0,.int .i64 0,.int .i64 0,.int .i64 0,.int .i64 0,.int .i64 0,.int .i64 0,.int .i64 0] #[.int .i64 a0,.int .i64 a1,.int .i64 a2,.int .i64 a3,.int .i64 a4,.int .i64 a5,.int .i64 a6,.int .i64 a7,.int .i64 a8,.int .i64 a9,.int .i64 a10,.int .i64 a11] rfl rfl rfl rfl G7.out rfl (by kernel_rfl) (by simp [Value.oneCell']) ?_;intro wz hrz hgz))
  refine bodyPost_ret (results_ctt rfl rfl rfl rfl hrz Tryz.underlying39 rfl (by kernel_rfl)) rfl ?_
  rw [HO.out]
  exact ⟨⟨_,rfl,World.ownsRow.kept O7.out hgz (.inr (own_ne O7.out G7.out (by decide)).symm)⟩,B7.out.grown hgz B7.out.size (fun k e=>by cases e;exact Nat.le_refl _)⟩
def isN (nm:ByteArray) (x:AttV):Bool:=decide (x.name=nm)
def idxA (l:List AttV) (nm:ByteArray):Int:=Lib.idxBy (fun _ y=>isN nm y) l default
theorem idxA_spec (l:List AttV) (nm:ByteArray):(idxA l nm = -1∧∀ x ∈ l,x.name≠nm)∨∃ k,∃ hk:k<l.length,idxA l nm=(k:Int)∧l[k].name=nm∧∀ j (hj:j<k),(l[j]'(by omega)).name≠nm:=by
 by_cases h:∃ k,k<l.length∧(isN nm l[k]! = true)
 ·have hm:∃ k,(k<l.length∧isN nm l[k]! = true)∧∀ j,j<k→isN nm l[j]! = false:=by
   obtain ⟨k,hk⟩:=h
   induction k using Nat.strongRecOn with
   | _ k ih=>
    by_cases hx:∃ j,j<k∧isN nm l[j]! = true
    ·obtain ⟨j,hj,hj2⟩:=hx
     exact ih j hj ⟨by omega,hj2⟩
    ·exact ⟨k,hk,fun j hj=>by
      cases e:isN nm l[j]! with
      | false=>rfl
      | true=>exact absurd ⟨j,hj,e⟩ hx⟩
  obtain ⟨k,⟨hk,h1⟩,h2⟩:=hm
  right
  have hg:∀ j (hj:j<l.length),l[j]! = l[j]:=fun j hj=>by rw [List.getElem!_eq_getElem?_getD,List.getElem?_eq_getElem hj];rfl
  refine ⟨k,hk,?_,?_,fun j hj=>?_⟩
  ·have:=Lib.idxBy_hit (fun _ y=>isN nm y) l l.length k default hk (Nat.le_refl _) h1 h2
   rw [List.take_length] at this
   exact this
  ·rw [hg k hk] at h1;exact of_decide_eq_true h1
  ·have:=h2 j hj
   rw [hg j (by omega)] at this
   exact of_decide_eq_false this
 ·left
  have h0:∀ j,j<l.length→isN nm l[j]! = false:=fun j hj=>by
   cases e:isN nm l[j]! with
   | false=>rfl
   | true=>exact absurd ⟨j,hj,e⟩ h
  constructor
  ·have:=Lib.idxBy_miss (fun _ y=>isN nm y) l l.length default h0
   rw [List.take_length] at this
   exact this
  ·intro x hx e
   obtain ⟨j,hj,rfl⟩:=List.mem_iff_getElem.1 hx
   have:=h0 j hj
   rw [List.getElem!_eq_getElem?_getD,List.getElem?_eq_getElem hj] at this
   exact of_decide_eq_false this e
set_option maxHeartbeats 1000000 in
theorem of_cl (nb:Nat) (nm:ByteArray) (x:AttV) (w:World) (h:Blk w nb 9 #[.string nm]) :
  Calls Tryz.prog 119 #[.agg #[.string x.name,.string x.value],.pointer (some ⟨nb,0,none⟩)] w fun e w'=>e=.returned (.bool (isN nm x))∧Below w.heap.size w w':=by
 obtain ⟨a,v⟩:=x
 obtain ⟨W0,hW0⟩:∃ W0,w.alloc (.cells #[.string a,.string v] 104)=W0:=⟨_,rfl⟩
 have B0:Hid (Below w.heap.size w W0):=hW0▸(Below.refl _ _).alloc (Nat.le_refl _) _
 have c1:=(h.alloc (.cells #[.string a,.string v] 104)).cell 0 rfl
 have HW0:=Lib.hid hW0
 have HI:Hid (isN nm ⟨a,v⟩=decide (a=nm)):=by show _=_;rfl
 generalize isN nm ⟨a,v⟩=r at *
 clear h hW0
 go_enter Tryz.func119,Tryz.ntmps119
 go_wp2
 go_ret
 rw [HW0.out]
 refine ⟨ret_bool ?_,B0.out⟩
 rw [HI.out]
 by_cases e:a=nm
 ·subst e;simp
 ·rw [decide_eq_false e]
  have:=str_ne e
  simpa using this
set_option maxHeartbeats 1000000 in
theorem idx_nil (A:Option Addr) (c g:Nat) (lb:Array Value) (w:World):Calls Tryz.prog 118 #[.slice A 0 c,.func (.func g) #[] lb] w fun e w'=>e=.returned (.int .i64 (-1))∧Below w.heap.size w w':=by
 go_enter Tryz.func118,Tryz.ntmps118
 go_wp2
 go_loopw [8] (fun i wr=>i=.int .i64 0∧w=wr) (fun _ _=>0)
 case atStart=>exact ⟨rfl,rfl⟩
 case round=>
  obtain ⟨rfl,rfl⟩:=hrel
  go_wp2
  go_ret
  exact ⟨rfl,Below.refl _ _⟩
theorem attOne_len (x:AttV):(attOne x).length=2:=rfl
theorem attC_flat {l:List AttV} {j:Nat} (hj:j<l.length) (i:Nat) (v:Value) (h:(attOne l[j]!)[i]?=some v):(attC l)[j * 2+i]?=some v:=by
 have g:=attC_get hj
 have e:l[j]! = l[j]:=by rw [List.getElem!_eq_getElem?_getD,List.getElem?_eq_getElem hj];rfl
 rw [e] at h
 match i,h with
 | 0,h=>rw [Nat.add_zero,g.1];exact h
 | 1,h=>rw [g.2];exact h
 | i+2,h=>simp [attOne] at h
set_option maxHeartbeats 2000000 in
theorem of_any2 (A:Option Addr) (c:Nat) (l:List AttV) (nm:ByteArray) (w:World) (hl:l.length≤1000) (h:RowAt w w.heap.size A (attC l)) :
  Calls Tryz.prog 50 #[.slice A l.length c,.string nm] w fun e w'=>e=.returned (.int .i64 (idxA l nm))∧Below w.heap.size w w':=by
 obtain ⟨W0,hW0⟩:∃ W0,w.alloc (.cells #[.string nm] 9)=W0:=⟨_,rfl⟩
 have B0:Hid (Below w.heap.size w W0):=hW0▸(Below.refl _ _).alloc (Nat.le_refl _) _
 have G0:Blk W0 w.heap.size 9 #[.string nm]:=hW0▸Blk.new w _ _
 have HW0:=Lib.hid hW0
 have CI:Hid (Calls Tryz.prog 118 #[.slice A l.length c,.func (.func 119) #[] #[.pointer (some ⟨w.heap.size,0,none⟩)]] W0 fun e w'=>e=.returned (.int .i64 (idxA l nm))∧Below W0.heap.size W0 w'):=by
  show Calls _ _ _ _ _
  by_cases hn:l=[]
  ·subst hn
   exact idx_nil A c _ _ W0
  ·obtain ⟨b,o,rfl,hb,hc⟩:=RowAt.at_ (row_keep h B0.out B0.out.size) (by rw [attC_len];have:=List.length_pos_iff.2 hn;omega)
   have:=AnyQ.slices_IndexFunc Tryz.idxAttr 2 Tryz.isAgg104 Tryz.sizeOf104 attOne attOne_len (isN nm) 119 #[.pointer (some ⟨w.heap.size,0,none⟩)] (enters_of Tryz.func119 (by kernel_rfl) rfl) b o l.length c l W0
    (fun W x hW=>(of_cl w.heap.size nm x W (G0.below hW G0.lt)).mono fun e w' he=>⟨he.1,hW.trans (he.2.mono hW.size)⟩) (Nat.le_refl _) (by omega) hb
    (fun j hj i v hv=>by rw [Nat.add_assoc];exact hc _ _ (attC_flat hj i v hv))
   rw [List.take_length] at this
   exact this
 clear h hl G0 hW0
 generalize idxA l nm=r at *
 go_enter Tryz.func50,Tryz.ntmps50
 go_wp2_with fail
 rw [HW0.out]
 refine CI.out.mono ?_
 rintro e w1 ⟨rfl,hb1⟩
 have B1:=Lib.hid (B0.out.trans (hb1.mono B0.out.size))
 clear hb1 CI
 go_wp2
 go_ret
 exact ⟨rfl,B1.out⟩
theorem cmp_lt:∀ a b:List UInt8,Lib.compareBytes a b<0↔a<b
 | [],[]=>by simp [Lib.compareBytes]
 | [],_::_=>by simp [Lib.compareBytes]
 | _::_,[]=>by simp [Lib.compareBytes]
 | a::p,b::q=>by
  have ih:=cmp_lt p q
  unfold Lib.compareBytes
  rw [List.cons_lt_cons_iff]
  by_cases h1:a<b
  ·rw [if_pos h1];simp [h1]
  ·rw [if_neg h1]
   by_cases h2:b<a
   ·rw [if_pos h2]
    constructor
    ·intro h;omega
    ·rintro (h | ⟨h,_⟩)
     ·exact absurd h h1
     ·subst h;exact absurd h2 h1
   ·rw [if_neg h2,ih]
    have e:a=b:=by
     apply UInt8.toNat_inj.1
     rw [UInt8.lt_iff_toNat_lt] at h1 h2
     omega
    subst e
    simp [h1]
def cfA (x y:AttV):Int:=Lib.compareBytes x.name.data.toList y.name.data.toList
def ltN (x y:AttV):Prop:=ltB x.name y.name=true
theorem ltOf_cf (x y:AttV):ltOf cfA x y=ltB x.name y.name:=by
 unfold ltOf cfA ltB
 rw [Bool.eq_iff_iff,decide_eq_true_iff,decide_eq_true_iff]
 exact cmp_lt _ _
theorem swo_cf:Sort.SWO (ltOf cfA):=by
 refine ⟨fun x=>?_,fun x y z=>?_,fun x y z=>?_⟩
 ·rw [ltOf_cf];exact ltB_irrefl _
 ·rw [ltOf_cf,ltOf_cf,ltOf_cf];exact ltB_trans
 ·rw [ltOf_cf,ltOf_cf,ltOf_cf]
  intro h1 h2
  cases hyx:ltB y.name x.name with
  | false=>
   have e:=ltB_tri h1 hyx
   rw [e];exact h2
  | true=>
   cases hxz:ltB x.name z.name with
   | false=>rfl
   | true=>rw [ltB_trans hyx hxz] at h2;cases h2
theorem sorted_unique:∀ {a b:List AttV},a.Pairwise ltN→b.Pairwise ltN→(∀ x,x ∈ a↔x ∈ b)→a=b
 | [],[],_,_,_=>rfl
 | [],y::b,_,_,h=>absurd ((h y).2 (by simp)) (by simp)
 | x::a,[],_,_,h=>absurd ((h x).1 (by simp)) (by simp)
 | x::a,y::b,pa,pb,h=>by
  rw [List.pairwise_cons] at pa pb
  have irr:∀ {u v:AttV},ltN u v→ltN v u→False:=fun h1 h2=>by
   have:=ltB_trans h1 h2
   rw [ltB_irrefl] at this;cases this
  have hxy:x=y:=by
   rcases List.mem_cons.1 ((h x).1 (by simp)) with e | hx
   ·exact e
   ·rcases List.mem_cons.1 ((h y).2 (by simp)) with e | hy
    ·exact e.symm
    ·exact absurd (pb.1 x hx) (fun h1=>irr h1 (pa.1 y hy))
  subst hxy
  congr 1
  refine sorted_unique pa.2 pb.2 fun z=>?_
  constructor
  ·intro hz
   rcases List.mem_cons.1 ((h z).1 (by simp [hz])) with e | hz2
   ·subst e
    have:=pa.1 z hz
    unfold ltN at this
    rw [ltB_irrefl] at this;cases this
   ·exact hz2
  ·intro hz
   rcases List.mem_cons.1 ((h z).2 (by simp [hz])) with e | hz2
   ·subst e
    have:=pb.1 z hz
    unfold ltN at this
    rw [ltB_irrefl] at this;cases this
   ·exact hz2
theorem sort_is {l L:List AttV} {d':Array AttV} (hp:Sort.PermIn 0 l.toArray.size l.toArray d') (hs:Sort.SortedIn (ltOf cfA) 0 l.toArray.size d') (hd:l.Pairwise fun x y=>x.name≠y.name) (hL:L.Pairwise ltN) (hm:∀ x,x ∈ L↔x ∈ l):d'=L.toArray:=by
 obtain ⟨h1,_,h2⟩:=hp
 have e1:d'.extract 0 l.toArray.size=d':=by rw [← h1];simp
 have e2:l.toArray.extract 0 l.toArray.size=l.toArray:=by simp
 rw [e1,e2] at h2
 have h2:d'.toList.Perm l:=h2
 have hsz:d'.toList.length=l.length:=h2.length_eq
 have hn:d'.toList.Pairwise fun x y=>x.name≠y.name:=(h2.pairwise_iff (fun h e=>h e.symm)).2 hd
 have hst:d'.toList.Pairwise ltN:=by
  rw [List.pairwise_iff_getElem]
  intro i j hi hj hij
  have hne:=List.pairwise_iff_getElem.1 hn i j hi hj hij
  have hi':i<d'.size:=by simpa using hi
  have hj':j<d'.size:=by simpa using hj
  have:=hs i j (Nat.zero_le _) hij (by rw [← h1];exact hj')
  rw [ltOf_cf,getElem!_pos d' j hj',getElem!_pos d' i hi'] at this
  unfold ltN
  rw [Array.getElem_toList,Array.getElem_toList] at hne ⊢
  cases hlt:ltB d'[i].name d'[j].name with
  | true=>rfl
  | false=>exact absurd (ltB_tri hlt this) hne
 have:=sorted_unique hst hL fun x=>(h2.mem_iff).trans (hm x).symm
 rw [← this]
set_option maxHeartbeats 1000000 in
theorem cmp_cl (x y:AttV) (w:World):Calls Tryz.prog 111 #[.agg (attOne x).toArray,.agg (attOne y).toArray] w fun e w'=>e=.returned (.int .i64 (cfA x y))∧w'=(w.alloc (.cells #[.string x.name,.string x.value] 104)).alloc (.cells #[.string y.name,.string y.value] 104):=by
 obtain ⟨a,u⟩:=x
 obtain ⟨b,v⟩:=y
 have CC:Hid (∀ w,Calls Tryz.prog 112 #[.string a,.string b] w fun e w'=>e=.returned (.int .i64 (cfA ⟨a,u⟩ ⟨b,v⟩))∧w'=w):=fun w=>Tryz.strings_Compare a b w
 generalize cfA ⟨a,u⟩ ⟨b,v⟩=r at *
 show Calls _ _ #[.agg #[.string a,.string u],.agg #[.string b,.string v]] _ _
 go_enter Tryz.func111,Tryz.ntmps111
 go_wp2_with fail
 refine (CC.out _).mono ?_
 rintro e w1 ⟨rfl,rfl⟩
 go_wp2
 go_ret
 exact ⟨rfl,rfl⟩
theorem attC_at2 {l:List AttV} (k r:Nat) (hk:k<l.length) (hr:r<2):(attC l)[k * 2+r]?=some ((attOne l.toArray[k]!)[r]!):=by
 have g2:=attC_get hk
 have e:l.toArray[k]! = l[k]:=by rw [getElem!_pos _ _ (by simpa using hk)];simp
 rw [e]
 match r,hr with
 | 0,_=>rw [Nat.add_zero,g2.1];rfl
 | 1,_=>rw [g2.2];rfl
theorem attC_at {l:List AttV} {t:Nat} (ht:t<l.length * 2):(attC l)[t]?=some ((attOne l.toArray[t / 2]!)[t % 2]!):=by
 have:=attC_at2 (l:=l) (t / 2) (t % 2) (by omega) (Nat.mod_lt _ (by decide))
 rwa [Nat.div_add_mod'] at this
theorem sortW_grown (enc:AttV→List Value) (k:Nat) (w:World) (blk off n:Nat) (d:Array AttV) (os:Array Obj):w.grownBy (sortWorldK enc k w blk off n d os) (some blk):=by
 have hs:w.heap.size≤(sortWorldK enc k w blk off n d os).heap.size:=size_sortWorldK_c enc k w blk off n d os
 refine ⟨rfl,rfl,rfl,hs,fun i hi hne=>?_⟩
 have hne:blk≠i:=fun e=>hne (by rw [e])
 show ((sortWorldK enc k w blk off n d os).heap)[i]?=_
 unfold sortWorldK Sort.grow Sort.putRowK Sort.putRow Sort.mapBlock Sort.ahead
 dsimp only
 rw [Array.getElem?_append_left (by simp;omega),Array.getElem?_modify,if_neg hne]
set_option maxHeartbeats 2000000 in
theorem sort_any {l L:List AttV} (g base c:Nat) (w:World) (hd:l.Pairwise fun x y=>x.name≠y.name) (hL:L.Pairwise ltN) (hm:∀ x,x ∈ L↔x ∈ l) (hl:l.length≤1000) 
  (h:w.ownsRow base 104 2 (.slice (some ⟨g,0,none⟩) l.length c) l.length (attC l)) :
  Calls Tryz.prog 110 #[.slice (some ⟨g,0,none⟩) l.length c,.func (.func 111) #[] #[]] w fun e w'=>e=.returned (.tuple #[])∧RowAt w' w'.heap.size (some ⟨g,0,none⟩) (attC L)∧L.length=l.length∧w.grownBy w' (some g):=by
 have hg:g<w.heap.size:=(h.lt g rfl).2
 have hH:Sort.HoldsK attOne 2 w g 0 l.toArray:=by
  intro t ht
  rw [Sort.size_flatK,List.size_toArray] at ht
  have hgt:(attC l)[t]?=some (Sort.flatK attOne 2 l.toArray)[t]!:=by
   rw [Sort.get_flatK _ _ _ t (by rw [List.size_toArray];exact ht)]
   exact attC_at ht
  refine ⟨?_,?_⟩
  ·rw [Nat.zero_add,h.cellAt t (by omega),hgt];rfl
  ·rw [Nat.zero_add];exact h.frozenAt t
 have hC:CmpLays Tryz.prog 111 #[] attOne 2 cfA g 0 l.toArray.size w:=fun m os dk _ x y=>by
  refine (cmp_cl x y _).mono ?_
  rintro e w' ⟨rfl,rfl⟩
  refine ⟨rfl,0,#[.cells #[.string x.name,.string x.value] 104,.cells #[.string y.name,.string y.value] 104],?_⟩
  rw [Sort.alloc_eq_grow,Sort.alloc_eq_grow,Sort.grow_grow]
  rfl
 have key:=AnyQ.slices_SortFunc Tryz.sortAttr 2 Tryz.isAgg104 Tryz.sizeOf104 attOne attOne_len (fun x v hv=>by
  rcases List.mem_cons.1 hv with rfl | hv
  ·rfl
  ·rcases List.mem_cons.1 hv with rfl | hv
   ·rfl
   ·cases hv) cfA swo_cf 111 #[] g 0 c l.toArray w (enters_of Tryz.func111 (by kernel_rfl) rfl) hC hH hg (by rw [List.size_toArray];omega)
 rw [List.size_toArray] at key
 refine key.mono ?_
 rintro e w' ⟨rfl,d',n,os,hp,hs,rfl⟩
 have hd':=sort_is (by rw [List.size_toArray];exact hp) (by rw [List.size_toArray];exact hs) hd hL hm
 subst hd'
 have hsz:L.length=l.length:=by have:=hp.1;simpa using this
 have hK:=holdsK_sortWorldK_c attOne 2 w g 0 l.toArray L.toArray n os hH hg (by simpa using hsz)
 refine ⟨rfl,.inr ⟨g,0,rfl,?_,fun t u hu=>?_⟩,hsz,sortW_grown _ _ _ _ _ _ _ _⟩
 ·exact Nat.lt_of_lt_of_le hg (size_sortWorldK_c attOne 2 w g 0 n L.toArray os)
 ·have ht:t<(attC L).length:=(List.getElem?_eq_some_iff.1 hu).1
  rw [attC_len] at ht
  have:=(hK t (by rw [Sort.size_flatK,List.size_toArray];omega)).1
  rw [this,← hu]
  rw [Sort.get_flatK _ _ _ t (by rw [List.size_toArray];omega),attC_at ht]
  rfl
def insA (l:List AttV) (x:AttV):List AttV:=l.filter (fun y=>ltB y.name x.name)++x::l.filter (fun y=>!ltB y.name x.name)
def addA (l:List AttV) (nm v:ByteArray):List AttV:=if 0≤idxA l nm then l.set (idxA l nm).toNat ⟨nm,v⟩ else l++[⟨nm,v⟩]
def putA (l:List AttV) (nm v:ByteArray):List AttV:=if 0≤idxA l nm then l.set (idxA l nm).toNat ⟨nm,v⟩ else insA l ⟨nm,v⟩
def blkA (l:List AttV):ByteArray:=⟨(blockL (rowA l)).toArray⟩
def takeO (xs:List ByteArray):List ByteArray × Nat × Int:=match ofR xs with
 | none=>([],0,3)
 | some m=>match freeR xs m with
  | none=>([],0,10)
  | some i=>(takeV xs i,i,0)
def setA (xs:List ByteArray) (n:Int) (l:List AttV) (nm v:ByteArray):List ByteArray × Int:=
 if opE xs n≠0 then ([],opE xs n) else if mayA nm.data.toList=false then ([],7) else if 126<v.size then ([],6) else if 126<(rowA (putA l nm v)).length then ([],6)
 else if (getR xs n).getD 11 0≠0 then (xs.set ((getR xs n).getD 11 0) (blkA (putA l nm v)),0)
 else if (takeO xs).2.2≠0 then ([],(takeO xs).2.2)
 else if (putO (takeO xs).1 n (intsL ((getR xs n).set 11 (takeO xs).2.1))).2≠0 then ([],(putO (takeO xs).1 n (intsL ((getR xs n).set 11 (takeO xs).2.1))).2)
 else ((putO (takeO xs).1 n (intsL ((getR xs n).set 11 (takeO xs).2.1))).1.set (takeO xs).2.1 (blkA (putA l nm v)),0)
theorem mem_insA {l:List AttV} {x y:AttV}:y ∈ insA l x↔y ∈ l++[x]:=by
 unfold insA
 simp only [List.mem_append,List.mem_cons,List.mem_filter,List.not_mem_nil,or_false]
 constructor
 ·rintro (h | h | h)
  ·exact .inl h.1
  ·exact .inr h
  ·exact .inl h.1
 ·rintro (h | h)
  ·cases e:ltB y.name x.name with
   | true=>exact .inl ⟨h,rfl⟩
   | false=>exact .inr (.inr ⟨h,rfl⟩)
  ·exact .inr (.inl h)
theorem put_mem {l:List AttV} {nm v:ByteArray} (x:AttV):x ∈ putA l nm v↔x ∈ addA l nm v:=by
 unfold putA addA
 split
 ·exact Iff.rfl
 ·exact mem_insA
theorem map_name_set {l:List AttV} {k:Nat} {nm v:ByteArray} (hk:k<l.length) (h:l[k].name=nm):(l.set k ⟨nm,v⟩).map (·.name)=l.map (·.name):=by
 rw [List.map_set]
 apply List.ext_getElem?
 intro i
 rw [List.getElem?_set]
 by_cases e:k=i
 ·subst e
  rw [if_pos rfl,if_pos (by rw [List.length_map];exact hk),List.getElem?_map,List.getElem?_eq_getElem hk,← h];rfl
 ·rw [if_neg e]
theorem pw_names {l:List AttV} {R:ByteArray→ByteArray→Prop}:(l.Pairwise fun x y=>R x.name y.name)↔(l.map (·.name)).Pairwise R:=by rw [List.pairwise_map]
theorem set_sorted {l:List AttV} {k:Nat} {nm v:ByteArray} (hl:l.Pairwise ltN) (hk:k<l.length) (h:l[k].name=nm):(l.set k ⟨nm,v⟩).Pairwise ltN:=by
 have h1:(l.map (·.name)).Pairwise fun a b=>ltB a b=true:=pw_names.1 hl
 rw [← map_name_set (v:=v) hk h] at h1
 exact pw_names.2 h1
theorem sorted_dist {l:List AttV} (h:l.Pairwise ltN):l.Pairwise fun x y=>x.name≠y.name:=h.imp fun h e=>by
 unfold ltN at h
 rw [e,ltB_irrefl] at h
 cases h
theorem ins_sorted {l:List AttV} {x:AttV} (h:l.Pairwise ltN) (hx:∀ y ∈ l,y.name≠x.name):(insA l x).Pairwise ltN:=by
 unfold insA
 rw [List.pairwise_append,List.pairwise_cons]
 have hr:∀ z ∈ l.filter (fun y=>!ltB y.name x.name),ltN x z:=fun z hz=>by
  obtain ⟨h1,h2⟩:=List.mem_filter.1 hz
  have h2:ltB z.name x.name=false:=by simpa using h2
  unfold ltN
  cases e:ltB x.name z.name with
  | true=>rfl
  | false=>exact absurd (ltB_tri h2 e) (hx z h1)
 refine ⟨h.filter _,⟨hr,h.filter _⟩,fun y hy z hz=>?_⟩
 have hy2:ltN y x:=(List.mem_filter.1 hy).2
 rcases List.mem_cons.1 hz with rfl | hz
 ·exact hy2
 ·exact ltB_trans hy2 (hr z hz)
theorem add_facts2 {l:List AttV} (h:l.Pairwise ltN) (nm v:ByteArray):((addA l nm v).Pairwise fun x y=>x.name≠y.name)∧(putA l nm v).Pairwise ltN∧(addA l nm v).length≤l.length+1∧addA l nm v≠[]:=by
 unfold addA putA
 rcases idxA_spec l nm with ⟨hi,hn⟩ | ⟨k,hk,hi,hkn,_⟩
 ·rw [hi,if_neg (by decide),if_neg (by decide)]
  refine ⟨?_,ins_sorted h hn,by simp,by simp⟩
  rw [List.pairwise_append]
  refine ⟨sorted_dist h,List.pairwise_singleton _ _,fun x hx y hy=>?_⟩
  rw [List.mem_singleton.1 hy]
  exact hn x hx
 ·rw [hi,if_pos (by omega),if_pos (by omega),Int.toNat_natCast]
  have:=set_sorted (v:=v) h hk hkn
  refine ⟨sorted_dist this,this,by rw [List.length_set];omega,fun e=>?_⟩
  have e2:=congrArg List.length e
  rw [List.length_set] at e2
  have e3:l.length=0:=e2
  omega
theorem attC_set {l:List AttV} {k:Nat} {nm v:ByteArray} (hk:k<l.length) (h:l[k].name=nm):(attC l).set (k * 2+1) (.string v)=attC (l.set k ⟨nm,v⟩):=by
 apply List.ext_getElem?
 intro t
 by_cases ht:t<l.length * 2
 ·have h2:=attC_at (l:=l.set k ⟨nm,v⟩) (t:=t) (by rw [List.length_set];exact ht)
  rw [h2,List.getElem?_set]
  have hlt:t / 2<l.length:=by omega
  have e0:(l.set k ⟨nm,v⟩).toArray[t / 2]! = (l.set k ⟨nm,v⟩)[t / 2]'(by rw [List.length_set];exact hlt):=by rw [getElem!_pos _ _ (by simpa using hlt)];simp
  rw [e0,List.getElem_set]
  by_cases e:k * 2+1=t
  ·rw [if_pos e,if_pos (by rw [attC_len];omega),if_pos (by omega),show t % 2=1 by omega]
   rfl
  ·rw [if_neg e,attC_at ht]
   have e1:l.toArray[t / 2]! = l[t / 2]:=by rw [getElem!_pos _ _ (by simpa using hlt)];simp
   rw [e1]
   by_cases ek:k=t / 2
   ·rw [if_pos ek,show t % 2=0 by omega]
    subst ek
    show some (Value.string l[t / 2].name)=some (Value.string nm)
    rw [h]
   ·rw [if_neg ek]
 ·rw [List.getElem?_eq_none (by rw [List.length_set,attC_len];omega),List.getElem?_eq_none (by rw [attC_len,List.length_set];omega)]
theorem add_texts {l:List AttV} (h:∀ t ∈ textsA l,t.size≤127) {nm v:ByteArray} (h1:nm.size≤127) (h2:v.size≤127):∀ t ∈ textsA (putA l nm v),t.size≤127:=by
 have key:∀ x ∈ putA l nm v,x.name.size≤127∧x.value.size≤127:=fun x hx=>by
  rw [put_mem] at hx
  have hl:∀ y ∈ l,y.name.size≤127∧y.value.size≤127:=fun y hy=>⟨h _ (by unfold textsA;exact List.mem_flatMap.2 ⟨y,hy,by simp⟩),h _ (by unfold textsA;exact List.mem_flatMap.2 ⟨y,hy,by simp⟩)⟩
  unfold addA at hx
  split at hx
  ·rcases List.mem_or_eq_of_mem_set hx with a | a
   ·exact hl x a
   ·subst a;exact ⟨h1,h2⟩
  ·rcases List.mem_append.1 hx with a | a
   ·exact hl x a
   ·rw [List.mem_singleton.1 a];exact ⟨h1,h2⟩
 intro t ht
 unfold textsA at ht
 obtain ⟨x,hx,hxt⟩:=List.mem_flatMap.1 ht
 rcases List.mem_cons.1 hxt with rfl | hxt
 ·exact (key x hx).1
 ·rw [List.mem_singleton.1 hxt];exact (key x hx).2
theorem take_code {xs:List ByteArray} {w w':World} {e:Ending} (hx:xs.length≤1000000) (h:TakePost xs w e w'):(∃ v,e=.returned (.tuple #[v,.int .i64 ((takeO xs).2.1:Nat),.int .i64 (takeO xs).2.2])∧OwnRow (takeO xs).1 w v w')∧Below w.heap.size w w':=by
 unfold TakePost at h
 unfold takeO
 obtain ⟨hb,h⟩:=h
 refine ⟨?_,hb⟩
 cases hr:ofR xs with
 | none=>rw [hr] at h;exact ⟨_,h,own_nil _ _⟩
 | some m=>
  rw [hr] at h
  dsimp only at h ⊢
  cases hf:freeR xs m with
  | none=>rw [hf] at h;exact ⟨_,h,own_nil _ _⟩
  | some i=>
   rw [hf] at h
   obtain ⟨v,e1,hn⟩:=h
   exact ⟨v,e1,hn.own (by rw [takeV_length];exact Nat.le_trans hx (by decide))⟩
theorem take_len {xs:List ByteArray} (h:(takeO xs).2.2=0):(takeO xs).1.length=xs.length∧(takeO xs).2.1<xs.length:=by
 unfold takeO at h ⊢
 cases hr:ofR xs with
 | none=>rw [hr] at h;dsimp only at h;exact absurd h (by decide)
 | some m=>
  rw [hr] at h
  dsimp only at h ⊢
  cases hf:freeR xs m with
  | none=>rw [hf] at h;dsimp only at h;exact absurd h (by decide)
  | some i=>
   dsimp only
   obtain ⟨f1,f2,f3,f4,f5⟩:=free_facts (ofR_some.1 hr) hf
   exact ⟨takeV_length _ _,f2⟩
theorem putO_len {xs:List ByteArray} {n:Int} {l:List Int} (hl:l.length=12) (h:(putO xs n l).2=0):(putO xs n l).1.length=xs.length:=by
 rcases putO_cases (xs:=xs) (n:=n) hl with ⟨_,b⟩ | ⟨m,k,nl,_,_,_,_,_,_,e⟩
 ·exact absurd h b
 ·rw [e];exact putV_length _ _ _
set_option maxHeartbeats 16000000 in
theorem aset_any (A:Option Addr) (c:Nat) (xs:List ByteArray) (n:Int) (l:List AttV) (nm v:ByteArray) (w:World) (hx:xs.length≤1000000) (hnm:nm.size≤140737488355328) (hls:l.Pairwise ltN) (hlt:∀ t ∈ textsA l,t.size≤127) (hl:l.length≤100) (hA:inoE xs n=0→(getR xs n).getD 0 0≠0→AttAt xs n l) (h:RowAt w w.heap.size A (xs.map .string)) :
  Calls Tryz.prog 48 #[.slice A xs.length c,.int .i64 n,.string nm,.string v] w (RowCode (setA xs n l nm v).1 (setA xs n l nm v).2 w):=by
 have HR:=Lib.hid h
 have CO:=Lib.hid (aopen_any A c xs n l w hx hA h)
 have CM:=Lib.hid (fun w=>amay_any nm w hnm)
 have CF:=Lib.hid (fun A c w h=>of_any2 A c l nm w (by omega) h)
 have CT:=Lib.hid (fun w h=>(take_any A c xs w hx h).mono fun _ _ h=>take_code hx h)
 have HF:=Lib.hid (add_facts2 hls nm v)
 have HLL:Hid (l.length≤100):=hl
 have HTXM:Hid (mayA nm.data.toList=true→v.size≤126→∀ t ∈ textsA (putA l nm v),t.size≤127):=fun h1 h2=>by
  refine add_texts hlt ?_ (by omega)
  unfold mayA at h1
  simp only [Bool.and_eq_true,decide_eq_true_eq] at h1
  have:=h1.1.2
  rw [dsize] at this
  omega
 have HO:Hid (setA xs n l nm v=if opE xs n≠0 then ([],opE xs n) else if mayA nm.data.toList=false then ([],7) else if 126<v.size then ([],6) else if 126<(rowA (putA l nm v)).length then ([],6)
 else if (getR xs n).getD 11 0≠0 then (xs.set ((getR xs n).getD 11 0) (blkA (putA l nm v)),0)
 else if (takeO xs).2.2≠0 then ([],(takeO xs).2.2)
 else if (putO (takeO xs).1 n (intsL ((getR xs n).set 11 (takeO xs).2.1))).2≠0 then ([],(putO (takeO xs).1 n (intsL ((getR xs n).set 11 (takeO xs).2.1))).2)
 else ((putO (takeO xs).1 n (intsL ((getR xs n).set 11 (takeO xs).2.1))).1.set (takeO xs).2.1 (blkA (putA l nm v)),0)):=by show _=_;rfl
 have HOE:Hid (opE xs n=0→inoE xs n=0∧(getR xs n).getD 0 0≠0):=fun h=>by
  unfold opE at h
  by_cases h1:inoE xs n≠0
  ·rw [if_pos h1] at h;exact absurd h h1
  ·rw [if_neg h1] at h
   refine ⟨Classical.not_not.1 h1,fun h2=>?_⟩
   rw [if_pos h2] at h
   exact absurd h (by decide)
 have HXA:Hid (opE xs n=0→(getR xs n).getD 11 0≠0→(getR xs n).getD 11 0<xs.length):=fun h h2=>by
  obtain ⟨h3,h4⟩:=HOE.out h
  rcases hA h3 h4 with ⟨a,_⟩ | ⟨_,_,_,_,_,a,_⟩
  ·exact absurd a h2
  ·exact a
 have HTL:Hid ((takeO xs).2.2=0→(takeO xs).1.length≤1000000∧(takeO xs).1.length=xs.length∧(takeO xs).2.1<xs.length):=fun h=>by
  have:=take_len h
  exact ⟨by omega,this.1,this.2⟩
 unfold OpPost at CO
 generalize setA xs n l nm v=z at *
 obtain ⟨R,hR,hRl⟩:∃ R,(if opE xs n=0 then getR xs n else List.replicate 12 0)=R∧R.length=12:=⟨_,rfl,by split;exact getR_len _ _;rfl⟩
 have hRz:∀ z ∈ R,z<4294967296:=by
  rw [← hR]
  split
  ·exact getR_lt xs n
  ·intro z hz;rw [List.eq_of_mem_replicate hz];decide
 have hRg:opE xs n=0→getR xs n=R:=fun h=>by rw [← hR,if_pos h]
 have HRG:=Lib.hid hRg
 rw [hR] at CO
 obtain ⟨a0,a1,a2,a3,a4,a5,a6,a7,a8,a9,a10,a11,hg⟩:=len12 hRl
 have HPU:Hid (∀ tk:Nat,tk<4294967296→∀ z ∈ intsL (R.set 11 tk),-9223372036854775808≤z∧z≤9223372036854775807):=fun tk htk z hz=>by
  unfold intsL at hz
  obtain ⟨k,hk,rfl⟩:=List.mem_map.1 hz
  rcases List.mem_or_eq_of_mem_set hk with a | a
  ·have:=hRz k a;omega
  ·omega
 subst hg
 unfold inoC at CO
 simp only [List.map_cons,List.map_nil] at CO
 have HXS:Hid (xs.length≤1000000):=hx
 obtain ⟨ys,tk,te,ht⟩:∃ a b d,takeO xs=(a,b,d):=⟨_,_,_,rfl⟩
 rw [ht] at CT HTL HO
 dsimp only at CT HTL HO
 have HTK:Hid (te=0→tk<4294967296):=fun h=>by have:=HTL.out h;omega
 generalize opE xs n=oe at *
 clear h hA hR hRl hRz hRg hls hlt hl hnm ht
 go_enter Tryz.func48,Tryz.ntmps48
 go_wp2_with fail
 refine CO.out.mono ?_
 rintro e' w1 ⟨⟨v1,rfl,hown⟩,hb1⟩
 have B1:=Lib.hid hb1
 have O1:=Lib.hid hown
 obtain ⟨W2,hW2⟩:∃ W2,w1.alloc (.cells #[.int .i64 a0,.int .i64 a1,.int .i64 a2,.int .i64 a3,.int .i64 a4,.int .i64 a5,.int .i64 a6,.int .i64 a7,.int .i64 a8,.int .i64 a9,.int .i64 a10,.int .i64 a11] 39)=W2:=⟨_,rfl⟩
 have B2:Hid (Below w.heap.size w W2):=hW2▸B1.out.alloc B1.out.size _
 have X2:Hid (Blk W2 w1.heap.size 39 #[.int .i64 a0,.int .i64 a1,.int .i64 a2,.int .i64 a3,.int .i64 a4,.int .i64 a5,.int .i64 a6,.int .i64 a7,.int .i64 a8,.int .i64 a9,.int .i64 a10,.int .i64 a11]):=hW2▸Blk.new w1 _ _
 have HW2:=Lib.hid hW2
 have F1:Hid (w.heap.size≤w1.heap.size):=B1.out.size
 clear hb1 hown CO
 by_cases h0:oe=0
 case neg=>
  have h0':(oe != 0)=true:=by simpa using h0
  rw [if_pos h0] at HO
  go_wp2
  go_ret2
  rw [HO.out]
  exact ⟨⟨_,rfl,own_nil _ _⟩,B2.out⟩
 subst h0
 rw [if_neg (by simp),HRG.out rfl] at HO
 rw [HRG.out rfl] at HXA
 rw [if_pos rfl] at O1
 simp only [List.getD_cons_zero,List.getD_cons_succ,List.set_cons_zero,List.set_cons_succ] at HO HXA HPU
 have HXL:Hid (a11≠0→a11<xs.length):=HXA.out (by trivial)
 have O2:Hid (W2.ownsRow w.heap.size 104 2 v1 l.length (attC l)):=hW2▸World.ownsRow.alloc O1.out _
 have CU:Hid (∀ A c w,te=0→ys.length≤1000000→RowAt w w.heap.size A (ys.map .string)→Calls Tryz.prog 65 #[.slice A ys.length c,.int .i64 n,.agg #[.int .i64 a0,.int .i64 a1,.int .i64 a2,.int .i64 a3,.int .i64 a4,.int .i64 a5,.int .i64 a6,.int .i64 a7,.int .i64 a8,.int .i64 a9,.int .i64 a10,.int .i64 (tk:Nat)]] w (RowCode (putO ys n (intsL [a0,a1,a2,a3,a4,a5,a6,a7,a8,a9,a10,tk])).1 (putO ys n (intsL [a0,a1,a2,a3,a4,a5,a6,a7,a8,a9,a10,tk])).2 w)):=fun A c w h0 h1 h=>
  put_ino A c ys n (intsL [a0,a1,a2,a3,a4,a5,a6,a7,a8,a9,a10,tk]) w h1 h rfl (HPU.out tk (HTK.out h0))
 have HPL:Hid (ys.length=xs.length∧tk<xs.length→(putO ys n (intsL [a0,a1,a2,a3,a4,a5,a6,a7,a8,a9,a10,tk])).2=0→(putO ys n (intsL [a0,a1,a2,a3,a4,a5,a6,a7,a8,a9,a10,tk])).1.length≤1000000∧tk<(putO ys n (intsL [a0,a1,a2,a3,a4,a5,a6,a7,a8,a9,a10,tk])).1.length):=fun h1 h2=>by
  have:=putO_len (l:=intsL [a0,a1,a2,a3,a4,a5,a6,a7,a8,a9,a10,tk]) rfl h2
  have:=HXS.out
  omega
 have HO:Hid (z=if mayA nm.data.toList=false then ([],7) else if 126<v.size then ([],6) else if 126<(rowA (putA l nm v)).length then ([],6)
  else if a11≠0 then (xs.set a11 (blkA (putA l nm v)),0)
  else if te≠0 then ([],te)
  else if (putO ys n (intsL [a0,a1,a2,a3,a4,a5,a6,a7,a8,a9,a10,tk])).2≠0 then ([],(putO ys n (intsL [a0,a1,a2,a3,a4,a5,a6,a7,a8,a9,a10,tk])).2)
  else ((putO ys n (intsL [a0,a1,a2,a3,a4,a5,a6,a7,a8,a9,a10,tk])).1.set tk (blkA (putA l nm v)),0)):=HO
 obtain ⟨zs,pe,hpz⟩:∃ a b,putO ys n (intsL [a0,a1,a2,a3,a4,a5,a6,a7,a8,a9,a10,tk])=(a,b):=⟨_,_,rfl⟩
 rw [hpz] at CU HPL HO
 unfold RowCode at CU
 dsimp only at CU HPL HO
 clear O1 B1 hW2 HRG HXA HPU hpz
 go_wp2_with fail
 rw [HW2.out]
 clear HW2
 refine (CM.out _).mono ?_
 rintro e' w3 ⟨rfl,hb3⟩
 have B3:=Lib.hid (B2.out.trans (hb3.mono B2.out.size))
 have O3:=Lib.hid (own_below O2.out hb3)
 have X3:=Lib.hid (X2.out.below hb3 X2.out.lt)
 clear hb3 B2 O2 X2 CM
 obtain ⟨mb,hmb⟩:∃ b,mayA nm.data.toList=b:=⟨_,rfl⟩
 rw [hmb] at HO HTXM ⊢
 clear hmb
 cases mb with
 | false=>
  rw [if_pos rfl] at HO
  go_wp2
  go_ret2
  rw [HO.out]
  exact ⟨⟨_,rfl,own_nil _ _⟩,B3.out⟩
 | true=>
 rw [if_neg (by simp)] at HO
 by_cases h1:126<v.size
 case pos=>
  have h1':(126:Int)<(v.size:Int):=by omega
  rw [if_pos h1] at HO
  go_wp2
  go_ret2
  rw [HO.out]
  exact ⟨⟨_,rfl,own_nil _ _⟩,B3.out⟩
 have h1':¬ (126:Int)<(v.size:Int):=by omega
 rw [if_neg h1] at HO
 have HTX:=Lib.hid (HTXM.out rfl (by omega))
 clear HTXM h1
 obtain ⟨A3,c3,rfl,hrow⟩:=own_atts O3.out rfl
 have R3:=Lib.hid hrow
 clear hrow
 go_wp2_with fail
 refine (CF.out _ _ _ R3.out).mono ?_
 rintro e' w4 ⟨rfl,hb4⟩
 have B4:=Lib.hid (B3.out.trans (hb4.mono B3.out.size))
 have O4:=Lib.hid (own_below O3.out hb4)
 have X4:=Lib.hid (X3.out.below hb4 X3.out.lt)
 clear hb4 B3 O3 X3 R3 CF
 have HAD:Hid (addA l nm v=if 0≤idxA l nm then l.set (idxA l nm).toNat ⟨nm,v⟩ else l++[⟨nm,v⟩]):=by show _=_;rfl
 have HSP:=Lib.hid (idxA_spec l nm)
 generalize idxA l nm=ix at *
 rcases HSP.out with ⟨hi,_⟩ | ⟨k,hk,hi,hkn,_⟩
 ·subst hi
  rw [if_neg (by decide)] at HAD
  obtain ⟨i0,q1,q2,q3,q4⟩:=info_parts att_info
  have I0:=Lib.hid (And.intro q1 (And.intro q2 (And.intro q3 q4)))
  have B5':=Lib.hid (B4.out.alloc B4.out.size (.cells #[.string nm,.string v] 104))
  have O5':Hid ((w4.alloc (.cells #[.string nm,.string v] 104)).ownsRow w.heap.size 104 2 (.slice A3 l.length c3) l.length (attC l)):=World.ownsRow.alloc O4.out _
  have X5':=Lib.hid (X4.out.alloc (.cells #[.string nm,.string v] 104))
  have HC7:Hid (∀ j u,[Value.string nm,Value.string v][j]?=some u→(w4.alloc (.cells #[.string nm,.string v] 104)).cell? ((⟨w4.heap.size,0,none⟩:Addr).add j)=some u):=fun j u hu=>by
   have hB:=Blk.new w4 104 #[.string nm,.string v]
   rw [add_zero_addr,Nat.zero_add]
   exact hB.cell j (by simpa using hu)
  have H17:Hid (∀ u ∈ [Value.string nm,Value.string v],u.oneCell'=true):=fun u hu=>by
   rcases List.mem_cons.1 hu with rfl | hu
   ·rfl
   ·rcases List.mem_cons.1 hu with rfl | hu
    ·rfl
    ·cases hu
  have HM7:Hid (l.length+1≤maxLen):=by show _≤_;have:=HLL.out;unfold maxLen;omega
  have HY7:Hid ((l.length+1) * 32≤140737488355328):=by show _≤_;have:=HLL.out;omega
  have HAC:Hid (attC l++[.string nm,.string v]=attC (addA l nm v)):=by show _=_;rw [HAD.out,attC_app];rfl
  have HAL:Hid ((addA l nm v).length=l.length+1):=by show _=_;rw [HAD.out];simp
  clear q1 q2 q3 q4
  go_wp2_with (at_builtin;refine wpList_append_own _ rfl (.tmp 43) (.tmp 47) 99 rfl w.heap.size 104 i0 (.agg #[.string ⟨#[]⟩,.string ⟨#[]⟩]) 2 32 Tryz.underlying99 I0.out.1 I0.out.2.1 I0.out.2.2.1 I0.out.2.2.2 rfl (by decide) _ l.length (attC l) rfl O5'.out ⟨w4.heap.size,0,none⟩ 1 1 [.string nm,.string v] rfl rfl HC7.out H17.out HM7.out HY7.out B5'.out.size ?_;intro v5 W5 own hg hv;rw [HAC.out] at own;obtain ⟨g,c5,rfl⟩:=Go.Joins.ownsRow_form own (by omega);rw [← HAL.out] at own ⊢; have O5:=Lib.hid own;have B5:=Lib.hid (B5'.out.grown hg B5'.out.size (fun j e=>(O5'.out.lt j e).1));have X5:=Lib.hid (X5'.out.grown hg (own_ne O5'.out X5'.out (by decide)));clear own hg hv)
  have LN:=Lib.hid (show (putA l nm v).Pairwise ltN from HF.out.2.1)
  refine (sort_any (L:=putA l nm v) g w.heap.size c5 W5 HF.out.1 HF.out.2.1 put_mem (by have:=HF.out.2.2.1;have:=HLL.out;omega) O5.out).mono ?_
  rintro e' w6 ⟨rfl,hrow,hlen,hg6⟩
  have B6:=Lib.hid (B5.out.grown hg6 B5.out.size (fun j e=>by cases e;exact (O5.out.lt g rfl).1))
  have X6:=Lib.hid (X5.out.grown hg6 (own_ne O5.out X5.out (by decide)))
  have R6:=Lib.hid hrow
  have HLN:=Lib.hid hlen
  clear hrow hlen hg6 X5 B5 O5
  rw [← HLN.out]
  go_wp2_with fail
  refine (row_any _ _ (putA l nm v) w6 (by have h1:=HF.out.2.2.1;have h2:=HLL.out;have h3:=HLN.out;omega) HTX.out R6.out).mono ?_
  rintro e' w7 ⟨rfl,hb7⟩
  have B7:=Lib.hid (B6.out.trans (hb7.mono B6.out.size))
  have X7:=Lib.hid (X6.out.below hb7 X6.out.lt)
  have x7:=X7.out.cell 11 rfl
  clear hb7 R6 X6 B6
  obtain ⟨r,hr⟩:∃ r:ByteArray,(⟨(rowA (putA l nm v)).toArray⟩:ByteArray)=r:=⟨_,rfl⟩
  have hrd:r.data.toList=rowA (putA l nm v):=by rw [← hr]
  have hrs:r.size=(rowA (putA l nm v)).length:=by rw [← hrd,dsize]
  have HBK:Hid (blkA (putA l nm v)=⟨(blockL r.data.toList).toArray⟩):=by show _=_;unfold blkA;rw [hrd]
  rw [← hrs] at HO
  rw [hr]
  clear hr hrd hrs
  by_cases h6:126<r.size
  case pos=>
   have h6':(126:Int)<(r.size:Int):=by omega
   rw [if_pos h6] at HO
   go_wp2
   go_ret2
   rw [HO.out]
   exact ⟨⟨_,rfl,own_nil _ _⟩,B7.out⟩
  have h6':¬ (126:Int)<(r.size:Int):=by omega
  rw [if_neg h6] at HO
  by_cases h7:a11=0
  case neg=>
   have h7':((a11:Int) != 0)=true:=by simpa using (by omega:¬ (a11:Int)=0)
   rw [if_pos h7,HBK.out] at HO
   have CC:=Lib.hid (changed_any A c xs a11 r w7 hx (HXL.out h7) (by omega) (row_keep HR.out B7.out B7.out.size))
   clear h6
   go_wp2_with fail
   refine CC.out.mono ?_
   rintro e' w8 ⟨⟨v8,rfl,hown⟩,hb8⟩
   have ON:=Lib.hid (own_low hown B7.out.size)
   have B8:=Lib.hid (B7.out.trans (hb8.mono B7.out.size))
   clear hown hb8 CC
   go_wp2
   go_ret2
   rw [HO.out]
   exact ⟨⟨_,rfl,ON.out⟩,B8.out⟩
  have h7':((a11:Int) != 0)=false:=by simpa using (by omega:(a11:Int)=0)
  rw [if_neg (fun h=>h h7)] at HO
  go_wp2_with fail
  refine (CT.out w7 (row_keep HR.out B7.out B7.out.size)).mono ?_
  rintro e' w8 ⟨⟨v8,rfl,hown⟩,hb8⟩
  have B8:=Lib.hid (B7.out.trans (hb8.mono B7.out.size))
  have X8:=Lib.hid (X7.out.below hb8 X7.out.lt)
  obtain ⟨A8,c8,rfl,hrow⟩:=OwnRow.read hown
  have O8:=Lib.hid hown
  clear hb8 X7 x7 B7 CT hrow hown
  by_cases h8:te=0
  case neg=>
   have h8':(te != 0)=true:=by simpa using h8
   rw [if_pos h8] at HO
   go_wp2
   go_ret2
   rw [HO.out]
   exact ⟨⟨_,rfl,own_nil _ _⟩,B8.out⟩
  subst h8
  rw [if_neg (by simp)] at HO
  have HLT:=Lib.hid (HTL.out rfl)
  have x8:=X8.out.cell 11 rfl
  have f8:=X8.out.frozen 11
  have X9:Hid (Blk (w8.setCell ⟨w1.heap.size,11,none⟩ (.int .i64 (tk:Nat))) w1.heap.size 39 #[.int .i64 a0,.int .i64 a1,.int .i64 a2,.int .i64 a3,.int .i64 a4,.int .i64 a5,.int .i64 a6,.int .i64 a7,.int .i64 a8,.int .i64 a9,.int .i64 a10,.int .i64 (tk:Nat)]):=X8.out.set_ 11 _
  have O9:Hid (OwnRow ys w7 (.slice A8 ys.length c8) (w8.setCell ⟨w1.heap.size,11,none⟩ (.int .i64 (tk:Nat)))):=World.ownsRow.kept O8.out (only_setCell (World.grownBy.refl w8 _) 11 _) (.inr (own_ne O8.out X8.out (by decide)).symm)
  have B9:Hid (Below w.heap.size w (w8.setCell ⟨w1.heap.size,11,none⟩ (.int .i64 (tk:Nat)))):=B8.out.setCell (p:=⟨w1.heap.size,11,none⟩) F1.out _
  go_wp2_with first
   | fail
   | (refine load_blk 39 (.tmp 10) w1.heap.size 39 #[.int .i64 a0,.int .i64 a1,.int .i64 a2,.int .i64 a3,.int .i64 a4,.int .i64 a5,.int .i64 a6,.int .i64 a7,.int .i64 a8,.int .i64 a9,.int .i64 a10,.int .i64 (tk:Nat)] _ rfl rfl rfl X9.out Tryz.underlying39 rfl (by kernel_rfl) ?_;go_frame)
  obtain ⟨A9,c9,he9,hr9⟩:=OwnRow.read O9.out
  cases he9
  refine (CU.out _ _ _ (by trivial) HLT.out.1 hr9).mono ?_
  rintro e' w10 ⟨⟨v10,rfl,hown⟩,hb10⟩
  have hz9:=B9.out.size
  have B10:=Lib.hid (B9.out.trans (hb10.mono hz9))
  obtain ⟨A10,c10,rfl,hrow⟩:=OwnRow.read hown
  have R10:=Lib.hid hrow
  clear hb10 hown hrow X9 O9 B9 x8 f8 X8 O8 B8 hr9 CU
  by_cases h9:pe=0
  case neg=>
   have h9':(pe != 0)=true:=by simpa using h9
   rw [if_pos h9] at HO
   go_wp2
   go_ret2
   rw [HO.out]
   exact ⟨⟨_,rfl,own_nil _ _⟩,B10.out⟩
  subst h9
  rw [if_neg (by simp),HBK.out] at HO
  have HPM:Hid (zs.length≤1000000∧tk<zs.length):=HPL.out HLT.out.2 (by trivial)
  go_wp2_with fail
  refine (changed_any _ _ zs tk r w10 HPM.out.1 HPM.out.2 (by omega) R10.out).mono ?_
  rintro e' w11 ⟨⟨v11,rfl,hown⟩,hb11⟩
  have hz:=B10.out.size
  have ON:=Lib.hid (own_low hown hz)
  have B11:=Lib.hid (B10.out.trans (hb11.mono hz))
  clear hown hb11
  go_wp2
  go_ret2
  rw [HO.out]
  exact ⟨⟨_,rfl,ON.out⟩,B11.out⟩
 ·subst hi
  rw [if_pos (by omega),Int.toNat_natCast] at HAD
  have HAC:Hid ((attC l).set (k * 2+1) (.string v)=attC (addA l nm v)):=by show _=_;rw [HAD.out];exact attC_set hk hkn
  have HAL:Hid (l.length=(addA l nm v).length):=by show _=_;rw [HAD.out,List.length_set]
  obtain ⟨g,c5,hvv⟩:=Go.Joins.ownsRow_form O4.out (by omega)
  cases hvv
  obtain ⟨o1,o2⟩:=World.ownsRow.stored O4.out (k * 2+1) (.string v)
  rw [HAC.out] at o1
  have d1:w4.cell? ⟨g,k * 2+1,none⟩=some (.string l[k].value):=by
   rw [O4.out.cellAt (k * 2+1) (by omega)]
   exact (attC_get hk).2
  have d2:w4.frozen? ⟨g,k * 2+1,none⟩=false:=O4.out.frozenAt (k * 2+1)
  generalize l[k].value=ov at d1
  obtain ⟨W5,hW5⟩:∃ W5,w4.setCell ⟨g,k * 2+1,none⟩ (.string v)=W5:=⟨_,rfl⟩
  rw [hW5,HAL.out] at o1
  rw [hW5] at o2
  have O5:=Lib.hid o1
  have B5:=Lib.hid (B4.out.grown o2 B4.out.size (fun j e=>(O4.out.lt j e).1))
  have X5:=Lib.hid (X4.out.grown o2 (own_ne O4.out X4.out (by decide)))
  have HW5:=Lib.hid hW5
  have i0:(0:Int)≤(k:Int):=by omega
  have i1:(k:Int)<(l.length:Int):=by omega
  clear o1 o2 hkn hW5
  go_wp2_with fail
  rw [HW5.out,HAL.out]
  clear HW5 d1 d2
  have LN:=Lib.hid (show (putA l nm v).Pairwise ltN from HF.out.2.1)
  refine (sort_any (L:=putA l nm v) g w.heap.size c3 W5 HF.out.1 HF.out.2.1 put_mem (by have:=HF.out.2.2.1;have:=HLL.out;omega) O5.out).mono ?_
  rintro e' w6 ⟨rfl,hrow,hlen,hg6⟩
  have B6:=Lib.hid (B5.out.grown hg6 B5.out.size (fun j e=>by cases e;exact (O5.out.lt g rfl).1))
  have X6:=Lib.hid (X5.out.grown hg6 (own_ne O5.out X5.out (by decide)))
  have R6:=Lib.hid hrow
  have HLN:=Lib.hid hlen
  clear hrow hlen hg6 X5 B5 O5
  rw [← HLN.out]
  go_wp2_with fail
  refine (row_any _ _ (putA l nm v) w6 (by have h1:=HF.out.2.2.1;have h2:=HLL.out;have h3:=HLN.out;omega) HTX.out R6.out).mono ?_
  rintro e' w7 ⟨rfl,hb7⟩
  have B7:=Lib.hid (B6.out.trans (hb7.mono B6.out.size))
  have X7:=Lib.hid (X6.out.below hb7 X6.out.lt)
  have x7:=X7.out.cell 11 rfl
  clear hb7 R6 X6 B6
  obtain ⟨r,hr⟩:∃ r:ByteArray,(⟨(rowA (putA l nm v)).toArray⟩:ByteArray)=r:=⟨_,rfl⟩
  have hrd:r.data.toList=rowA (putA l nm v):=by rw [← hr]
  have hrs:r.size=(rowA (putA l nm v)).length:=by rw [← hrd,dsize]
  have HBK:Hid (blkA (putA l nm v)=⟨(blockL r.data.toList).toArray⟩):=by show _=_;unfold blkA;rw [hrd]
  rw [← hrs] at HO
  rw [hr]
  clear hr hrd hrs
  by_cases h6:126<r.size
  case pos=>
   have h6':(126:Int)<(r.size:Int):=by omega
   rw [if_pos h6] at HO
   go_wp2
   go_ret2
   rw [HO.out]
   exact ⟨⟨_,rfl,own_nil _ _⟩,B7.out⟩
  have h6':¬ (126:Int)<(r.size:Int):=by omega
  rw [if_neg h6] at HO
  by_cases h7:a11=0
  case neg=>
   have h7':((a11:Int) != 0)=true:=by simpa using (by omega:¬ (a11:Int)=0)
   rw [if_pos h7,HBK.out] at HO
   have CC:=Lib.hid (changed_any A c xs a11 r w7 hx (HXL.out h7) (by omega) (row_keep HR.out B7.out B7.out.size))
   clear h6
   go_wp2_with fail
   refine CC.out.mono ?_
   rintro e' w8 ⟨⟨v8,rfl,hown⟩,hb8⟩
   have ON:=Lib.hid (own_low hown B7.out.size)
   have B8:=Lib.hid (B7.out.trans (hb8.mono B7.out.size))
   clear hown hb8 CC
   go_wp2
   go_ret2
   rw [HO.out]
   exact ⟨⟨_,rfl,ON.out⟩,B8.out⟩
  have h7':((a11:Int) != 0)=false:=by simpa using (by omega:(a11:Int)=0)
  rw [if_neg (fun h=>h h7)] at HO
  go_wp2_with fail
  refine (CT.out w7 (row_keep HR.out B7.out B7.out.size)).mono ?_
  rintro e' w8 ⟨⟨v8,rfl,hown⟩,hb8⟩
  have B8:=Lib.hid (B7.out.trans (hb8.mono B7.out.size))
  have X8:=Lib.hid (X7.out.below hb8 X7.out.lt)
  obtain ⟨A8,c8,rfl,hrow⟩:=OwnRow.read hown
  have O8:=Lib.hid hown
  clear hb8 X7 x7 B7 CT hrow hown
  by_cases h8:te=0
  case neg=>
   have h8':(te != 0)=true:=by simpa using h8
   rw [if_pos h8] at HO
   go_wp2
   go_ret2
   rw [HO.out]
   exact ⟨⟨_,rfl,own_nil _ _⟩,B8.out⟩
  subst h8
  rw [if_neg (by simp)] at HO
  have HLT:=Lib.hid (HTL.out rfl)
  have x8:=X8.out.cell 11 rfl
  have f8:=X8.out.frozen 11
  have X9:Hid (Blk (w8.setCell ⟨w1.heap.size,11,none⟩ (.int .i64 (tk:Nat))) w1.heap.size 39 #[.int .i64 a0,.int .i64 a1,.int .i64 a2,.int .i64 a3,.int .i64 a4,.int .i64 a5,.int .i64 a6,.int .i64 a7,.int .i64 a8,.int .i64 a9,.int .i64 a10,.int .i64 (tk:Nat)]):=X8.out.set_ 11 _
  have O9:Hid (OwnRow ys w7 (.slice A8 ys.length c8) (w8.setCell ⟨w1.heap.size,11,none⟩ (.int .i64 (tk:Nat)))):=World.ownsRow.kept O8.out (only_setCell (World.grownBy.refl w8 _) 11 _) (.inr (own_ne O8.out X8.out (by decide)).symm)
  have B9:Hid (Below w.heap.size w (w8.setCell ⟨w1.heap.size,11,none⟩ (.int .i64 (tk:Nat)))):=B8.out.setCell (p:=⟨w1.heap.size,11,none⟩) F1.out _
  go_wp2_with first
   | fail
   | (refine load_blk 39 (.tmp 10) w1.heap.size 39 #[.int .i64 a0,.int .i64 a1,.int .i64 a2,.int .i64 a3,.int .i64 a4,.int .i64 a5,.int .i64 a6,.int .i64 a7,.int .i64 a8,.int .i64 a9,.int .i64 a10,.int .i64 (tk:Nat)] _ rfl rfl rfl X9.out Tryz.underlying39 rfl (by kernel_rfl) ?_;go_frame)
  obtain ⟨A9,c9,he9,hr9⟩:=OwnRow.read O9.out
  cases he9
  refine (CU.out _ _ _ (by trivial) HLT.out.1 hr9).mono ?_
  rintro e' w10 ⟨⟨v10,rfl,hown⟩,hb10⟩
  have hz9:=B9.out.size
  have B10:=Lib.hid (B9.out.trans (hb10.mono hz9))
  obtain ⟨A10,c10,rfl,hrow⟩:=OwnRow.read hown
  have R10:=Lib.hid hrow
  clear hb10 hown hrow X9 O9 B9 x8 f8 X8 O8 B8 hr9 CU
  by_cases h9:pe=0
  case neg=>
   have h9':(pe != 0)=true:=by simpa using h9
   rw [if_pos h9] at HO
   go_wp2
   go_ret2
   rw [HO.out]
   exact ⟨⟨_,rfl,own_nil _ _⟩,B10.out⟩
  subst h9
  rw [if_neg (by simp),HBK.out] at HO
  have HPM:Hid (zs.length≤1000000∧tk<zs.length):=HPL.out HLT.out.2 (by trivial)
  go_wp2_with fail
  refine (changed_any _ _ zs tk r w10 HPM.out.1 HPM.out.2 (by omega) R10.out).mono ?_
  rintro e' w11 ⟨⟨v11,rfl,hown⟩,hb11⟩
  have hz:=B10.out.size
  have ON:=Lib.hid (own_low hown hz)
  have B11:=Lib.hid (B10.out.trans (hb11.mono hz))
  clear hown hb11
  go_wp2
  go_ret2
  rw [HO.out]
  exact ⟨⟨_,rfl,ON.out⟩,B11.out⟩
end Go.Proofs.YtdldlendppkknaaGreatDoor
