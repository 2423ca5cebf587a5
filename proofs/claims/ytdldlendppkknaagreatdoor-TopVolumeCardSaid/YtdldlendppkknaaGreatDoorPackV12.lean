/-
  Contracts and plain laws: ExtO, ExtW.
-/
import Derived.Test.YtdldlendppkknaaGreatDoorPackV11
namespace Go.Proofs.YtdldlendppkknaaGreatDoor
open Go.RowKit
set_option linter.unusedVariables false
set_option linter.unusedSimpArgs false
set_option maxRecDepth 100000
theorem exec_append {P:Program} {ρ:Operand→Value} {o:Oper} {w w':World} {sl x:Operand} {t u:TypeId} {v y v':Value} (ho:o.op=.call { callee:=.builtin .append,args:=#[sl,x],argTypes:=#[t,u] }) (hs:ρ sl=v) (hx:ρ x=y)
  (hr:(Builtin.append_ #[t,u] o.type #[v,y]).run P w=.ok v' w'):(execOp ρ o).run P w=.ok (.value v') w':=by
 unfold execOp
 simp only [ho,resolve,invoke,builtin,Sem.run_bind,Sem.run_pure,Result.andThen_ok,List.map_toArray,List.map_cons,List.map_nil,hs,hx,hr]
def fileZ:Array Value:=#[.slice none 0 0,.int .i64 0,.int .i64 0,.int .i64 0,.int .i64 0,.int .i64 0,.int .i64 0,.int .i64 0,.int .i64 0,.int .i64 0,.int .i64 0,.int .i64 0,.int .i64 0,.int .i64 0,.int .i64 0,.int .i64 0,.int .i64 0,.int .i64 0,.int .i64 0,.int .i64 0]
theorem fileZ_one:∀ v ∈ fileZ,v.oneCell'=true:=by intro v hv;unfold fileZ at hv;simp at hv;rcases hv with rfl | rfl <;> rfl
theorem fileC_one (A:Option Addr) (k c:Nat) (b m n:Nat) (l:List Nat):∀ v ∈ fileC (.slice A k c) b m n l,v.oneCell'=true:=by
 intro v hv
 unfold fileC fileL at hv
 simp at hv
 rcases hv with rfl | rfl | rfl | rfl | rfl | rfl | rfl | rfl | ⟨_,_,rfl⟩ <;> rfl
def OpenPost (xs:List ByteArray) (n:Int) (w:World) (e:Ending) (w':World):Prop:=Below w.heap.size w w' ∧
 if inoE xs n=0 then ∃ gv c,e=.returned (.tuple #[.agg (fileC (.slice (some ⟨gv,0,none⟩) xs.length c) xs.length (mO xs) n.toNat (getR xs n)),.int .i64 0])∧w'.ownsRow w.heap.size 9 1 (.slice (some ⟨gv,0,none⟩) xs.length c) xs.length (xs.map .string)
 else e=.returned (.tuple #[.agg fileZ,.int .i64 (inoE xs n)])
set_option maxHeartbeats 4000000 in
theorem opened_any (A:Option Addr) (c:Nat) (xs:List ByteArray) (n:Int) (w:World) (hx:xs.length≤1000000) (h:RowAt w w.heap.size A (xs.map .string)) :
  Calls Tryz.prog 56 #[.slice A xs.length c,.int .i64 n] w (OpenPost xs n w):=by
 have B0:Hid (Below w.heap.size w (w.alloc (.cells fileZ 112))):=(Below.refl _ _).alloc (Nat.le_refl _) _
 have R0:Hid (RowAt (w.alloc (.cells fileZ 112)) (w.alloc (.cells fileZ 112)).heap.size A (xs.map .string)):=(h.below B0.out).mono (by simp)
 have HR:=Lib.hid h
 have CG:=Lib.hid (fun w h=>get_ino A c xs n w hx h)
 obtain ⟨a0,a1,a2,a3,a4,a5,a6,a7,a8,a9,a10,a11,hg⟩:=len12 (getR_len xs n)
 have HG:=Lib.hid hg
 rw [hg] at CG
 clear h hg
 unfold inoC at CG
 simp only [List.map_cons,List.map_nil] at CG
 by_cases h0:inoE xs n=0
 ·obtain ⟨m,k,hv,rfl,hk1,hk2,hk3⟩:=inoE_ok h0
  have hl:=hv.len
  have HM:=Lib.hid (mO_vol hv)
  have H0:=Lib.hid h0
  rw [h0] at CG
  have CO:=Lib.hid (fun w h=>of_any A c xs w hx h)
  unfold OfPost ofE at CO
  rw [ofR_some.2 hv] at CO
  dsimp only at CO
  obtain ⟨i0,q1,q2,q3,q4⟩:=info_parts str_info
  have I0:=Lib.hid (And.intro q1 (And.intro q2 (And.intro q3 q4)))
  clear q1 q2 q3 q4 h0 hk3 hv
  go_enter Tryz.func56,Tryz.ntmps56
  go_wp2_with fail
  refine (CG.out _ R0.out).mono ?_
  rintro e w1 ⟨rfl,hb1⟩
  have B1:=Lib.hid (B0.out.trans (hb1.mono (by simp)))
  have G4:Hid (Blk w1 w.heap.size 112 fileZ):=(Blk.new w _ _).below hb1 (by simp)
  have hlt1:=G4.out.lt
  have B2:=Lib.hid (B1.out.alloc B1.out.size (.cells #[.int .i64 (a0:Int),.int .i64 (a1:Int),.int .i64 (a2:Int),.int .i64 (a3:Int),.int .i64 (a4:Int),.int .i64 (a5:Int),.int .i64 (a6:Int),.int .i64 (a7:Int),.int .i64 (a8:Int),.int .i64 (a9:Int),.int .i64 (a10:Int),.int .i64 (a11:Int)] 39))
  have G5:=Lib.hid (G4.out.alloc (.cells #[.int .i64 (a0:Int),.int .i64 (a1:Int),.int .i64 (a2:Int),.int .i64 (a3:Int),.int .i64 (a4:Int),.int .i64 (a5:Int),.int .i64 (a6:Int),.int .i64 (a7:Int),.int .i64 (a8:Int),.int .i64 (a9:Int),.int .i64 (a10:Int),.int .i64 (a11:Int)] 39))
  have GI:=Lib.hid (Blk.new w1 39 #[.int .i64 (a0:Int),.int .i64 (a1:Int),.int .i64 (a2:Int),.int .i64 (a3:Int),.int .i64 (a4:Int),.int .i64 (a5:Int),.int .i64 (a6:Int),.int .i64 (a7:Int),.int .i64 (a8:Int),.int .i64 (a9:Int),.int .i64 (a10:Int),.int .i64 (a11:Int)])
  have R2:=Lib.hid ((HR.out.below B2.out).mono B2.out.size)
  clear hb1 B0 R0 CG
  go_wp2_with fail
  refine (CO.out _ R2.out).mono ?_
  rintro e w2 ⟨rfl,hb2⟩
  have B3:=Lib.hid (B2.out.trans (hb2.mono B2.out.size))
  have G6:=Lib.hid (G5.out.below hb2 G5.out.lt)
  have GI2:=Lib.hid (GI.out.below hb2 GI.out.lt)
  have hz1:=B1.out.size
  have hz3:=B3.out.size
  clear hb2 CO G5 GI B2 R2
  generalize hri:w1.heap.size=ri at *
  clear hri
  go_wp2_with fail
  have GG:=Lib.hid (Blk.new w2 51 #[.int .i64 (xs.length:Int),.int .i64 (m:Int),.int .i64 1,.int .i64 2,.int .i64 3,.int .i64 (dataN m:Int)])
  have B4:=Lib.hid (B3.out.alloc hz3 (.cells #[.int .i64 (xs.length:Int),.int .i64 (m:Int),.int .i64 1,.int .i64 2,.int .i64 3,.int .i64 (dataN m:Int)] 51))
  have G7:=Lib.hid (G6.out.alloc (.cells #[.int .i64 (xs.length:Int),.int .i64 (m:Int),.int .i64 1,.int .i64 2,.int .i64 3,.int .i64 (dataN m:Int)] 51))
  have GI3:=Lib.hid (GI2.out.alloc (.cells #[.int .i64 (xs.length:Int),.int .i64 (m:Int),.int .i64 1,.int .i64 2,.int .i64 3,.int .i64 (dataN m:Int)] 51))
  generalize w2.alloc _=w4 at *
  generalize w2.heap.size=rg at *
  clear G6 GI2 B3 hz3
  have HC:Hid (∀ wb,Below w4.heap.size w4 wb→∃ X w',(Builtin.append_ #[24,24] 24 #[.slice none 0 0,.slice A xs.length c]).run Tryz.prog wb=.ok X w'∧(∃ gv cv,X=.slice (some ⟨gv,0,none⟩) xs.length cv∧w'.ownsRow w.heap.size 9 1 (.slice (some ⟨gv,0,none⟩) xs.length cv) xs.length (xs.map .string))∧Below wb.heap.size wb w'):=fun wb hwb=>by
   have hB:=B4.out.trans (hwb.mono B4.out.size)
   obtain ⟨b,o,rfl,hb,hc⟩:=HR.out.at_ (by simp;omega)
   obtain ⟨v',w',hr,own,hg,_⟩:=run_append_own (P:=Tryz.prog) (w:=wb) w.heap.size 24 24 9 i0 (.string ⟨#[]⟩) 1 16 Tryz.underlying24 I0.out.1 I0.out.2.1 I0.out.2.2.1 I0.out.2.2.2 rfl (by decide) (.slice none 0 0) 0 [] (World.ownsRow_nil _ _ _ _) ⟨b,o,none⟩ xs.length c (xs.map .string) (by rw [List.length_map,Nat.mul_one]) (fun j u hu=>by
    have:(⟨b,o,none⟩:Addr).add j=⟨b,o+j,none⟩:=by unfold Addr.add;split <;> simp_all
    rw [this];exact (hB.cell (p:=⟨b,o+j,none⟩) hb).trans (hc j u hu)) (str_cells xs) (by unfold maxLen;omega) (by omega) hB.size
   rw [Nat.zero_add,List.nil_append] at own
   obtain ⟨gv,cv,rfl⟩:=Go.Joins.ownsRow_form own (by omega)
   refine ⟨_,w',hr,⟨gv,cv,rfl,own⟩,(Below.refl _ _).grown hg (Nat.le_refl _) (by intro k hk;cases hk)⟩
  apply wp_region_free (a2:={ tmps:=#[.slice A xs.length c,.int .i64 (k:Int),undef,undef,.pointer (some ⟨w.heap.size,0,none⟩),.int .i64 0,.pointer (some ⟨ri,0,none⟩),.int .i64 0,.pointer (some ⟨rg,0,none⟩),.tuple #[.agg #[.int .i64 (a0:Int),.int .i64 (a1:Int),.int .i64 (a2:Int),.int .i64 (a3:Int),.int .i64 (a4:Int),.int .i64 (a5:Int),.int .i64 (a6:Int),.int .i64 (a7:Int),.int .i64 (a8:Int),.int .i64 (a9:Int),.int .i64 (a10:Int),.int .i64 (a11:Int)],.int .i64 0],.slice A xs.length c,.int .i64 (k:Int),.tuple #[.agg #[.int .i64 (a0:Int),.int .i64 (a1:Int),.int .i64 (a2:Int),.int .i64 (a3:Int),.int .i64 (a4:Int),.int .i64 (a5:Int),.int .i64 (a6:Int),.int .i64 (a7:Int),.int .i64 (a8:Int),.int .i64 (a9:Int),.int .i64 (a10:Int),.int .i64 (a11:Int)],.int .i64 0],.agg #[.int .i64 (a0:Int),.int .i64 (a1:Int),.int .i64 (a2:Int),.int .i64 (a3:Int),.int .i64 (a4:Int),.int .i64 (a5:Int),.int .i64 (a6:Int),.int .i64 (a7:Int),.int .i64 (a8:Int),.int .i64 (a9:Int),.int .i64 (a10:Int),.int .i64 (a11:Int)],.int .i64 0,.int .i64 0,.bool false,undef,undef,.tuple #[.agg #[.int .i64 (xs.length:Int),.int .i64 (m:Int),.int .i64 1,.int .i64 2,.int .i64 3,.int .i64 (dataN m:Int)],.int .i64 0],.slice A xs.length c,.tuple #[.agg #[.int .i64 (xs.length:Int),.int .i64 (m:Int),.int .i64 1,.int .i64 2,.int .i64 3,.int .i64 (dataN m:Int)],.int .i64 0],.agg #[.int .i64 (xs.length:Int),.int .i64 (m:Int),.int .i64 1,.int .i64 2,.int .i64 3,.int .i64 (dataN m:Int)],.int .i64 0,.int .i64 0,.bool false,undef,undef,.slice A xs.length c,undef,.agg #[.int .i64 (xs.length:Int),.int .i64 (m:Int),.int .i64 1,.int .i64 2,.int .i64 3,.int .i64 (dataN m:Int)],.int .i64 (k:Int),.agg #[.int .i64 (a0:Int),.int .i64 (a1:Int),.int .i64 (a2:Int),.int .i64 (a3:Int),.int .i64 (a4:Int),.int .i64 (a5:Int),.int .i64 (a6:Int),.int .i64 (a7:Int),.int .i64 (a8:Int),.int .i64 (a9:Int),.int .i64 (a10:Int),.int .i64 (a11:Int)],undef],defers:=[] }) 1 0 3 29 _ (fun X w'=>∃ gv cv,X=.slice (some ⟨gv,0,none⟩) xs.length cv∧w'.ownsRow w.heap.size 9 1 (.slice (some ⟨gv,0,none⟩) xs.length cv) xs.length (xs.map .string)) (by kernel_rfl) (by kernel_rfl) rfl
  case hΦ=>
   rintro X u u' ⟨gv,cv,rfl,ho⟩ hu
   exact ⟨gv,cv,rfl,own_below ho hu⟩
  case W1=>
   intro wb hwb
   unfold ExtC
   simp only [List.take_succ_cons,List.take_zero,List.drop_succ_cons,List.drop_zero]
   repeat (go_big_quiet_step (fail))
   exact wpQuiet_nil rfl
  case MK=>
   intro wb hwb
   obtain ⟨X,w',hr,hX,hb⟩:=HC.out wb hwb
   exact ⟨X,w',exec_append rfl rfl rfl hr,hX,hb⟩
  case UM=>
   intro X wb hwb hX
   exact wpQuiet_nil rfl
  case W2=>
   intro X wb hwb
   have g1:=Lib.hid (GG.out.below hwb GG.out.lt)
   have g2:=Lib.hid (GI3.out.below hwb GI3.out.lt)
   unfold ExtC
   simp only [List.take_succ_cons,List.take_zero,List.drop_succ_cons,List.drop_zero]
   go_frame
   repeat (first
    | (go_big_quiet_want;refine quiet_load_blk 51 (.tmp 8) rg 51 #[.int .i64 (xs.length:Int),.int .i64 (m:Int),.int .i64 1,.int .i64 2,.int .i64 3,.int .i64 (dataN m:Int)] _ rfl rfl (by rintro _ ⟨u,rfl⟩;exact g1.out.below u.below g1.out.lt) Tryz.underlying51 rfl (by kernel_rfl) ?_;go_frame;go_big_quiet_on)
    | (go_big_quiet_want;refine quiet_load_blk 39 (.tmp 6) ri 39 #[.int .i64 (a0:Int),.int .i64 (a1:Int),.int .i64 (a2:Int),.int .i64 (a3:Int),.int .i64 (a4:Int),.int .i64 (a5:Int),.int .i64 (a6:Int),.int .i64 (a7:Int),.int .i64 (a8:Int),.int .i64 (a9:Int),.int .i64 (a10:Int),.int .i64 (a11:Int)] _ rfl rfl (by rintro _ ⟨u,rfl⟩;exact g2.out.below u.below g2.out.lt) Tryz.underlying39 rfl (by kernel_rfl) ?_;go_frame;go_big_quiet_on)
    | go_big_quiet_step (fail))
   exact wpQuiet_nil rfl
  rintro X w5 hb5 ⟨gv,cv,rfl,ho⟩
  have G8:=Lib.hid (G7.out.below hb5 G7.out.lt)
  have B5:=Lib.hid (B4.out.trans (hb5.mono B4.out.size))
  have O5:=Lib.hid ho
  clear hb5 ho
  simp only [List.take_succ_cons,List.take_zero,List.drop_succ_cons,List.drop_zero]
  go_wp2_with (refine store_blk 112 (.tmp 4) (.tmp 33) w.heap.size 112 fileZ (fileC (.slice (some ⟨gv,0,none⟩) xs.length cv) xs.length m k [a0,a1,a2,a3,a4,a5,a6,a7,a8,a9,a10,a11]) rfl rfl rfl rfl G8.out rfl (by kernel_rfl) (fileC_one _ _ _ _ _ _ _) ?_;intro w6 hr6 hg6)
  refine bodyPost_ret (results_ct rfl rfl rfl hr6 Tryz.underlying112 rfl (by kernel_rfl)) rfl ⟨?_,?_⟩
  ·exact B5.out.grown hg6 B5.out.size (fun k e=>by cases e;exact Nat.le_refl _)
  ·rw [if_pos H0.out,HM.out,HG.out,Int.toNat_natCast]
   exact ⟨gv,cv,rfl,O5.out.kept hg6 (.inr (by
    have:=own_ne O5.out G8.out (by decide)
    intro e;exact this e.symm))⟩
 ·have HG0:Hid (getR xs n=List.replicate 12 0):=by show _=_;unfold getR;rw [if_neg h0]
  have hn0:(inoE xs n != 0)=true:=by simpa using h0
  have H0:=Lib.hid h0
  generalize hie:inoE xs n=ie at *
  have HIE:=Lib.hid hie
  clear h0 hie HG HG0
  go_enter Tryz.func56,Tryz.ntmps56
  go_wp2_with fail
  refine (CG.out _ R0.out).mono ?_
  rintro e w1 ⟨rfl,hb1⟩
  have B1:=Lib.hid (B0.out.trans (hb1.mono (by simp)))
  have G4:Hid (Blk w1 w.heap.size 112 fileZ):=(Blk.new w _ _).below hb1 (by simp)
  have hlt1:=G4.out.lt
  have hz1:=B1.out.size
  clear hb1 B0 R0 CG
  go_wp2_with (refine store_blk 112 (.tmp 4) (.tmp 17) w.heap.size 112 fileZ fileZ rfl rfl rfl rfl (G4.out.alloc _) rfl (by kernel_rfl) fileZ_one ?_;intro w6 hr6 hg6)
  refine bodyPost_ret (results_ct rfl rfl rfl hr6 Tryz.underlying112 rfl (by kernel_rfl)) rfl ⟨?_,?_⟩
  ·exact (B1.out.alloc hz1 _).grown hg6 (by simp;omega) (fun k e=>by cases e;exact Nat.le_refl _)
  ·rw [HIE.out,if_neg H0.out];rfl
theorem wriN_none {kp:Kp} {m off:Nat} {d:List UInt8} {s:List ByteArray × List Nat} {j:Nat} (h:wriN kp m off d s j=none):∀ i,wriN kp m off d s (j+i)=none
 | 0=>h
 | i+1=>by rw [← Nat.add_assoc,wriN,wriN_none h i];rfl
theorem OpenPost.file {xs:List ByteArray} {m k:Nat} {w w' w2:World} {gv c g:Nat} (hv:IsVol xs m) (h1:1≤k) (h2:k≤m) (hl:w.heap.size≤g)
  (hb:Blk w2 g 112 (fileC (.slice (some ⟨gv,0,none⟩) xs.length c) xs.length (mO xs) (k:Int).toNat (getR xs (k:Int))))
  (ho:w2.ownsRow w.heap.size 9 1 (.slice (some ⟨gv,0,none⟩) xs.length c) xs.length (xs.map .string)):FileX w.heap.size w2 g m k xs (getR xs (k:Int)):=by
 rw [mO_vol hv,Int.toNat_natCast] at hb
 refine ⟨gv,c,hl,hb,ho,hv,?_,h1,h2⟩
 rw [getR_vol hv h1 h2]
 exact inoR_fit _ _
def atW (off en j:Nat):Nat:=min en (max off (128 * (off / 128+j)))
theorem piece_cut {off j:Nat} {d:ByteArray} (hj:j<fallN off d.size) :
  atW off (off+d.size) j<off+d.size∧atW off (off+d.size) j / 128=off / 128+j∧atW off (off+d.size) j % 128=off-128 * (off / 128+j)∧off≤atW off (off+d.size) j ∧
  atW off (off+d.size) j+min (128-atW off (off+d.size) j % 128) (off+d.size-atW off (off+d.size) j)=atW off (off+d.size) (j+1) ∧
  (d.extract (atW off (off+d.size) j-off) (atW off (off+d.size) j-off+min (128-atW off (off+d.size) j % 128) (off+d.size-atW off (off+d.size) j))).data.toList
   = (d.data.toList.drop (128 * (off / 128+j)-off)).take (128-(off-128 * (off / 128+j))):=by
 have hd0:d.size≠0:=by intro e;unfold fallN at hj;rw [if_pos e] at hj;omega
 have hdl:d.data.toList.length=d.size:=by rw [Array.length_toList];rfl
 unfold fallN at hj
 rw [if_neg hd0] at hj
 have ha:atW off (off+d.size) j=max off (128 * (off / 128+j)):=by unfold atW;omega
 have h2:atW off (off+d.size) j<off+d.size:=by rw [ha];omega
 have h3:atW off (off+d.size) j / 128=off / 128+j:=by rw [ha];omega
 have h4:atW off (off+d.size) j % 128=off-128 * (off / 128+j):=by rw [ha];omega
 have h5:off≤atW off (off+d.size) j:=by rw [ha];omega
 refine ⟨h2,h3,h4,h5,?_,?_⟩
 ·rw [h4,ha];unfold atW;omega
 ·rw [Lib.extract_data,Nat.add_sub_cancel_left,h4,ha]
  rw [show max off (128 * (off / 128+j))-off=128 * (off / 128+j)-off by omega]
  apply List.ext_getElem?
  intro i
  rw [List.getElem?_take,List.getElem?_take,List.getElem?_drop]
  by_cases hi:i<128-(off-128 * (off / 128+j))
  ·rw [if_pos hi]
   by_cases hi2:i<min (128-(off-128 * (off / 128+j))) (off+d.size-max off (128 * (off / 128+j)))
   ·rw [if_pos hi2]
   ·rw [if_neg hi2,List.getElem?_eq_none (by omega)]
  ·rw [if_neg hi,if_neg (by omega)]
theorem atW_end {off:Nat} {d:ByteArray}:¬ atW off (off+d.size) (fallN off d.size)<off+d.size:=by
 unfold atW fallN
 split <;> omega
theorem atW_zero (off k:Nat):atW off (off+k) 0=off:=by unfold atW;omega
set_option maxHeartbeats 8000000 in
theorem write_neg (A:Option Addr) (c:Nat) (xs:List ByteArray) (n off:Int) (d:ByteArray) (w:World) (hx:xs.length≤1000000) (hoff:-9223372036854775808≤off∧off≤9223372036854775807) (hd:d.size≤140737488355328) (h:RowAt w w.heap.size A (xs.map .string)) (h0:inoE xs n=0) (hneg:off<0) :
  Calls Tryz.prog 46 #[.slice A xs.length c,.int .i64 n,.int .i64 off,.string d] w (RowCode (writeO xs n off d.data.toList).1 (writeO xs n off d.data.toList).2 w):=by
 have hdl:d.data.toList.length=d.size:=by rw [Array.length_toList];rfl
 have CO:=Lib.hid (opened_any A c xs n w hx h)
 unfold OpenPost at CO
 simp only [if_pos h0] at CO
 obtain ⟨m,k,hv,rfl,hk1,hk2,hk3⟩:=inoE_ok h0
 have hvl:=hv.len
 have HV:=Lib.hid hv
 have HO:Hid (∀ g w2 gv c,w.heap.size≤g→Blk w2 g 112 (fileC (.slice (some ⟨gv,0,none⟩) xs.length c) xs.length (mO xs) (k:Int).toNat (getR xs (k:Int)))→w2.ownsRow w.heap.size 9 1 (.slice (some ⟨gv,0,none⟩) xs.length c) xs.length (xs.map .string)→FileX w.heap.size w2 g m k xs (getR xs (k:Int))):=fun g w2 gv c a b c'=>OpenPost.file (w':=w) hv hk1 hk2 a b c'
 have HL:Hid ((fileC (.slice none 0 0) xs.length (mO xs) (k:Int).toNat (getR xs (k:Int))).size=20):=fileC_size _ _ _ _ _ (getR_len _ _)
 have HLL:Hid (∀ sl,(fileC sl xs.length (mO xs) (k:Int).toNat (getR xs (k:Int))).size=20):=fun sl=>fileC_size _ _ _ _ _ (getR_len _ _)
 have HOK:Hid (OkS xs.length m (xs,getR xs (k:Int))):=⟨hv,rfl,by rw [getR_vol hv hk1 hk2];exact inoR_fit _ _⟩
 have HPS:Hid (putV xs k (getR xs (k:Int))=xs):=by show _=_;rw [getR_vol hv hk1 hk2];exact putV_self hv hk1 hk2
 have HW0:Hid (writeO xs (k:Int) off d.data.toList=if off<0 then (([],1):List ByteArray × Int) else if 8960<off∨8960<off+d.size then ([],6)
  else match wriG noK xs m (getR xs k) off.toNat d.data.toList with
   | none=>([],10)
   | some s=>(putV s.1 k s.2,0)):=by
  show _=_
  unfold writeO
  rw [if_neg (by rw [h0];simp),mO_vol hv,hdl,Int.toNat_natCast]
  rfl
 clear h0 hk3 hv
 rw [if_pos hneg] at HW0
 go_enter Tryz.func46,Tryz.ntmps46
 go_wp2_with fail
 refine CO.out.mono ?_
 rintro e w1 ⟨hb1,gv,cv,rfl,ho⟩
 have B1:=Lib.hid hb1
 have O1:=Lib.hid ho
 have hz1:=hb1.size
 clear hb1 ho CO
 go_wp2_with (refine store_blk 112 (.tmp 10) (.tmp 23) w1.heap.size 112 fileZ (fileC (.slice (some ⟨gv,0,none⟩) xs.length cv) xs.length (mO xs) (k:Int).toNat (getR xs (k:Int))) rfl rfl rfl rfl (Blk.new w1 _ _) (by rw [HLL.out];rfl) (by rw [HLL.out];kernel_rfl) (fileC_one _ _ _ _ _ _ _) ?_;intro w2 hr2 hg2)
 have hgg:w.heap.size≤w1.heap.size:=hz1
 have FX:Hid (FileX w.heap.size w2 w1.heap.size m k xs (getR xs (k:Int))):=HO.out _ _ gv cv hz1 hr2 (by
  refine (O1.out.alloc _).kept hg2 (.inr ?_)
  have:=own_ne (O1.out.alloc _) (Blk.new w1 112 fileZ) (by decide)
  intro e;exact this e.symm)
 have BW:Hid (Below w.heap.size w w2):=(B1.out.alloc hz1 _).grown hg2 (by simp;omega) (fun k e=>by cases e;exact hz1)
 go_ret2
 rw [HW0.out]
 exact ⟨⟨_,rfl,own_nil _ _⟩,BW.out⟩
set_option maxHeartbeats 8000000 in
theorem write_big (A:Option Addr) (c:Nat) (xs:List ByteArray) (n off:Int) (d:ByteArray) (w:World) (hx:xs.length≤1000000) (hoff:-9223372036854775808≤off∧off≤9223372036854775807) (hd:d.size≤140737488355328) (h:RowAt w w.heap.size A (xs.map .string)) (h0:inoE xs n=0) (hneg:¬ off<0) (hbig:8960<off∨8960<off+d.size) :
  Calls Tryz.prog 46 #[.slice A xs.length c,.int .i64 n,.int .i64 off,.string d] w (RowCode (writeO xs n off d.data.toList).1 (writeO xs n off d.data.toList).2 w):=by
 have hdl:d.data.toList.length=d.size:=by rw [Array.length_toList];rfl
 have CO:=Lib.hid (opened_any A c xs n w hx h)
 unfold OpenPost at CO
 simp only [if_pos h0] at CO
 obtain ⟨m,k,hv,rfl,hk1,hk2,hk3⟩:=inoE_ok h0
 have hvl:=hv.len
 have HV:=Lib.hid hv
 have HO:Hid (∀ g w2 gv c,w.heap.size≤g→Blk w2 g 112 (fileC (.slice (some ⟨gv,0,none⟩) xs.length c) xs.length (mO xs) (k:Int).toNat (getR xs (k:Int)))→w2.ownsRow w.heap.size 9 1 (.slice (some ⟨gv,0,none⟩) xs.length c) xs.length (xs.map .string)→FileX w.heap.size w2 g m k xs (getR xs (k:Int))):=fun g w2 gv c a b c'=>OpenPost.file (w':=w) hv hk1 hk2 a b c'
 have HL:Hid ((fileC (.slice none 0 0) xs.length (mO xs) (k:Int).toNat (getR xs (k:Int))).size=20):=fileC_size _ _ _ _ _ (getR_len _ _)
 have HLL:Hid (∀ sl,(fileC sl xs.length (mO xs) (k:Int).toNat (getR xs (k:Int))).size=20):=fun sl=>fileC_size _ _ _ _ _ (getR_len _ _)
 have HOK:Hid (OkS xs.length m (xs,getR xs (k:Int))):=⟨hv,rfl,by rw [getR_vol hv hk1 hk2];exact inoR_fit _ _⟩
 have HPS:Hid (putV xs k (getR xs (k:Int))=xs):=by show _=_;rw [getR_vol hv hk1 hk2];exact putV_self hv hk1 hk2
 have HW0:Hid (writeO xs (k:Int) off d.data.toList=if off<0 then (([],1):List ByteArray × Int) else if 8960<off∨8960<off+d.size then ([],6)
  else match wriG noK xs m (getR xs k) off.toNat d.data.toList with
   | none=>([],10)
   | some s=>(putV s.1 k s.2,0)):=by
  show _=_
  unfold writeO
  rw [if_neg (by rw [h0];simp),mO_vol hv,hdl,Int.toNat_natCast]
  rfl
 clear h0 hk3 hv
 obtain ⟨o,rfl⟩:=Int.eq_ofNat_of_zero_le (show 0≤off by omega)
 rw [if_neg hneg,Int.toNat_natCast] at HW0
 have g0:decide ((o:Int)<0)=false:=by simp
 rw [if_pos hbig] at HW0
 by_cases hb1:8960<(o:Int)
 ·clear hneg hbig
  go_enter Tryz.func46,Tryz.ntmps46
  go_wp2_with fail
  refine CO.out.mono ?_
  rintro e w1 ⟨hb1,gv,cv,rfl,ho⟩
  have B1:=Lib.hid hb1
  have O1:=Lib.hid ho
  have hz1:=hb1.size
  clear hb1 ho CO
  go_wp2_with (refine store_blk 112 (.tmp 10) (.tmp 23) w1.heap.size 112 fileZ (fileC (.slice (some ⟨gv,0,none⟩) xs.length cv) xs.length (mO xs) (k:Int).toNat (getR xs (k:Int))) rfl rfl rfl rfl (Blk.new w1 _ _) (by rw [HLL.out];rfl) (by rw [HLL.out];kernel_rfl) (fileC_one _ _ _ _ _ _ _) ?_;intro w2 hr2 hg2)
  have hgg:w.heap.size≤w1.heap.size:=hz1
  have FX:Hid (FileX w.heap.size w2 w1.heap.size m k xs (getR xs (k:Int))):=HO.out _ _ gv cv hz1 hr2 (by
   refine (O1.out.alloc _).kept hg2 (.inr ?_)
   have:=own_ne (O1.out.alloc _) (Blk.new w1 112 fileZ) (by decide)
   intro e;exact this e.symm)
  have BW:Hid (Below w.heap.size w w2):=(B1.out.alloc hz1 _).grown hg2 (by simp;omega) (fun k e=>by cases e;exact hz1)
  go_ret2
  rw [HW0.out]
  exact ⟨⟨_,rfl,own_nil _ _⟩,BW.out⟩
 ·have hb2:8960<(o:Int)+d.size:=by omega
  have hb3:(8960:Int)-(o:Int)<(d.size:Int):=by omega
  have hb4:IntKind.i64.wrap ((8960:Int)-(o:Int))=(8960:Int)-(o:Int):=IntWalk.i64_in _ (by omega)
  clear hneg hbig
  go_enter Tryz.func46,Tryz.ntmps46
  go_wp2_with fail
  refine CO.out.mono ?_
  rintro e w1 ⟨hb1,gv,cv,rfl,ho⟩
  have B1:=Lib.hid hb1
  have O1:=Lib.hid ho
  have hz1:=hb1.size
  clear hb1 ho CO
  go_wp2_with (refine store_blk 112 (.tmp 10) (.tmp 23) w1.heap.size 112 fileZ (fileC (.slice (some ⟨gv,0,none⟩) xs.length cv) xs.length (mO xs) (k:Int).toNat (getR xs (k:Int))) rfl rfl rfl rfl (Blk.new w1 _ _) (by rw [HLL.out];rfl) (by rw [HLL.out];kernel_rfl) (fileC_one _ _ _ _ _ _ _) ?_;intro w2 hr2 hg2)
  have hgg:w.heap.size≤w1.heap.size:=hz1
  have FX:Hid (FileX w.heap.size w2 w1.heap.size m k xs (getR xs (k:Int))):=HO.out _ _ gv cv hz1 hr2 (by
   refine (O1.out.alloc _).kept hg2 (.inr ?_)
   have:=own_ne (O1.out.alloc _) (Blk.new w1 112 fileZ) (by decide)
   intro e;exact this e.symm)
  have BW:Hid (Below w.heap.size w w2):=(B1.out.alloc hz1 _).grown hg2 (by simp;omega) (fun k e=>by cases e;exact hz1)
  go_ret2
  rw [HW0.out]
  exact ⟨⟨_,rfl,own_nil _ _⟩,BW.out⟩
set_option maxHeartbeats 8000000 in
theorem write_ok (A:Option Addr) (c:Nat) (xs:List ByteArray) (n off:Int) (d:ByteArray) (w:World) (hx:xs.length≤1000000) (hoff:-9223372036854775808≤off∧off≤9223372036854775807) (hd:d.size≤140737488355328) (h:RowAt w w.heap.size A (xs.map .string)) (h0:inoE xs n=0) (hneg:¬ off<0) (hbig:¬ (8960<off∨8960<off+d.size)) :
  Calls Tryz.prog 46 #[.slice A xs.length c,.int .i64 n,.int .i64 off,.string d] w (RowCode (writeO xs n off d.data.toList).1 (writeO xs n off d.data.toList).2 w):=by
 have hdl:d.data.toList.length=d.size:=by rw [Array.length_toList];rfl
 have CO:=Lib.hid (opened_any A c xs n w hx h)
 unfold OpenPost at CO
 simp only [if_pos h0] at CO
 obtain ⟨m,k,hv,rfl,hk1,hk2,hk3⟩:=inoE_ok h0
 have hvl:=hv.len
 have HV:=Lib.hid hv
 have HO:Hid (∀ g w2 gv c,w.heap.size≤g→Blk w2 g 112 (fileC (.slice (some ⟨gv,0,none⟩) xs.length c) xs.length (mO xs) (k:Int).toNat (getR xs (k:Int)))→w2.ownsRow w.heap.size 9 1 (.slice (some ⟨gv,0,none⟩) xs.length c) xs.length (xs.map .string)→FileX w.heap.size w2 g m k xs (getR xs (k:Int))):=fun g w2 gv c a b c'=>OpenPost.file (w':=w) hv hk1 hk2 a b c'
 have HL:Hid ((fileC (.slice none 0 0) xs.length (mO xs) (k:Int).toNat (getR xs (k:Int))).size=20):=fileC_size _ _ _ _ _ (getR_len _ _)
 have HLL:Hid (∀ sl,(fileC sl xs.length (mO xs) (k:Int).toNat (getR xs (k:Int))).size=20):=fun sl=>fileC_size _ _ _ _ _ (getR_len _ _)
 have HOK:Hid (OkS xs.length m (xs,getR xs (k:Int))):=⟨hv,rfl,by rw [getR_vol hv hk1 hk2];exact inoR_fit _ _⟩
 have HPS:Hid (putV xs k (getR xs (k:Int))=xs):=by show _=_;rw [getR_vol hv hk1 hk2];exact putV_self hv hk1 hk2
 have HW0:Hid (writeO xs (k:Int) off d.data.toList=if off<0 then (([],1):List ByteArray × Int) else if 8960<off∨8960<off+d.size then ([],6)
  else match wriG noK xs m (getR xs k) off.toNat d.data.toList with
   | none=>([],10)
   | some s=>(putV s.1 k s.2,0)):=by
  show _=_
  unfold writeO
  rw [if_neg (by rw [h0];simp),mO_vol hv,hdl,Int.toNat_natCast]
  rfl
 clear h0 hk3 hv
 obtain ⟨o,rfl⟩:=Int.eq_ofNat_of_zero_le (show 0≤off by omega)
 rw [if_neg hneg,Int.toNat_natCast] at HW0
 have g0:decide ((o:Int)<0)=false:=by simp
 rw [if_neg hbig] at HW0
 have hb1:¬ 8960<(o:Int):=by omega
 have hb2:¬ (8960:Int)-(o:Int)<(d.size:Int):=by omega
 have hb4:IntKind.i64.wrap ((8960:Int)-(o:Int))=(8960:Int)-(o:Int):=IntWalk.i64_in _ (by omega)
 have hb5:IntKind.i64.wrap ((o:Int)+(d.size:Int))=(o:Int)+(d.size:Int):=IntWalk.i64_in _ (by omega)
 have hsum:o+d.size≤8960:=by omega
 clear hneg hbig
 go_enter Tryz.func46,Tryz.ntmps46
 go_wp2_with fail
 refine CO.out.mono ?_
 rintro e w1 ⟨hb1,gv,cv,rfl,ho⟩
 have B1:=Lib.hid hb1
 have O1:=Lib.hid ho
 have hz1:=hb1.size
 clear hb1 ho CO
 go_wp2_with (refine store_blk 112 (.tmp 10) (.tmp 23) w1.heap.size 112 fileZ (fileC (.slice (some ⟨gv,0,none⟩) xs.length cv) xs.length (mO xs) (k:Int).toNat (getR xs (k:Int))) rfl rfl rfl rfl (Blk.new w1 _ _) (by rw [HLL.out];rfl) (by rw [HLL.out];kernel_rfl) (fileC_one _ _ _ _ _ _ _) ?_;intro w2 hr2 hg2)
 have hgg:w.heap.size≤w1.heap.size:=hz1
 have FX:Hid (FileX w.heap.size w2 w1.heap.size m k xs (getR xs (k:Int))):=HO.out _ _ gv cv hz1 hr2 (by
  refine (O1.out.alloc _).kept hg2 (.inr ?_)
  have:=own_ne (O1.out.alloc _) (Blk.new w1 112 fileZ) (by decide)
  intro e;exact this e.symm)
 have BW:Hid (Below w.heap.size w w2):=(B1.out.alloc hz1 _).grown hg2 (by simp;omega) (fun k e=>by cases e;exact hz1)
 generalize hg:w1.heap.size=g at *
 generalize getR xs (k:Int)=l0 at *
 clear hr2 hg2 HO O1 B1 HL HLL hg hz1
 have h70:o / 128+fallN o d.size≤70:=by unfold fallN;split <;> omega
 have HWP:Hid (wriG (putK k) xs m l0 o d.data.toList=(wriG noK xs m l0 o d.data.toList).map (withP k)):=by
  have:=wriG_put hk1 hk2 HOK.out (off:=o) (d:=d.data.toList) (by rw [hdl];exact hsum)
  rw [HPS.out] at this
  exact this
 have HWN:Hid (∀ e,(wriG (putK k) xs m l0 o d.data.toList=e)→writeO xs (k:Int) (o:Int) d.data.toList=match e with | none=>(([],10):List ByteArray × Int) | some s=>(s.1,0)):=fun e he=>by
  rw [HW0.out]
  rw [HWP.out] at he
  cases hh:wriG noK xs m l0 o d.data.toList with
  | none=>rw [hh] at he;subst he;rfl
  | some s=>rw [hh] at he;subst he;rfl
 clear HW0 HWP HPS h hdl
 have HD:Hid (∀ j s,wriN (putK k) m o d.data.toList (xs,l0) j=some s→j≤fallN o d.size→OkS xs.length m s):=fun j s hs hj=>wriN_ok (putK_ok hk1 hk2) HOK.out j (by omega) hs
 go_loopw [13] (fun at_ wr=>∃ (j:Nat) (s:List ByteArray × List Nat),j≤fallN o d.size∧at_=.int .i64 ((atW o (o+d.size) j:Nat):Int)∧Hid (wriN (putK k) m o d.data.toList (xs,l0) j=some s)∧Hid (FileX w.heap.size wr g m k s.1 s.2)∧Hid (Below w.heap.size w wr)) (fun at_ _=>o+d.size-(intOf at_).toNat)
 case atStart=>exact ⟨0,(xs,l0),Nat.zero_le _,by rw [atW_zero],rfl,FX,BW⟩
 case round=>
  obtain ⟨j,s,hj,rfl,HS,HF,HB⟩:=hrel
  obtain ⟨V,l⟩:=s
  dsimp only at HF
  by_cases hlt:j<fallN o d.size
  ·obtain ⟨p1,p2,p3,p4,p5,p6⟩:=piece_cut (off:=o) (d:=d) hlt
   have HO':Hid (OkS V.length m (V,l)):=by
    obtain ⟨a,b,c⟩:=HD.out j _ HS.out hj
    exact ⟨a,rfl,c⟩
   have HSU:Hid (∀ r,plaG (putK k) V m l (o / 128+j)=r→wriN (putK k) m o d.data.toList (xs,l0) (j+1)=r.map fun r=>(layX r.1.1 r.2 (o-128 * (o / 128+j)) ((d.data.toList.drop (128 * (o / 128+j)-o)).take (128-(o-128 * (o / 128+j)))),r.1.2)):=fun r hr=>by
    rw [wriN,HS.out,Option.bind_some]
    unfold wriK
    rw [hr]
   have HPL:=Lib.hid (piece_len o (o / 128+j) d.data.toList (by omega))
   rw [← p6] at HPL HSU
   rw [← p3] at HPL HSU
   have h70':o / 128+j<70:=by omega
   have CP:=Lib.hid (place_file (o / 128+j) wr h70' HF.out)
   have HJ:Hid (j+1≤fallN o d.size):=hlt
   have HWJ:Hid (wriN (putK k) m o d.data.toList (xs,l0) (j+1)=none→wriG (putK k) xs m l0 o d.data.toList=none):=fun hn=>by
    have h1:=wriN_none hn (fallN o d.size-(j+1))
    rw [show j+1+(fallN o d.size-(j+1))=fallN o d.size by omega] at h1
    unfold wriG
    have hls:d.data.toList.length=d.size:=by rw [Array.length_toList];rfl
    have hne:¬ d.data.toList=[]:=by
     intro e
     have h0:d.size=0:=by rw [← hls,e];rfl
     have h2:=hlt
     unfold fallN at h2
     rw [if_pos h0] at h2
     omega
    rw [if_neg hne,hls,h1];rfl
   obtain ⟨q,hq⟩:∃ q,o / 128+j=q:=⟨_,rfl⟩
   obtain ⟨a2,ha2⟩:∃ a2,atW o (o+d.size) (j+1)=a2:=⟨_,rfl⟩
   obtain ⟨en,hen⟩:∃ en,o+d.size=en:=⟨_,rfl⟩
   have hen':(o:Int)+(d.size:Int)=(en:Int):=by omega
   rw [hq] at p2 CP HSU h70'
   rw [ha2] at p5
   have HA2:=Lib.hid ha2
   have HEN:=Lib.hid hen
   clear p3 HS HD hq ha2
   generalize hda:atW o (o+d.size) j=a at *
   rw [hen] at p1 p5 HPL HSU hsum HA2
   clear hen hda
   obtain ⟨pp,hpp⟩:∃ pp,a % 128=pp:=⟨_,rfl⟩
   rw [hpp] at p5 HPL HSU
   obtain ⟨mn,hmn⟩:∃ mn,min (128-pp) (en-a)=mn:=⟨_,rfl⟩
   rw [hmn] at p5 HPL HSU
   obtain ⟨t1,ht1⟩:∃ t1,a-o=t1:=⟨_,rfl⟩
   rw [ht1] at HPL HSU
   have k1:(a:Int)<(o:Int)+(d.size:Int):=by omega
   obtain ⟨v1,hv1⟩:∃ v1,t1+mn=v1:=⟨_,rfl⟩
   rw [hv1] at HPL HSU
   have k2:(a:Int) / 128=(q:Int):=by omega
   have k3:(a:Int) % 128=(pp:Int):=by omega
   have k4:IntKind.i64.wrap ((128:Int)-(pp:Int))=(128:Int)-(pp:Int):=IntWalk.i64_in _ (by omega)
   have k5:IntKind.i64.wrap ((o:Int)+(d.size:Int)-(a:Int))=(o:Int)+(d.size:Int)-(a:Int):=IntWalk.i64_in _ (by omega)
   have k6:min ((128:Int)-(pp:Int)) ((o:Int)+(d.size:Int)-(a:Int))=(mn:Int):=by omega
   have k7:(a:Int)-(o:Int)=(t1:Int):=by omega
   have k8:(t1:Int)+(mn:Int)=(v1:Int):=by omega
   have k9:(a:Int)+(mn:Int)=(a2:Int):=by omega
   have k10:v1≤d.size:=by omega
   have k11:t1≤v1:=by omega
   have k12:q<70:=by omega
   have k13:pp<128:=by omega
   have k14:mn≤128:=by omega
   have k15:a2≤8960:=by omega
   have hlt2:a<a2:=by omega
   have hgt2:a2≤en:=by omega
   clear hmn ht1 hpp hv1 p2 p4 p5 p6 hen' HF HOK FX hb4
   cases hpl:plaG (putK k) V m l q with
   | none=>
    have HN:=Lib.hid (HWN.out none (HWJ.out (by rw [HSU.out _ hpl];rfl)))
    rw [hpl] at CP
    have CP':Hid (Calls Tryz.prog 106 #[.pointer (some ⟨g,0,none⟩),.int .i64 q] wr fun e w'=>e=.returned (.tuple #[.int .i64 0,.int .i64 10])∧Below w.heap.size wr w'):=CP.out.mono fun e w' h=>⟨h.2,h.1⟩
    clear hpl CP HSU HWJ HWN
    go_wp2_with fail
    refine CP'.out.mono ?_
    rintro e w3 ⟨rfl,hb3⟩
    have B3:=Lib.hid (HB.out.trans hb3)
    clear hb3 CP'
    go_wp2
    go_ret2
    rw [HN.out]
    exact ⟨⟨_,rfl,own_nil _ _⟩,B3.out⟩
   | some r=>
    obtain ⟨⟨V1,l1⟩,bk⟩:=r
    have HS1:=Lib.hid (HSU.out _ hpl)
    rw [hpl] at CP
    have CP':Hid (Calls Tryz.prog 106 #[.pointer (some ⟨g,0,none⟩),.int .i64 q] wr fun e w'=>e=.returned (.tuple #[.int .i64 bk,.int .i64 0])∧FileX w.heap.size w' g m k V1 l1∧Below w.heap.size wr w'):=CP.out.mono fun e w' h=>⟨h.2.1,h.2.2,h.1⟩
    have HBK:Hid (datB V1 m bk=true):=by
     obtain ⟨a,b⟩:=plaG_ok (putK_ok hk1 hk2) (len:=V.length) (HO'.out) h70' hpl
     show _=_
     rw [datB_len (ys:=V) m bk a.len];exact b
    clear hpl CP HSU HWJ
    go_wp2_with fail
    refine CP'.out.mono ?_
    rintro e w3 ⟨rfl,hf,hb3⟩
    have H3:=Lib.hid hf
    have B3:=Lib.hid (HB.out.trans hb3)
    clear hb3 hf CP'
    go_wp2_with fail
    refine (lay_any bk pp (d.extract t1 v1) w3 H3.out.base HBK.out (by rw [Array.length_toList] at HPL;exact HPL.out) H3.out).mono ?_
    rintro e w4 ⟨rfl,hf,hb4⟩
    have H4:=Lib.hid hf
    have B4:=Lib.hid (B3.out.trans hb4)
    clear hb4 hf H3 B3
    go_wp2
    go_roundw
    case rel=>exact ⟨j+1,_,HJ.out,by rw [HEN.out,HA2.out],HS1.out,H4,B4⟩
    case measure=>have:=HEN.out;simp [intOf];omega
  ·obtain rfl:j=fallN o d.size:=by omega
   have hae:=atW_end (off:=o) (d:=d)
   have hls:d.data.toList.length=d.size:=by rw [Array.length_toList];rfl
   generalize hda:atW o (o+d.size) (fallN o d.size)=a at *
   have k1:¬ (a:Int)<(o:Int)+(d.size:Int):=by omega
   obtain ⟨gv2,c2,hF⟩:=HF.out
   have HO':=hF.row
   have hvl2:=hF.small
   by_cases hd0:d.size=0
   ·have hde:d=⟨#[]⟩:=by
     apply WideShapes.bytes_inj
     exact List.eq_nil_of_length_eq_zero (by rw [hls];exact hd0)
    have HR:Hid (writeO xs (k:Int) (o:Int) d.data.toList=(V,0)):=by
     have h1:=HS.out
     unfold fallN at h1
     rw [if_pos hd0] at h1
     have h2:=Option.some.inj h1
     have h3:=HWN.out (some (xs,l0)) (by unfold wriG;rw [if_pos (List.eq_nil_of_length_eq_zero (by rw [hls];exact hd0))])
     show _=_
     rw [h3,← (Prod.mk.inj h2).1]
    have HF2:=Lib.hid hF
    have c0:=hF.c0
    clear hF HS HWN hda hae hls
    subst hde
    go_wp2
    go_ret2
    rw [HR.out]
    exact ⟨⟨_,rfl,HF2.out.own⟩,HB.out⟩
   ·have hne:¬ d.data.toList=[]:=by
     intro e
     rw [e] at hls
     exact hd0 hls.symm
    have HW:Hid (wriG (putK k) xs m l0 o d.data.toList=some (growG (putK k) (o+d.size) (V,l))):=by
     show _=_
     unfold wriG
     rw [if_neg hne,hls,HS.out];rfl
    have HR:=Lib.hid (HWN.out _ HW.out)
    have HF2:=Lib.hid hF
    have CS:=Lib.hid (size_any (B:=w.heap.size) (g:=g) (m:=m) (n:=k) (V:=V) (l:=l) wr ⟨gv2,c2,hF⟩)
    have n1:¬ d.toList=[]:=by
     rw [Lib.toList_data]
     exact hne
    have n2:d.toList.isEmpty=false:=by
     cases hh:d.toList with
     | nil=>exact absurd hh n1
     | cons a b=>rfl
    have c0:=hF.c0
    by_cases hgr:sizeX l<o+d.size
    ·have n3:(sizeX l:Int)<(o:Int)+(d.size:Int):=by omega
     have HG:Hid (growG (putK k) (o+d.size) (V,l)=(putV V k (l.set 3 (o+d.size)),l.set 3 (o+d.size))):=by show _=_;unfold growG;rw [if_pos hgr];rfl
     rw [HG.out] at HR
     have c11:wr.cell? ⟨g,11,none⟩=some (.int .i64 ((l.getD 3 0:Nat):Int)):=hF.ino 3 (by omega)
     have c11f:wr.frozen? ⟨g,11,none⟩=false:=hF.blk.frozen _
     have HP:Hid (FileX w.heap.size (wr.setCell ⟨g,11,none⟩ (.int .i64 ((o+d.size:Nat):Int))) g m k V (l.set 3 (o+d.size))):=⟨gv2,c2,hF.put 3 (o+d.size) (hF.fit.size (by omega))⟩
     have BP:Hid (Below w.heap.size w (wr.setCell ⟨g,11,none⟩ (.int .i64 ((o+d.size:Nat):Int)))):=HB.out.setCell hF.low _
     generalize l.set 3 (o+d.size)=l3 at *
     obtain ⟨en,hen⟩:∃ en,o+d.size=en:=⟨_,rfl⟩
     have hen':(o:Int)+(d.size:Int)=(en:Int):=by omega
     rw [hen] at HP BP
     have n4:sizeX l<en:=by omega
     generalize sizeX l=sz at *
     clear hF HS HWN hda hae hls HG HW hgr HF HF2 FX
     generalize l.getD 3 0=l3v at *
     go_wp2_with fail
     refine CS.out.mono ?_
     rintro e w3 ⟨rfl,rfl⟩
     go_wp2_with fail
     refine (keep_any _ HP.out.base HP.out).mono ?_
     rintro e w4 ⟨rfl,hf,hb4⟩
     obtain ⟨gv3,c3,hF3⟩:=hf
     have HF3:=Lib.hid hF3
     have B4:=Lib.hid (BP.out.trans hb4)
     have c0':=hF3.c0
     clear hb4 HP BP hF3 c0
     go_wp2
     go_ret2
     rw [HR.out]
     exact ⟨⟨_,rfl,HF3.out.own⟩,B4.out⟩
    ·have n3:¬ (sizeX l:Int)<(o:Int)+(d.size:Int):=by omega
     have HG:Hid (growG (putK k) (o+d.size) (V,l)=(V,l)):=by show _=_;unfold growG;rw [if_neg hgr]
     rw [HG.out] at HR
     generalize sizeX l=sz at *
     clear hF HS HWN hda hae hls HG HW hgr HF FX
     go_wp2_with fail
     refine CS.out.mono ?_
     rintro e w3 ⟨rfl,rfl⟩
     go_wp2
     go_ret2
     rw [HR.out]
     exact ⟨⟨_,rfl,HF2.out.own⟩,HB.out⟩
set_option maxHeartbeats 8000000 in
theorem write_none (A:Option Addr) (c:Nat) (xs:List ByteArray) (n off:Int) (d:ByteArray) (w:World) (hx:xs.length≤1000000) (hoff:-9223372036854775808≤off∧off≤9223372036854775807) (hd:d.size≤140737488355328) (h:RowAt w w.heap.size A (xs.map .string)) (h0:¬ inoE xs n=0) :
  Calls Tryz.prog 46 #[.slice A xs.length c,.int .i64 n,.int .i64 off,.string d] w (RowCode (writeO xs n off d.data.toList).1 (writeO xs n off d.data.toList).2 w):=by
 have hdl:d.data.toList.length=d.size:=by rw [Array.length_toList];rfl
 have CO:=Lib.hid (opened_any A c xs n w hx h)
 unfold OpenPost at CO
 simp only [if_neg h0] at CO
 have HW0:Hid (writeO xs n off d.data.toList=([],inoE xs n)):=by show _=_;unfold writeO;rw [if_pos h0]
 have hn0:(inoE xs n != 0)=true:=by simpa using h0
 generalize inoE xs n=ie at *
 clear h0
 go_enter Tryz.func46,Tryz.ntmps46
 go_wp2_with fail
 refine CO.out.mono ?_
 rintro e w1 ⟨hb1,rfl⟩
 have B1:=Lib.hid hb1
 have hz1:=hb1.size
 clear hb1 CO
 go_wp2_with (refine store_blk 112 (.tmp 10) (.tmp 23) w1.heap.size 112 fileZ fileZ rfl rfl rfl rfl (Blk.new w1 _ _) rfl (by kernel_rfl) fileZ_one ?_;intro w2 hr2 hg2)
 have BW:Hid (Below w.heap.size w w2):=(B1.out.alloc hz1 _).grown hg2 (by simp;omega) (fun k e=>by cases e;exact hz1)
 go_ret2
 rw [HW0.out]
 exact ⟨⟨_,rfl,own_nil _ _⟩,BW.out⟩
theorem write_any (A:Option Addr) (c:Nat) (xs:List ByteArray) (n off:Int) (d:ByteArray) (w:World) (hx:xs.length≤1000000) (hoff:-9223372036854775808≤off∧off≤9223372036854775807) (hd:d.size≤140737488355328) (h:RowAt w w.heap.size A (xs.map .string)) :
  Calls Tryz.prog 46 #[.slice A xs.length c,.int .i64 n,.int .i64 off,.string d] w (RowCode (writeO xs n off d.data.toList).1 (writeO xs n off d.data.toList).2 w):=by
 by_cases h0:inoE xs n=0
 ·by_cases hneg:off<0
  ·exact write_neg A c xs n off d w hx hoff hd h h0 hneg
  ·by_cases hbig:8960<off∨8960<off+d.size
   ·exact write_big A c xs n off d w hx hoff hd h h0 hneg hbig
   ·exact write_ok A c xs n off d w hx hoff hd h h0 hneg hbig
 ·exact write_none A c xs n off d w hx hoff hd h h0
end Go.Proofs.YtdldlendppkknaaGreatDoor
