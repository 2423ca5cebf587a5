/-
  Contracts and plain laws: DirG.
-/
import Derived.Test.YtdldlendppkknaaGreatDoorPackV20
namespace Go.Proofs.YtdldlendppkknaaGreatDoor
open Go.RowKit
set_option linter.unusedVariables false
set_option linter.unusedSimpArgs false
set_option maxRecDepth 100000
theorem exec_appE {P:Program} {w w':World} {o:Oper} {ev:Operand→Value} {v v':Value} {ad:Addr} {m c:Nat} (s x:Operand) (t:TypeId) (ho:o.op=.call { callee:=.builtin .append,args:=#[s,x],argTypes:=#[t,t] }) (hs:ev s=v) (hx:ev x=.slice (some ad) m c)
  (hrun:(Builtin.append_ #[t,t] o.type #[v,.slice (some ad) m c]).run P w=.ok v' w'):(execOp ev o).run P w=.ok (.value v') w':=by
 simp [execOp,ho,resolve,invoke,builtin,hs,hx,hrun,Result.andThen]
theorem del_row {w:World} {base k:Nat} {v:Value} {l L2:List EntV} (h:w.ownsRow base 168 2 v (0+k+(l.length-(k+1))) ([]++entC (l.take k)++entC (l.drop (k+1)))) (hk:k<l.length)
  (he:entC (l.take k)++entC (l.drop (k+1))=entC L2):w.ownsRow base 168 2 v (l.length-1) (entC L2):=by
 rw [List.nil_append,he,show 0+k+(l.length-(k+1))=l.length-1 by omega] at h
 exact h
theorem bt_nil {b:ByteArray} (h:b.size=32 * 0):b.toList=[]:=by
 rw [str_data]
 exact List.eq_nil_of_length_eq_zero (by rw [Array.length_toList];exact h)
theorem bt_some {b:ByteArray} (h:b.size≠0):¬ b.toList=[]:=by
 rw [str_data]
 intro e
 have:=congrArg List.length e
 rw [Array.length_toList] at this
 exact h this
theorem drop_plain {xs:List ByteArray} {n:Int} {nm:ByteArray} {l:List EntV} (hm:mayB nm.data.toList=true) (hl:listO xs n=(l,0)) (hh:hasE l nm=true) :
  dropO xs n nm=if outE l nm=[] then cutO xs n 0 else if (writeO xs n 0 (bytesE (outE l nm))).2≠0 then ([],(writeO xs n 0 (bytesE (outE l nm))).2) else cutO (writeO xs n 0 (bytesE (outE l nm))).1 n ((32 * (outE l nm).length:Nat):Int):=by
 unfold dropO
 rw [if_neg (by rw [hm];simp),hl]
 dsimp only
 rw [if_neg (by simp),if_neg (by rw [hh];simp)]
set_option maxHeartbeats 8000000 in
theorem drop_main (A:Option Addr) (c:Nat) (xs:List ByteArray) (n:Int) (nm:ByteArray) (w:World) (hx:xs.length≤1000000) (hs:nm.size≤140737488355328) (h:RowAt w w.heap.size A (xs.map .string))
  (l:List EntV) (hm:mayB nm.data.toList=true) (hl:listO xs n=(l,0)) (hh:hasE l nm=true) :
  Calls Tryz.prog 63 #[.slice A xs.length c,.int .i64 n,.string nm] w (RowCode (dropO xs n nm).1 (dropO xs n nm).2 w):=by
 have CM:=Lib.hid (may_any nm w hs)
 have CL:=Lib.hid (fun w h=>list_any A c xs n w hx h)
 have HR:=Lib.hid h
 have hv:=listO_valid (xs:=xs) (n:=n)
 have hn:=listO_len (xs:=xs) (n:=n)
 rw [hl] at CL hv hn
 dsimp only at hv hn
 have HV:=Lib.hid hv
 have HN:=Lib.hid hn
 obtain ⟨r,hr⟩:∃ r,dropO xs n nm=r:=⟨_,rfl⟩
 rw [hr]
 rw [drop_plain hm hl hh] at hr
 rw [hm] at CM
 unfold ListPost at CL
 dsimp only at CL
 have CS:=Lib.hid (fun A c w h=>search_any A c l nm w hn HV.out.rise h)
 rw [hh] at CS
 obtain ⟨hk,hnk⟩:=(at_has HV.out.rise).1 hh
 have ho:=at_out HV.out.rise hk hnk
 have HVO:=Lib.hid (outE_valid HV.out nm)
 have hlen:(outE l nm).length=l.length-1:=by rw [ho,List.length_append,List.length_take,List.length_drop];omega
 have hb:=bytesE_len HVO.out.ok
 rw [hlen] at hb
 have CB:=Lib.hid (fun A c w h=>bytes_any A c (outE l nm) w (by rw [hlen];omega) (fun x hx=>by have:=okE_ok (HVO.out.ok x hx);omega) h)
 have CW:=Lib.hid (fun w h=>write_any A c xs n 0 ⟨(bytesE (outE l nm)).toArray⟩ w hx (by omega) (by show (bytesE (outE l nm)).toArray.size≤_;rw [List.size_toArray,hb];omega) h)
 rw [hlen] at CB
 dsimp only at CW
 have HIE:Hid (entC (l.take (atE l nm))++entC (l.drop (atE l nm+1))=entC (outE l nm)):=by
  show _=_
  rw [ho,entC_app]
 have HLO:=Lib.hid hlen
 have HBT:Hid ((⟨(bytesE (outE l nm)).toArray⟩:ByteArray).size=32 * (l.length-1)):=by show (bytesE (outE l nm)).toArray.size=_;rw [List.size_toArray,hb]
 have hbt:=HBT.out
 have HR0:Hid (l.length-1=0→r=cutO xs n (((⟨(bytesE (outE l nm)).toArray⟩:ByteArray).size:Nat):Int)):=fun e=>by
  rw [← hr,if_pos (List.eq_nil_of_length_eq_zero (hlen.trans e)),hbt,e];rfl
 have HR1:Hid (l.length-1≠0→r=if (writeO xs n 0 (bytesE (outE l nm))).2≠0 then ([],(writeO xs n 0 (bytesE (outE l nm))).2) else cutO (writeO xs n 0 (bytesE (outE l nm))).1 n (((⟨(bytesE (outE l nm)).toArray⟩:ByteArray).size:Nat):Int)):=fun e=>by
  rw [← hr,if_neg (fun h=>e (by rw [← hlen,h];rfl)),hbt,hlen]
 have hle:=writeO_le hx n 0 (bytesE (outE l nm))
 have CC:=Lib.hid (fun A c xs w hx h=>cut_any A c xs n (((⟨(bytesE (outE l nm)).toArray⟩:ByteArray).size:Nat):Int) w hx h)
 generalize writeO xs n 0 (bytesE (outE l nm))=wo at *
 generalize outE l nm=L2 at *
 generalize (⟨(bytesE L2).toArray⟩:ByteArray)=bt at *
 generalize atE l nm=k at *
 obtain ⟨i0,q1,q2,q3,q4⟩:=info_parts ent_info
 have I0:=Lib.hid (And.intro q1 (And.intro q2 (And.intro q3 q4)))
 obtain ⟨ys,ye⟩:=wo
 dsimp only at CW HR1 hle
 unfold RowCode at CW
 have HLE:=Lib.hid hle
 clear q1 q2 q3 q4 h hm hh hlen hb HVO hv hl ho hnk hr hle hbt
 go_enter Tryz.func63,Tryz.ntmps63
 go_wp2_with fail
 refine CM.out.mono ?_
 rintro e w1 ⟨rfl,hb1⟩
 have B1:=Lib.hid hb1
 clear hb1 CM
 go_wp2_with fail
 refine (CL.out _ ((HR.out.below B1.out).mono B1.out.size)).mono ?_
 rintro e w2 ⟨⟨v,rfl,hv⟩,hb2⟩
 have B2:=Lib.hid (B1.out.trans (hb2.mono B1.out.size))
 obtain ⟨A2,c2,hA2,hr2⟩:=OwnEnts.read2 hv
 have HF:=Lib.hid (hA2▸hv.form)
 have R2:=Lib.hid hr2
 subst hA2
 clear hb2 hv hr2 CL
 go_wp2_with fail
 refine (CS.out _ _ _ R2.out).mono ?_
 rintro e w3 ⟨rfl,hb3⟩
 have B3:=Lib.hid (B2.out.trans (hb3.mono B2.out.size))
 have G0:=Lib.hid (Below.refl w3.heap.size w3)
 obtain ⟨g,cc,hvv,hc1,hc2,hg1,hg2,hcells⟩:∃ g c',Value.slice A2 l.length c2=.slice (some ⟨g,0,none⟩) l.length c'∧l.length≤c'∧c'≤maxLen∧w1.heap.size≤g∧g<w2.heap.size∧∀ j u,(entC l)[j]?=some u→w2.cell? ⟨g,j,none⟩=some u:=by
  rcases HF.out with ⟨_,h⟩ | h
  ·rw [h] at hk;exact absurd hk (Nat.not_lt_zero _)
  ·exact h
 injection hvv with e1 e2 e3
 subst e1
 subst e3
 have HC3:Hid (∀ j u,(entC l)[j]?=some u→w3.cell? ⟨g,j,none⟩=some u):=fun j u hu=>(hb3.cell (p:=⟨g,j,none⟩) hg2).trans (hcells j u hu)
 have HG3:Hid (g<w3.heap.size):=Nat.lt_of_lt_of_le hg2 hb3.size
 have k1:(k:Int)≤(c2:Int):=by omega
 have k2:(0:Int)≤(k:Int):=by omega
 have k3:IntKind.i64.wrap ((k:Int)+1)=((k+1:Nat):Int):=by rw [show (k:Int)+1=((k+1:Nat):Int) by omega];exact IntWalk.i64_in _ (by unfold maxLen at hc2;omega)
 have k4:((k+1:Nat):Int)≤(l.length:Int):=by omega
 have k5:(0:Int)≤((k+1:Nat):Int):=by omega
 have hT:∀ w',Below w3.heap.size w3 w'→∀ j u,(entC (l.take k))[j]?=some u→w'.cell? ((⟨g,0,none⟩:Addr).add j)=some u:=fun w' hb j u hu=>by
  rw [add_zero_addr,Nat.zero_add]
  refine (hb.cell (p:=⟨g,j,none⟩) HG3.out).trans (HC3.out j u ?_)
  rw [← entC_take,List.getElem?_take] at hu
  split at hu
  ·exact hu
  ·cases hu
 have HT:=Lib.hid hT
 have HC1:=Lib.hid hc1
 clear hb3 CS R2 HF hcells e2 hT hc1
 by_cases hkc:k+1=c2
 ·subst hkc
  by_cases hone:l.length-1=0
  ·have HRR:=Lib.hid (HR0.out hone)
   have b1:bt.toList=[]:=bt_nil (by rw [HBT.out,hone])
   have b2:(bt.toList == [])=true:=by rw [b1];rfl
   have b3:bt.toList.isEmpty=true:=by rw [b1];rfl
   have HONE:=Lib.hid hone
   clear hone
   go_wp2_with fail
   apply wp_region_free (a2:={ tmps:=#[Value.slice A xs.length c,Value.int .i64 n,Value.string nm,undef,undef,undef,Value.slice none 0 0,Value.int .i64 0,Value.slice (some ⟨g,0,none⟩) l.length (k+1),Value.int .i64 0,Value.int .i64 (k:Int),Value.bool true,undef,Value.string nm,Value.bool true,Value.bool false,Value.tuple #[Value.slice (some ⟨g,0,none⟩) l.length (k+1),Value.int .i64 0],Value.slice A xs.length c,Value.int .i64 n,Value.tuple #[Value.slice (some ⟨g,0,none⟩) l.length (k+1),Value.int .i64 0],Value.slice (some ⟨g,0,none⟩) l.length (k+1),Value.int .i64 0,Value.int .i64 0,Value.bool false,undef,Value.tuple #[Value.int .i64 (k:Int),Value.bool true],Value.slice (some ⟨g,0,none⟩) l.length (k+1),Value.string nm,Value.tuple #[Value.int .i64 (k:Int),Value.bool true],Value.int .i64 (k:Int),Value.bool true,Value.bool true,Value.bool false,Value.slice (some ⟨g,0,none⟩) l.length (k+1),Value.int .i64 (k:Int),Value.slice (some ⟨g,0,none⟩) k (k+1),undef,Value.slice (some ⟨g,0,none⟩) l.length (k+1),Value.int .i64 (k:Int),Value.int .i64 ((k:Int)+1),Value.slice (some ⟨g,0,none⟩) (l.length-(k+1)) 0,undef,undef,undef,undef,undef,undef,undef,undef,undef,undef,undef,undef,undef,undef,undef,undef,undef,undef,undef,undef,undef],defers:=[] }) 3 0 4 36 _ (fun X w'=>w'.ownsRow w3.heap.size 168 2 X (0+k) ([]++entC (l.take k))) (by kernel_rfl) (by kernel_rfl) rfl
   case hΦ=>exact fun X u u' h hu=>own_below h hu
   case W1=>
    intro wb hwb
    unfold ExtC
    simp only [List.take_succ_cons,List.take_zero,List.drop_succ_cons,List.drop_zero]
    repeat (go_big_quiet_step (fail))
    exact wpQuiet_nil rfl
   case MK=>
    intro wb hwb
    obtain ⟨v',w',hrun,own,hg,_⟩:=run_append_own (P:=Tryz.prog) (w:=wb) w3.heap.size 123 _ 168 i0 (.agg #[.string ⟨#[]⟩,.int .i64 0]) 2 24 Tryz.underlying123 I0.out.1 I0.out.2.1 I0.out.2.2.1 I0.out.2.2.2 rfl (by decide) (.slice none 0 0) 0 [] (World.ownsRow_nil _ _ _ _) ⟨g,0,none⟩ k (k+1) (entC (l.take k)) (by rw [entC_len,List.length_take];omega) (HT.out wb hwb) (entC_one _) (by unfold maxLen;omega) (by omega) hwb.size
    exact ⟨v',w',exec_appE (.const (.slice none 0 0)) (.tmp 35) 123 rfl rfl rfl hrun,own,(Below.refl _ _).grown hg (Nat.le_refl _) (fun j e=>by cases e)⟩
   case UM=>
    intro X wb hwb hX
    exact wpQuiet_nil rfl
   case W2=>
    intro X wb hwb
    unfold ExtC
    simp only [List.take_succ_cons,List.take_zero,List.drop_succ_cons,List.drop_zero]
    go_frame
    repeat (go_big_quiet_step (fail))
    exact wpQuiet_nil rfl
   intro v4 w4 hb4 own4
   have O4:Hid (w4.ownsRow w3.heap.size 168 2 v4 (0+k) ([]++entC (l.take k))):=own4
   have G4:Hid (Below w3.heap.size w3 w4):=hb4
   have HC4:Hid (∀ j u,(entC (l.drop (k+1)))[j]?=some u→w4.cell? ((⟨g,0,none⟩:Addr).add j)=some u):=fun j u hu=>row_past (w:=w4) (g:=g) (k:=k+1) HC1.out hu
   simp only [List.take_succ_cons,List.take_zero,List.drop_succ_cons,List.drop_zero]
   clear hb4 own4
   go_wp2_with (first
    | (at_builtin;refine wpList_append_own _ rfl (.tmp 36) (.tmp 40) 123 rfl w3.heap.size 168 i0 (.agg #[.string ⟨#[]⟩,.int .i64 0]) 2 24 Tryz.underlying123 I0.out.1 I0.out.2.1 I0.out.2.2.1 I0.out.2.2.2 rfl (by decide) _ (0+k) ([]++entC (l.take k)) rfl O4.out ⟨g,0,none⟩ (l.length-(k+1)) 0 (entC (l.drop (k+1))) rfl (by rw [entC_len,List.length_drop]) HC4.out (entC_one _) (by unfold maxLen;omega) (by omega) G4.out.size ?_;intro v8 w8 own hg hv8;have O8:=Lib.hid own;have G8:=Lib.hid (G4.out.grown hg G4.out.size (fun j e=>(O4.out.lt j e).1));have O9:Hid (w8.ownsRow w3.heap.size 168 2 v8 (l.length-1) (entC L2)):=del_row O8.out hk HIE.out;obtain ⟨A8,c8,hv8,hr8⟩:=own_ents O9.out HLO.out;subst hv8;have R8:=Lib.hid hr8;clear own hg O4 G4 HC4 O8 hr8)
    | (go_at_call 125;refine (CB.out _ _ _ R8.out).mono ?_;rintro e w9 ⟨rfl,hb9⟩;have B9:=Lib.hid (B3.out.trans ((G8.out.trans (hb9.mono G8.out.size)).mono B3.out.size));clear hb9)
    | (go_at_call 46;refine (CW.out _ ((HR.out.below B9.out).mono B9.out.size)).mono ?_;rintro e w10 ⟨⟨v10,rfl,hv10⟩,hb10⟩;obtain ⟨A10,c10,rfl,hr10⟩:=hv10.read;have R10:=Lib.hid hr10;have B10:=Lib.hid (B9.out.trans (hb10.mono B9.out.size));clear hv10 hb10 hr10)
    | (go_at_call 91;refine (CC.out A c xs _ hx ((HR.out.below B9.out).mono B9.out.size)).mono ?_;rintro e w11 ⟨⟨v11,rfl,hv11⟩,hb11⟩;have B11:=Lib.hid (B9.out.trans (hb11.mono B9.out.size));have O11:=Lib.hid (own_low hv11 B9.out.size);clear hv11 hb11))
   go_ret2
   rw [HRR.out]
   exact ⟨⟨_,rfl,O11.out⟩,B11.out⟩
  ·have HR2:=Lib.hid (HR1.out hone)
   have b1:¬ bt.toList=[]:=bt_some (by rw [HBT.out];omega)
   have b2:(bt.toList == [])=false:=by simpa using b1
   have b3:bt.toList.isEmpty=false:=by simpa using b1
   have HONE:=Lib.hid hone
   clear hone
   by_cases hye:ye=0
   ·subst hye
    have HRR:Hid (r=cutO ys n ((bt.size:Nat):Int)):=by show _=_;rw [HR2.out,if_neg (by simp)]
    go_wp2_with fail
    apply wp_region_free (a2:={ tmps:=#[Value.slice A xs.length c,Value.int .i64 n,Value.string nm,undef,undef,undef,Value.slice none 0 0,Value.int .i64 0,Value.slice (some ⟨g,0,none⟩) l.length (k+1),Value.int .i64 0,Value.int .i64 (k:Int),Value.bool true,undef,Value.string nm,Value.bool true,Value.bool false,Value.tuple #[Value.slice (some ⟨g,0,none⟩) l.length (k+1),Value.int .i64 0],Value.slice A xs.length c,Value.int .i64 n,Value.tuple #[Value.slice (some ⟨g,0,none⟩) l.length (k+1),Value.int .i64 0],Value.slice (some ⟨g,0,none⟩) l.length (k+1),Value.int .i64 0,Value.int .i64 0,Value.bool false,undef,Value.tuple #[Value.int .i64 (k:Int),Value.bool true],Value.slice (some ⟨g,0,none⟩) l.length (k+1),Value.string nm,Value.tuple #[Value.int .i64 (k:Int),Value.bool true],Value.int .i64 (k:Int),Value.bool true,Value.bool true,Value.bool false,Value.slice (some ⟨g,0,none⟩) l.length (k+1),Value.int .i64 (k:Int),Value.slice (some ⟨g,0,none⟩) k (k+1),undef,Value.slice (some ⟨g,0,none⟩) l.length (k+1),Value.int .i64 (k:Int),Value.int .i64 ((k:Int)+1),Value.slice (some ⟨g,0,none⟩) (l.length-(k+1)) 0,undef,undef,undef,undef,undef,undef,undef,undef,undef,undef,undef,undef,undef,undef,undef,undef,undef,undef,undef,undef,undef],defers:=[] }) 3 0 4 36 _ (fun X w'=>w'.ownsRow w3.heap.size 168 2 X (0+k) ([]++entC (l.take k))) (by kernel_rfl) (by kernel_rfl) rfl
    case hΦ=>exact fun X u u' h hu=>own_below h hu
    case W1=>
     intro wb hwb
     unfold ExtC
     simp only [List.take_succ_cons,List.take_zero,List.drop_succ_cons,List.drop_zero]
     repeat (go_big_quiet_step (fail))
     exact wpQuiet_nil rfl
    case MK=>
     intro wb hwb
     obtain ⟨v',w',hrun,own,hg,_⟩:=run_append_own (P:=Tryz.prog) (w:=wb) w3.heap.size 123 _ 168 i0 (.agg #[.string ⟨#[]⟩,.int .i64 0]) 2 24 Tryz.underlying123 I0.out.1 I0.out.2.1 I0.out.2.2.1 I0.out.2.2.2 rfl (by decide) (.slice none 0 0) 0 [] (World.ownsRow_nil _ _ _ _) ⟨g,0,none⟩ k (k+1) (entC (l.take k)) (by rw [entC_len,List.length_take];omega) (HT.out wb hwb) (entC_one _) (by unfold maxLen;omega) (by omega) hwb.size
     exact ⟨v',w',exec_appE (.const (.slice none 0 0)) (.tmp 35) 123 rfl rfl rfl hrun,own,(Below.refl _ _).grown hg (Nat.le_refl _) (fun j e=>by cases e)⟩
    case UM=>
     intro X wb hwb hX
     exact wpQuiet_nil rfl
    case W2=>
     intro X wb hwb
     unfold ExtC
     simp only [List.take_succ_cons,List.take_zero,List.drop_succ_cons,List.drop_zero]
     go_frame
     repeat (go_big_quiet_step (fail))
     exact wpQuiet_nil rfl
    intro v4 w4 hb4 own4
    have O4:Hid (w4.ownsRow w3.heap.size 168 2 v4 (0+k) ([]++entC (l.take k))):=own4
    have G4:Hid (Below w3.heap.size w3 w4):=hb4
    have HC4:Hid (∀ j u,(entC (l.drop (k+1)))[j]?=some u→w4.cell? ((⟨g,0,none⟩:Addr).add j)=some u):=fun j u hu=>row_past (w:=w4) (g:=g) (k:=k+1) HC1.out hu
    simp only [List.take_succ_cons,List.take_zero,List.drop_succ_cons,List.drop_zero]
    clear hb4 own4
    go_wp2_with (first
     | (at_builtin;refine wpList_append_own _ rfl (.tmp 36) (.tmp 40) 123 rfl w3.heap.size 168 i0 (.agg #[.string ⟨#[]⟩,.int .i64 0]) 2 24 Tryz.underlying123 I0.out.1 I0.out.2.1 I0.out.2.2.1 I0.out.2.2.2 rfl (by decide) _ (0+k) ([]++entC (l.take k)) rfl O4.out ⟨g,0,none⟩ (l.length-(k+1)) 0 (entC (l.drop (k+1))) rfl (by rw [entC_len,List.length_drop]) HC4.out (entC_one _) (by unfold maxLen;omega) (by omega) G4.out.size ?_;intro v8 w8 own hg hv8;have O8:=Lib.hid own;have G8:=Lib.hid (G4.out.grown hg G4.out.size (fun j e=>(O4.out.lt j e).1));have O9:Hid (w8.ownsRow w3.heap.size 168 2 v8 (l.length-1) (entC L2)):=del_row O8.out hk HIE.out;obtain ⟨A8,c8,hv8,hr8⟩:=own_ents O9.out HLO.out;subst hv8;have R8:=Lib.hid hr8;clear own hg O4 G4 HC4 O8 hr8)
     | (go_at_call 125;refine (CB.out _ _ _ R8.out).mono ?_;rintro e w9 ⟨rfl,hb9⟩;have B9:=Lib.hid (B3.out.trans ((G8.out.trans (hb9.mono G8.out.size)).mono B3.out.size));clear hb9)
     | (go_at_call 46;refine (CW.out _ ((HR.out.below B9.out).mono B9.out.size)).mono ?_;rintro e w10 ⟨⟨v10,rfl,hv10⟩,hb10⟩;obtain ⟨A10,c10,rfl,hr10⟩:=hv10.read;have R10:=Lib.hid hr10;have B10:=Lib.hid (B9.out.trans (hb10.mono B9.out.size));clear hv10 hb10 hr10)
     | (go_at_call 91;refine (CC.out A10 c10 ys _ HLE.out R10.out).mono ?_;rintro e w11 ⟨⟨v11,rfl,hv11⟩,hb11⟩;have B11:=Lib.hid (B10.out.trans (hb11.mono B10.out.size));have O11:=Lib.hid (own_low hv11 B10.out.size);clear hv11 hb11))
    go_ret2
    rw [HRR.out]
    exact ⟨⟨_,rfl,O11.out⟩,B11.out⟩
   ·have HRR:Hid (r=([],ye)):=by show _=_;rw [HR2.out,if_pos hye]
    have h01:(ye != 0)=true:=by simpa using hye
    clear hye
    go_wp2_with fail
    apply wp_region_free (a2:={ tmps:=#[Value.slice A xs.length c,Value.int .i64 n,Value.string nm,undef,undef,undef,Value.slice none 0 0,Value.int .i64 0,Value.slice (some ⟨g,0,none⟩) l.length (k+1),Value.int .i64 0,Value.int .i64 (k:Int),Value.bool true,undef,Value.string nm,Value.bool true,Value.bool false,Value.tuple #[Value.slice (some ⟨g,0,none⟩) l.length (k+1),Value.int .i64 0],Value.slice A xs.length c,Value.int .i64 n,Value.tuple #[Value.slice (some ⟨g,0,none⟩) l.length (k+1),Value.int .i64 0],Value.slice (some ⟨g,0,none⟩) l.length (k+1),Value.int .i64 0,Value.int .i64 0,Value.bool false,undef,Value.tuple #[Value.int .i64 (k:Int),Value.bool true],Value.slice (some ⟨g,0,none⟩) l.length (k+1),Value.string nm,Value.tuple #[Value.int .i64 (k:Int),Value.bool true],Value.int .i64 (k:Int),Value.bool true,Value.bool true,Value.bool false,Value.slice (some ⟨g,0,none⟩) l.length (k+1),Value.int .i64 (k:Int),Value.slice (some ⟨g,0,none⟩) k (k+1),undef,Value.slice (some ⟨g,0,none⟩) l.length (k+1),Value.int .i64 (k:Int),Value.int .i64 ((k:Int)+1),Value.slice (some ⟨g,0,none⟩) (l.length-(k+1)) 0,undef,undef,undef,undef,undef,undef,undef,undef,undef,undef,undef,undef,undef,undef,undef,undef,undef,undef,undef,undef,undef],defers:=[] }) 3 0 4 36 _ (fun X w'=>w'.ownsRow w3.heap.size 168 2 X (0+k) ([]++entC (l.take k))) (by kernel_rfl) (by kernel_rfl) rfl
    case hΦ=>exact fun X u u' h hu=>own_below h hu
    case W1=>
     intro wb hwb
     unfold ExtC
     simp only [List.take_succ_cons,List.take_zero,List.drop_succ_cons,List.drop_zero]
     repeat (go_big_quiet_step (fail))
     exact wpQuiet_nil rfl
    case MK=>
     intro wb hwb
     obtain ⟨v',w',hrun,own,hg,_⟩:=run_append_own (P:=Tryz.prog) (w:=wb) w3.heap.size 123 _ 168 i0 (.agg #[.string ⟨#[]⟩,.int .i64 0]) 2 24 Tryz.underlying123 I0.out.1 I0.out.2.1 I0.out.2.2.1 I0.out.2.2.2 rfl (by decide) (.slice none 0 0) 0 [] (World.ownsRow_nil _ _ _ _) ⟨g,0,none⟩ k (k+1) (entC (l.take k)) (by rw [entC_len,List.length_take];omega) (HT.out wb hwb) (entC_one _) (by unfold maxLen;omega) (by omega) hwb.size
     exact ⟨v',w',exec_appE (.const (.slice none 0 0)) (.tmp 35) 123 rfl rfl rfl hrun,own,(Below.refl _ _).grown hg (Nat.le_refl _) (fun j e=>by cases e)⟩
    case UM=>
     intro X wb hwb hX
     exact wpQuiet_nil rfl
    case W2=>
     intro X wb hwb
     unfold ExtC
     simp only [List.take_succ_cons,List.take_zero,List.drop_succ_cons,List.drop_zero]
     go_frame
     repeat (go_big_quiet_step (fail))
     exact wpQuiet_nil rfl
    intro v4 w4 hb4 own4
    have O4:Hid (w4.ownsRow w3.heap.size 168 2 v4 (0+k) ([]++entC (l.take k))):=own4
    have G4:Hid (Below w3.heap.size w3 w4):=hb4
    have HC4:Hid (∀ j u,(entC (l.drop (k+1)))[j]?=some u→w4.cell? ((⟨g,0,none⟩:Addr).add j)=some u):=fun j u hu=>row_past (w:=w4) (g:=g) (k:=k+1) HC1.out hu
    simp only [List.take_succ_cons,List.take_zero,List.drop_succ_cons,List.drop_zero]
    clear hb4 own4
    go_wp2_with (first
     | (at_builtin;refine wpList_append_own _ rfl (.tmp 36) (.tmp 40) 123 rfl w3.heap.size 168 i0 (.agg #[.string ⟨#[]⟩,.int .i64 0]) 2 24 Tryz.underlying123 I0.out.1 I0.out.2.1 I0.out.2.2.1 I0.out.2.2.2 rfl (by decide) _ (0+k) ([]++entC (l.take k)) rfl O4.out ⟨g,0,none⟩ (l.length-(k+1)) 0 (entC (l.drop (k+1))) rfl (by rw [entC_len,List.length_drop]) HC4.out (entC_one _) (by unfold maxLen;omega) (by omega) G4.out.size ?_;intro v8 w8 own hg hv8;have O8:=Lib.hid own;have G8:=Lib.hid (G4.out.grown hg G4.out.size (fun j e=>(O4.out.lt j e).1));have O9:Hid (w8.ownsRow w3.heap.size 168 2 v8 (l.length-1) (entC L2)):=del_row O8.out hk HIE.out;obtain ⟨A8,c8,hv8,hr8⟩:=own_ents O9.out HLO.out;subst hv8;have R8:=Lib.hid hr8;clear own hg O4 G4 HC4 O8 hr8)
     | (go_at_call 125;refine (CB.out _ _ _ R8.out).mono ?_;rintro e w9 ⟨rfl,hb9⟩;have B9:=Lib.hid (B3.out.trans ((G8.out.trans (hb9.mono G8.out.size)).mono B3.out.size));clear hb9)
     | (go_at_call 46;refine (CW.out _ ((HR.out.below B9.out).mono B9.out.size)).mono ?_;rintro e w10 ⟨⟨v10,rfl,hv10⟩,hb10⟩;obtain ⟨A10,c10,rfl,hr10⟩:=hv10.read;have R10:=Lib.hid hr10;have B10:=Lib.hid (B9.out.trans (hb10.mono B9.out.size));clear hv10 hb10 hr10)
     | (go_at_call 91;refine (CC.out A10 c10 ys _ HLE.out R10.out).mono ?_;rintro e w11 ⟨⟨v11,rfl,hv11⟩,hb11⟩;have B11:=Lib.hid (B10.out.trans (hb11.mono B10.out.size));have O11:=Lib.hid (own_low hv11 B10.out.size);clear hv11 hb11))
    go_ret2
    rw [HRR.out]
    exact RowCode.none B10.out
 ·have k6:¬ c2=k+1:=fun e=>hkc e.symm
  have k7:((k+1:Nat):Int)<(c2:Int):=by have:=HC1.out;omega
  by_cases hone:l.length-1=0
  ·have HRR:=Lib.hid (HR0.out hone)
   have b1:bt.toList=[]:=bt_nil (by rw [HBT.out,hone])
   have b2:(bt.toList == [])=true:=by rw [b1];rfl
   have b3:bt.toList.isEmpty=true:=by rw [b1];rfl
   have HONE:=Lib.hid hone
   clear hone
   go_wp2_with fail
   apply wp_region_free (a2:={ tmps:=#[Value.slice A xs.length c,Value.int .i64 n,Value.string nm,undef,undef,undef,Value.slice none 0 0,Value.int .i64 0,Value.slice (some ⟨g,0,none⟩) l.length c2,Value.int .i64 0,Value.int .i64 (k:Int),Value.bool true,undef,Value.string nm,Value.bool true,Value.bool false,Value.tuple #[Value.slice (some ⟨g,0,none⟩) l.length c2,Value.int .i64 0],Value.slice A xs.length c,Value.int .i64 n,Value.tuple #[Value.slice (some ⟨g,0,none⟩) l.length c2,Value.int .i64 0],Value.slice (some ⟨g,0,none⟩) l.length c2,Value.int .i64 0,Value.int .i64 0,Value.bool false,undef,Value.tuple #[Value.int .i64 (k:Int),Value.bool true],Value.slice (some ⟨g,0,none⟩) l.length c2,Value.string nm,Value.tuple #[Value.int .i64 (k:Int),Value.bool true],Value.int .i64 (k:Int),Value.bool true,Value.bool true,Value.bool false,Value.slice (some ⟨g,0,none⟩) l.length c2,Value.int .i64 (k:Int),Value.slice (some ⟨g,0,none⟩) k c2,undef,Value.slice (some ⟨g,0,none⟩) l.length c2,Value.int .i64 (k:Int),Value.int .i64 ((k:Int)+1),Value.slice (some ⟨g,(k+1) * 2,none⟩) (l.length-(k+1)) (c2-(k+1)),undef,undef,undef,undef,undef,undef,undef,undef,undef,undef,undef,undef,undef,undef,undef,undef,undef,undef,undef,undef,undef],defers:=[] }) 3 0 4 36 _ (fun X w'=>w'.ownsRow w3.heap.size 168 2 X (0+k) ([]++entC (l.take k))) (by kernel_rfl) (by kernel_rfl) rfl
   case hΦ=>exact fun X u u' h hu=>own_below h hu
   case W1=>
    intro wb hwb
    unfold ExtC
    simp only [List.take_succ_cons,List.take_zero,List.drop_succ_cons,List.drop_zero]
    repeat (go_big_quiet_step (fail))
    exact wpQuiet_nil rfl
   case MK=>
    intro wb hwb
    obtain ⟨v',w',hrun,own,hg,_⟩:=run_append_own (P:=Tryz.prog) (w:=wb) w3.heap.size 123 _ 168 i0 (.agg #[.string ⟨#[]⟩,.int .i64 0]) 2 24 Tryz.underlying123 I0.out.1 I0.out.2.1 I0.out.2.2.1 I0.out.2.2.2 rfl (by decide) (.slice none 0 0) 0 [] (World.ownsRow_nil _ _ _ _) ⟨g,0,none⟩ k c2 (entC (l.take k)) (by rw [entC_len,List.length_take];omega) (HT.out wb hwb) (entC_one _) (by unfold maxLen;omega) (by omega) hwb.size
    exact ⟨v',w',exec_appE (.const (.slice none 0 0)) (.tmp 35) 123 rfl rfl rfl hrun,own,(Below.refl _ _).grown hg (Nat.le_refl _) (fun j e=>by cases e)⟩
   case UM=>
    intro X wb hwb hX
    exact wpQuiet_nil rfl
   case W2=>
    intro X wb hwb
    unfold ExtC
    simp only [List.take_succ_cons,List.take_zero,List.drop_succ_cons,List.drop_zero]
    go_frame
    repeat (go_big_quiet_step (fail))
    exact wpQuiet_nil rfl
   intro v4 w4 hb4 own4
   have O4:Hid (w4.ownsRow w3.heap.size 168 2 v4 (0+k) ([]++entC (l.take k))):=own4
   have G4:Hid (Below w3.heap.size w3 w4):=hb4
   have HC4:Hid (∀ j u,(entC (l.drop (k+1)))[j]?=some u→w4.cell? ((⟨g,(k+1) * 2,none⟩:Addr).add j)=some u):=fun j u hu=>row_drop G4.out HG3.out HC3.out (k:=k+1) hu
   simp only [List.take_succ_cons,List.take_zero,List.drop_succ_cons,List.drop_zero]
   clear hb4 own4
   go_wp2_with (first
    | (at_builtin;refine wpList_append_own _ rfl (.tmp 36) (.tmp 40) 123 rfl w3.heap.size 168 i0 (.agg #[.string ⟨#[]⟩,.int .i64 0]) 2 24 Tryz.underlying123 I0.out.1 I0.out.2.1 I0.out.2.2.1 I0.out.2.2.2 rfl (by decide) _ (0+k) ([]++entC (l.take k)) rfl O4.out ⟨g,(k+1) * 2,none⟩ (l.length-(k+1)) (c2-(k+1)) (entC (l.drop (k+1))) rfl (by rw [entC_len,List.length_drop]) HC4.out (entC_one _) (by unfold maxLen;omega) (by omega) G4.out.size ?_;intro v8 w8 own hg hv8;have O8:=Lib.hid own;have G8:=Lib.hid (G4.out.grown hg G4.out.size (fun j e=>(O4.out.lt j e).1));have O9:Hid (w8.ownsRow w3.heap.size 168 2 v8 (l.length-1) (entC L2)):=del_row O8.out hk HIE.out;obtain ⟨A8,c8,hv8,hr8⟩:=own_ents O9.out HLO.out;subst hv8;have R8:=Lib.hid hr8;clear own hg O4 G4 HC4 O8 hr8)
    | (go_at_call 125;refine (CB.out _ _ _ R8.out).mono ?_;rintro e w9 ⟨rfl,hb9⟩;have B9:=Lib.hid (B3.out.trans ((G8.out.trans (hb9.mono G8.out.size)).mono B3.out.size));clear hb9)
    | (go_at_call 46;refine (CW.out _ ((HR.out.below B9.out).mono B9.out.size)).mono ?_;rintro e w10 ⟨⟨v10,rfl,hv10⟩,hb10⟩;obtain ⟨A10,c10,rfl,hr10⟩:=hv10.read;have R10:=Lib.hid hr10;have B10:=Lib.hid (B9.out.trans (hb10.mono B9.out.size));clear hv10 hb10 hr10)
    | (go_at_call 91;refine (CC.out A c xs _ hx ((HR.out.below B9.out).mono B9.out.size)).mono ?_;rintro e w11 ⟨⟨v11,rfl,hv11⟩,hb11⟩;have B11:=Lib.hid (B9.out.trans (hb11.mono B9.out.size));have O11:=Lib.hid (own_low hv11 B9.out.size);clear hv11 hb11))
   go_ret2
   rw [HRR.out]
   exact ⟨⟨_,rfl,O11.out⟩,B11.out⟩
  ·have HR2:=Lib.hid (HR1.out hone)
   have b1:¬ bt.toList=[]:=bt_some (by rw [HBT.out];omega)
   have b2:(bt.toList == [])=false:=by simpa using b1
   have b3:bt.toList.isEmpty=false:=by simpa using b1
   have HONE:=Lib.hid hone
   clear hone
   by_cases hye:ye=0
   ·subst hye
    have HRR:Hid (r=cutO ys n ((bt.size:Nat):Int)):=by show _=_;rw [HR2.out,if_neg (by simp)]
    go_wp2_with fail
    apply wp_region_free (a2:={ tmps:=#[Value.slice A xs.length c,Value.int .i64 n,Value.string nm,undef,undef,undef,Value.slice none 0 0,Value.int .i64 0,Value.slice (some ⟨g,0,none⟩) l.length c2,Value.int .i64 0,Value.int .i64 (k:Int),Value.bool true,undef,Value.string nm,Value.bool true,Value.bool false,Value.tuple #[Value.slice (some ⟨g,0,none⟩) l.length c2,Value.int .i64 0],Value.slice A xs.length c,Value.int .i64 n,Value.tuple #[Value.slice (some ⟨g,0,none⟩) l.length c2,Value.int .i64 0],Value.slice (some ⟨g,0,none⟩) l.length c2,Value.int .i64 0,Value.int .i64 0,Value.bool false,undef,Value.tuple #[Value.int .i64 (k:Int),Value.bool true],Value.slice (some ⟨g,0,none⟩) l.length c2,Value.string nm,Value.tuple #[Value.int .i64 (k:Int),Value.bool true],Value.int .i64 (k:Int),Value.bool true,Value.bool true,Value.bool false,Value.slice (some ⟨g,0,none⟩) l.length c2,Value.int .i64 (k:Int),Value.slice (some ⟨g,0,none⟩) k c2,undef,Value.slice (some ⟨g,0,none⟩) l.length c2,Value.int .i64 (k:Int),Value.int .i64 ((k:Int)+1),Value.slice (some ⟨g,(k+1) * 2,none⟩) (l.length-(k+1)) (c2-(k+1)),undef,undef,undef,undef,undef,undef,undef,undef,undef,undef,undef,undef,undef,undef,undef,undef,undef,undef,undef,undef,undef],defers:=[] }) 3 0 4 36 _ (fun X w'=>w'.ownsRow w3.heap.size 168 2 X (0+k) ([]++entC (l.take k))) (by kernel_rfl) (by kernel_rfl) rfl
    case hΦ=>exact fun X u u' h hu=>own_below h hu
    case W1=>
     intro wb hwb
     unfold ExtC
     simp only [List.take_succ_cons,List.take_zero,List.drop_succ_cons,List.drop_zero]
     repeat (go_big_quiet_step (fail))
     exact wpQuiet_nil rfl
    case MK=>
     intro wb hwb
     obtain ⟨v',w',hrun,own,hg,_⟩:=run_append_own (P:=Tryz.prog) (w:=wb) w3.heap.size 123 _ 168 i0 (.agg #[.string ⟨#[]⟩,.int .i64 0]) 2 24 Tryz.underlying123 I0.out.1 I0.out.2.1 I0.out.2.2.1 I0.out.2.2.2 rfl (by decide) (.slice none 0 0) 0 [] (World.ownsRow_nil _ _ _ _) ⟨g,0,none⟩ k c2 (entC (l.take k)) (by rw [entC_len,List.length_take];omega) (HT.out wb hwb) (entC_one _) (by unfold maxLen;omega) (by omega) hwb.size
     exact ⟨v',w',exec_appE (.const (.slice none 0 0)) (.tmp 35) 123 rfl rfl rfl hrun,own,(Below.refl _ _).grown hg (Nat.le_refl _) (fun j e=>by cases e)⟩
    case UM=>
     intro X wb hwb hX
     exact wpQuiet_nil rfl
    case W2=>
     intro X wb hwb
     unfold ExtC
     simp only [List.take_succ_cons,List.take_zero,List.drop_succ_cons,List.drop_zero]
     go_frame
     repeat (go_big_quiet_step (fail))
     exact wpQuiet_nil rfl
    intro v4 w4 hb4 own4
    have O4:Hid (w4.ownsRow w3.heap.size 168 2 v4 (0+k) ([]++entC (l.take k))):=own4
    have G4:Hid (Below w3.heap.size w3 w4):=hb4
    have HC4:Hid (∀ j u,(entC (l.drop (k+1)))[j]?=some u→w4.cell? ((⟨g,(k+1) * 2,none⟩:Addr).add j)=some u):=fun j u hu=>row_drop G4.out HG3.out HC3.out (k:=k+1) hu
    simp only [List.take_succ_cons,List.take_zero,List.drop_succ_cons,List.drop_zero]
    clear hb4 own4
    go_wp2_with (first
     | (at_builtin;refine wpList_append_own _ rfl (.tmp 36) (.tmp 40) 123 rfl w3.heap.size 168 i0 (.agg #[.string ⟨#[]⟩,.int .i64 0]) 2 24 Tryz.underlying123 I0.out.1 I0.out.2.1 I0.out.2.2.1 I0.out.2.2.2 rfl (by decide) _ (0+k) ([]++entC (l.take k)) rfl O4.out ⟨g,(k+1) * 2,none⟩ (l.length-(k+1)) (c2-(k+1)) (entC (l.drop (k+1))) rfl (by rw [entC_len,List.length_drop]) HC4.out (entC_one _) (by unfold maxLen;omega) (by omega) G4.out.size ?_;intro v8 w8 own hg hv8;have O8:=Lib.hid own;have G8:=Lib.hid (G4.out.grown hg G4.out.size (fun j e=>(O4.out.lt j e).1));have O9:Hid (w8.ownsRow w3.heap.size 168 2 v8 (l.length-1) (entC L2)):=del_row O8.out hk HIE.out;obtain ⟨A8,c8,hv8,hr8⟩:=own_ents O9.out HLO.out;subst hv8;have R8:=Lib.hid hr8;clear own hg O4 G4 HC4 O8 hr8)
     | (go_at_call 125;refine (CB.out _ _ _ R8.out).mono ?_;rintro e w9 ⟨rfl,hb9⟩;have B9:=Lib.hid (B3.out.trans ((G8.out.trans (hb9.mono G8.out.size)).mono B3.out.size));clear hb9)
     | (go_at_call 46;refine (CW.out _ ((HR.out.below B9.out).mono B9.out.size)).mono ?_;rintro e w10 ⟨⟨v10,rfl,hv10⟩,hb10⟩;obtain ⟨A10,c10,rfl,hr10⟩:=hv10.read;have R10:=Lib.hid hr10;have B10:=Lib.hid (B9.out.trans (hb10.mono B9.out.size));clear hv10 hb10 hr10)
     | (go_at_call 91;refine (CC.out A10 c10 ys _ HLE.out R10.out).mono ?_;rintro e w11 ⟨⟨v11,rfl,hv11⟩,hb11⟩;have B11:=Lib.hid (B10.out.trans (hb11.mono B10.out.size));have O11:=Lib.hid (own_low hv11 B10.out.size);clear hv11 hb11))
    go_ret2
    rw [HRR.out]
    exact ⟨⟨_,rfl,O11.out⟩,B11.out⟩
   ·have HRR:Hid (r=([],ye)):=by show _=_;rw [HR2.out,if_pos hye]
    have h01:(ye != 0)=true:=by simpa using hye
    clear hye
    go_wp2_with fail
    apply wp_region_free (a2:={ tmps:=#[Value.slice A xs.length c,Value.int .i64 n,Value.string nm,undef,undef,undef,Value.slice none 0 0,Value.int .i64 0,Value.slice (some ⟨g,0,none⟩) l.length c2,Value.int .i64 0,Value.int .i64 (k:Int),Value.bool true,undef,Value.string nm,Value.bool true,Value.bool false,Value.tuple #[Value.slice (some ⟨g,0,none⟩) l.length c2,Value.int .i64 0],Value.slice A xs.length c,Value.int .i64 n,Value.tuple #[Value.slice (some ⟨g,0,none⟩) l.length c2,Value.int .i64 0],Value.slice (some ⟨g,0,none⟩) l.length c2,Value.int .i64 0,Value.int .i64 0,Value.bool false,undef,Value.tuple #[Value.int .i64 (k:Int),Value.bool true],Value.slice (some ⟨g,0,none⟩) l.length c2,Value.string nm,Value.tuple #[Value.int .i64 (k:Int),Value.bool true],Value.int .i64 (k:Int),Value.bool true,Value.bool true,Value.bool false,Value.slice (some ⟨g,0,none⟩) l.length c2,Value.int .i64 (k:Int),Value.slice (some ⟨g,0,none⟩) k c2,undef,Value.slice (some ⟨g,0,none⟩) l.length c2,Value.int .i64 (k:Int),Value.int .i64 ((k:Int)+1),Value.slice (some ⟨g,(k+1) * 2,none⟩) (l.length-(k+1)) (c2-(k+1)),undef,undef,undef,undef,undef,undef,undef,undef,undef,undef,undef,undef,undef,undef,undef,undef,undef,undef,undef,undef,undef],defers:=[] }) 3 0 4 36 _ (fun X w'=>w'.ownsRow w3.heap.size 168 2 X (0+k) ([]++entC (l.take k))) (by kernel_rfl) (by kernel_rfl) rfl
    case hΦ=>exact fun X u u' h hu=>own_below h hu
    case W1=>
     intro wb hwb
     unfold ExtC
     simp only [List.take_succ_cons,List.take_zero,List.drop_succ_cons,List.drop_zero]
     repeat (go_big_quiet_step (fail))
     exact wpQuiet_nil rfl
    case MK=>
     intro wb hwb
     obtain ⟨v',w',hrun,own,hg,_⟩:=run_append_own (P:=Tryz.prog) (w:=wb) w3.heap.size 123 _ 168 i0 (.agg #[.string ⟨#[]⟩,.int .i64 0]) 2 24 Tryz.underlying123 I0.out.1 I0.out.2.1 I0.out.2.2.1 I0.out.2.2.2 rfl (by decide) (.slice none 0 0) 0 [] (World.ownsRow_nil _ _ _ _) ⟨g,0,none⟩ k c2 (entC (l.take k)) (by rw [entC_len,List.length_take];omega) (HT.out wb hwb) (entC_one _) (by unfold maxLen;omega) (by omega) hwb.size
     exact ⟨v',w',exec_appE (.const (.slice none 0 0)) (.tmp 35) 123 rfl rfl rfl hrun,own,(Below.refl _ _).grown hg (Nat.le_refl _) (fun j e=>by cases e)⟩
    case UM=>
     intro X wb hwb hX
     exact wpQuiet_nil rfl
    case W2=>
     intro X wb hwb
     unfold ExtC
     simp only [List.take_succ_cons,List.take_zero,List.drop_succ_cons,List.drop_zero]
     go_frame
     repeat (go_big_quiet_step (fail))
     exact wpQuiet_nil rfl
    intro v4 w4 hb4 own4
    have O4:Hid (w4.ownsRow w3.heap.size 168 2 v4 (0+k) ([]++entC (l.take k))):=own4
    have G4:Hid (Below w3.heap.size w3 w4):=hb4
    have HC4:Hid (∀ j u,(entC (l.drop (k+1)))[j]?=some u→w4.cell? ((⟨g,(k+1) * 2,none⟩:Addr).add j)=some u):=fun j u hu=>row_drop G4.out HG3.out HC3.out (k:=k+1) hu
    simp only [List.take_succ_cons,List.take_zero,List.drop_succ_cons,List.drop_zero]
    clear hb4 own4
    go_wp2_with (first
     | (at_builtin;refine wpList_append_own _ rfl (.tmp 36) (.tmp 40) 123 rfl w3.heap.size 168 i0 (.agg #[.string ⟨#[]⟩,.int .i64 0]) 2 24 Tryz.underlying123 I0.out.1 I0.out.2.1 I0.out.2.2.1 I0.out.2.2.2 rfl (by decide) _ (0+k) ([]++entC (l.take k)) rfl O4.out ⟨g,(k+1) * 2,none⟩ (l.length-(k+1)) (c2-(k+1)) (entC (l.drop (k+1))) rfl (by rw [entC_len,List.length_drop]) HC4.out (entC_one _) (by unfold maxLen;omega) (by omega) G4.out.size ?_;intro v8 w8 own hg hv8;have O8:=Lib.hid own;have G8:=Lib.hid (G4.out.grown hg G4.out.size (fun j e=>(O4.out.lt j e).1));have O9:Hid (w8.ownsRow w3.heap.size 168 2 v8 (l.length-1) (entC L2)):=del_row O8.out hk HIE.out;obtain ⟨A8,c8,hv8,hr8⟩:=own_ents O9.out HLO.out;subst hv8;have R8:=Lib.hid hr8;clear own hg O4 G4 HC4 O8 hr8)
     | (go_at_call 125;refine (CB.out _ _ _ R8.out).mono ?_;rintro e w9 ⟨rfl,hb9⟩;have B9:=Lib.hid (B3.out.trans ((G8.out.trans (hb9.mono G8.out.size)).mono B3.out.size));clear hb9)
     | (go_at_call 46;refine (CW.out _ ((HR.out.below B9.out).mono B9.out.size)).mono ?_;rintro e w10 ⟨⟨v10,rfl,hv10⟩,hb10⟩;obtain ⟨A10,c10,rfl,hr10⟩:=hv10.read;have R10:=Lib.hid hr10;have B10:=Lib.hid (B9.out.trans (hb10.mono B9.out.size));clear hv10 hb10 hr10)
     | (go_at_call 91;refine (CC.out A10 c10 ys _ HLE.out R10.out).mono ?_;rintro e w11 ⟨⟨v11,rfl,hv11⟩,hb11⟩;have B11:=Lib.hid (B10.out.trans (hb11.mono B10.out.size));have O11:=Lib.hid (own_low hv11 B10.out.size);clear hv11 hb11))
    go_ret2
    rw [HRR.out]
    exact RowCode.none B10.out
set_option maxHeartbeats 4000000 in
theorem drop_any (A:Option Addr) (c:Nat) (xs:List ByteArray) (n:Int) (nm:ByteArray) (w:World) (hx:xs.length≤1000000) (hs:nm.size≤140737488355328) (h:RowAt w w.heap.size A (xs.map .string)) :
  Calls Tryz.prog 63 #[.slice A xs.length c,.int .i64 n,.string nm] w (RowCode (dropO xs n nm).1 (dropO xs n nm).2 w):=by
 have CM:=Lib.hid (may_any nm w hs)
 cases hm:mayB nm.data.toList with
 | false=>
  have HO:Hid (dropO xs n nm=([],7)):=by show _=_;unfold dropO;rw [if_pos hm]
  rw [hm] at CM
  clear hm h
  go_enter Tryz.func63,Tryz.ntmps63
  go_wp2_with fail
  refine CM.out.mono ?_
  rintro e w1 ⟨rfl,hb1⟩
  have B1:=Lib.hid hb1
  go_wp2
  go_ret2
  rw [HO.out]
  exact RowCode.none B1.out
 | true=>
  have CL:=Lib.hid (fun w h=>list_any A c xs n w hx h)
  have HR:=Lib.hid h
  by_cases h0:(listO xs n).2=0
  ·cases hh:hasE (listO xs n).1 nm with
   | true=>exact drop_main A c xs n nm w hx hs h (listO xs n).1 hm (by rw [← h0]) hh
   | false=>
    have HO:Hid (dropO xs n nm=([],9)):=by show _=_;unfold dropO;rw [if_neg (by rw [hm];simp),if_neg (by rw [h0];simp),if_pos hh]
    rw [hm] at CM
    have HV:=Lib.hid (listO_valid (xs:=xs) (n:=n))
    have HN:=Lib.hid (listO_len (xs:=xs) (n:=n))
    generalize listO xs n=lo at *
    obtain ⟨l,le⟩:=lo
    dsimp only at HV HN h0 hh
    subst h0
    have CS:=Lib.hid (fun A c w h=>search_any A c l nm w HN.out HV.out.rise h)
    rw [hh] at CS
    unfold ListPost at CL
    dsimp only at CL
    clear hm h hh
    go_enter Tryz.func63,Tryz.ntmps63
    go_wp2_with fail
    refine CM.out.mono ?_
    rintro e w1 ⟨rfl,hb1⟩
    have B1:=Lib.hid hb1
    clear hb1 CM
    go_wp2_with fail
    refine (CL.out _ ((HR.out.below B1.out).mono B1.out.size)).mono ?_
    rintro e w2 ⟨⟨v,rfl,hv⟩,hb2⟩
    have B2:=Lib.hid (B1.out.trans (hb2.mono B1.out.size))
    obtain ⟨A2,c2,rfl,hr2⟩:=OwnEnts.read2 hv
    have R2:=Lib.hid hr2
    clear hb2 hv hr2 CL
    go_wp2_with fail
    refine (CS.out _ _ _ R2.out).mono ?_
    rintro e w3 ⟨rfl,hb3⟩
    have B3:=Lib.hid (B2.out.trans (hb3.mono B2.out.size))
    clear hb3 CS
    go_wp2
    go_ret2
    rw [HO.out]
    exact RowCode.none B3.out
  ·have HO:Hid (dropO xs n nm=([],(listO xs n).2)):=by show _=_;unfold dropO;rw [if_neg (by rw [hm];simp),if_pos h0]
   rw [hm] at CM
   generalize listO xs n=lo at *
   obtain ⟨l,le⟩:=lo
   dsimp only at h0 HO
   unfold ListPost at CL
   dsimp only at CL
   have h01:(le != 0)=true:=by simpa using h0
   clear hm h h0
   go_enter Tryz.func63,Tryz.ntmps63
   go_wp2_with fail
   refine CM.out.mono ?_
   rintro e w1 ⟨rfl,hb1⟩
   have B1:=Lib.hid hb1
   clear hb1 CM
   go_wp2_with fail
   refine (CL.out _ ((HR.out.below B1.out).mono B1.out.size)).mono ?_
   rintro e w2 ⟨⟨v,rfl,hv⟩,hb2⟩
   have B2:=Lib.hid (B1.out.trans (hb2.mono B1.out.size))
   clear hb2 hv CL
   go_wp2
   go_ret2
   rw [HO.out]
   exact RowCode.none B2.out
end Go.Proofs.YtdldlendppkknaaGreatDoor
