/-
  TopVolume: whatever is done to a volume, one thing behind the other: nothing isn't right on it (fsck); what was refused changed nothing; nobody has more blocks than the limit. No condition.
-/
import Derived.Test.YtdldlendppkknaaGreatDoorPackV32
namespace Go.Proofs.YtdldlendppkknaaGreatDoor.topVolume
open Go.ChangeShapes Go.WideShapes Go.ChangeAt Go.RowKit
open Go.ChangeMaps (open_string shut_string)
set_option linter.unusedVariables false
set_option linter.unusedSimpArgs false
theorem wfu8 {z:Int} (h:(Lit.int .u8 z).wf=true):∃ n:Nat,z=(n:Int)∧n<256:=by
 simp [Lit.wf,IntKind.min,IntKind.max,IntKind.signed,IntKind.bits] at h;exact ⟨z.toNat,by omega,by omega⟩
theorem reads (os:Os) {H:Type} (enc:TypeId × Value→H):∃ places,DataW.whole enc Tryz.prog ((laidWorld os).forCall (fun _ _=>0) ⟨#[],#[.int .u8 0,.int .u8 0,.slice none 0 0],[]⟩).memory Tryz.f5.params.toList Rows.topVolumeSpec.vars false (#[.int .u8 0,.int .u8 0,.slice none 0 0]:Array Value).toList 8=some ([.lit (.int .u8 0),.lit (.int .u8 0),.nil],[],places):=
 ⟨[],by kernel_rfl⟩
set_option maxRecDepth 100000 in
theorem lifted (os:Os) (started:os.Started) (H:Type) (enc:TypeId × Value→H) (F:Stop.Interp) :
  ReturnsInHanded {} Tryz.checked os 5 .any ((OpenSpec.ofChange Rows.topVolumeSpec).preRow enc Tryz.prog Tryz.f5 Rows.topVolumeRow.domain false Rows.topVolumeRow.laid) (((OpenSpec.ofChange Rows.topVolumeSpec).at F).post enc Tryz.prog Tryz.f5 false true false false):=by
 obtain ⟨places,hx⟩:=reads os enc
 refine returnsInHanded_of_row (C:=Tryz.checked) (s:=OpenSpec.ofChange Rows.topVolumeSpec) own started (by kernel_rfl) Tryz.func5
  (witness_row_at (enc:=enc) (C:=Tryz.checked) false (laidWorld os) #[.int .u8 0,.int .u8 0,.slice none 0 0] (World.laidAll_os _ _ _) (by kernel_rfl) (by kernel_rfl) (by kernel_rfl)
   (OpenSpec.preRow_of_cond 8 hx (by kernel_rfl) (fun k hk=>by cases hk) (by kernel_rfl) (laid_met os _))) ?_
 intro W base args ds gs before hval0 hW _ _ _ hL _ _
 have hval:∀ (j:Nat) t v,Tryz.f5.params[j]?=some t→args[j]?=some v→Value.okWide Tryz.prog W .any base t v:=hval0
 have hW':=hW
 obtain ⟨p,q,hA0,hV,rfl,hfz,hnd⟩:=hW
 have hA:DataW.TrodAll enc Tryz.prog W 0 (fun _=>true) true Tryz.f5.params.toList args.toList ds p:=hA0
 rw [Tryz.params5] at hA hval
 obtain ⟨v0,vs0,d0,ds0,p0,q0,hargs,rfl,rfl,h0,r0⟩:=trodAll_cons hA
 obtain ⟨v1,vs1,d1,ds1,p1,q1,rfl,rfl,rfl,h1,r1⟩:=trodAll_cons r0
 obtain ⟨v2,vs2,d2,ds2,p2,q2,rfl,rfl,rfl,h2,r2⟩:=trodAll_cons r1
 obtain ⟨rfl,rfl,rfl⟩:=trodAll_nil r2
 obtain rfl:args=#[v0,v1,v2]:=by cases args;simp_all
 obtain ⟨rfl,rfl⟩:=trodVars_none hV
 obtain ⟨z0,rfl,rfl,rfl,w0⟩:=open_int Tryz.underlying5 (hval 0 5 v0 rfl rfl) h0
 obtain ⟨n0,rfl,hn0⟩:=wfu8 w0
 obtain ⟨z1,rfl,rfl,rfl,w1⟩:=open_int Tryz.underlying5 (hval 1 5 v1 rfl rfl) h1
 obtain ⟨n1,rfl,hn1⟩:=wfu8 w1
 obtain ⟨A2,c2,l2,rfl,ro2,le2,ok2⟩:=open_deeds (hval 2 22 v2 rfl rfl) h2
 have L:=laid_of hL
 exact (law_volume A2 c2 l2 n0 n1 W hn0 hn1 (by unfold maxLen at le2;omega) ok2 (fun w hb=>speaks_any w (L.later hb)) ro2).mono fun e W2 ⟨he,hb⟩=>
  ⟨_,he,law_post laidOut (by kernel_rfl) (by kernel_rfl) Tryz.underlying4 rfl hW' ⟨rfl,rfl,rfl⟩ hb⟩
theorem said:Rows.TopVolumeSaid:=
 OpenClaim.holds_of_cond 5 Tryz.f5 rfl rfl rfl rfl rfl rfl rfl ⟨rfl,rfl,rfl,rfl,rfl⟩ rfl rfl rfl rfl rfl (by kernel_rfl) Tryz.func5 (by kernel_rfl)
  (of_decide_eq_true (by kernel_rfl)) (by unfold Func.isWrapper;first | (rw [if_pos (by decide +kernel)];kernel_rfl) | (rw [if_neg (by decide +kernel)];exact ⟨rfl,rfl⟩))
  (fun os started H enc _ F=>by rw [OpenClaim.pre_eq_preRow];exact lifted os started H enc F)
theorem plain (f:FuncId) (fn:Func) (hf:Tryz.pinned.checked.prog.funcNamed "hibernacle/hibernacletop.TopVolume" = some f) (hfn:Tryz.pinned.checked.prog.funcs[f]?=some fn) :
  false=Tryz.pinned.checked.prog.looks []∧∀ (j:Nat) t,fn.params[j]?=some t→Tryz.pinned.checked.prog.wantsStandIn t=false:=by
 obtain rfl:f=5:=Option.some.inj ((show Tryz.prog.funcNamed "hibernacle/hibernacletop.TopVolume" = some 5 by kernel_rfl).symm.trans hf) |>.symm
 obtain rfl:fn=Tryz.f5:=(Option.some.inj (Tryz.func5.symm.trans hfn)).symm
 refine ⟨by kernel_rfl,fun j t ht=>?_⟩
 rw [Tryz.params5] at ht
 have hm:t ∈ [5,5,22]:=by simpa using Array.mem_of_getElem? ht
 exact (show ∀ t ∈ [5,5,22],Tryz.prog.wantsStandIn t=false by
  simp only [List.mem_cons,List.not_mem_nil,or_false]
  rintro t (rfl | rfl | rfl) <;> kernel_rfl) t hm
theorem card:Rows.TopVolumeCardSaid:=
 Claim7.holds_tied_plain_at .later [] _ _ _ _ said (fun _ h=>by cases h) (by kernel_rfl) (fun _ h=>by cases h) topVolume_row_tie rfl ⟨rfl,rfl⟩ (by kernel_rfl) rfl plain (by kernel_rfl)
#print axioms card
end Go.Proofs.YtdldlendppkknaaGreatDoor.topVolume
