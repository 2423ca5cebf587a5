/-
  Contracts and plain laws: FskF, FskL, Alike, QuoK, LimA.
-/
import Derived.Test.YtdldlendppkknaaGreatDoorPackV30
namespace Go.Proofs.YtdldlendppkknaaGreatDoor
open Go.RowKit Go.Maps
set_option linter.unusedVariables false
set_option linter.unusedSimpArgs false
set_option maxRecDepth 100000
structure FkT (V:List ByteArray) (m:Nat) (f:Nat→Int→Option Value) (P:List Nat):Prop where
 ino:∀ z v,f 0 z=some v→∃ k ∈ P,z=((k:Nat):Int)∧v=.agg (inoC (getR V (k:Int)))
 has:∀ k ∈ P,f 0 ((k:Nat):Int)=some (.agg (inoC (getR V (k:Int))))
 named:CntF (f 1) (P.flatMap fun n:Nat=>dataL V m (getR V (n:Int)))
 list:∀ z v,f 2 z=some v→∃ k ∈ P,z=((k:Nat):Int)∧kindR V k=2
 dirs:∀ d ∈ P,(f 2 ((d:Nat):Int)).isSome=decide (kindR V d=2)
 ents:CntF (f 3) (inosL V P)
section
variable {V:List ByteArray} {m k:Nat} {f f':Nat→Int→Option Value} {P:List Nat}
theorem CntF.none:CntF (fun _=>none) []:=fun b=>rfl
theorem FkT.none:FkT V m (fun _ _=>none) []:=⟨fun _ _ h=>(by cases h),fun _ h=>(by cases h),CntF.none,fun _ _ h=>(by cases h),fun _ h=>(by cases h),CntF.none⟩
theorem FkT.all (h:FkT V m f (allR V m)):FkV V m f:=
 ⟨fun z v hv=>(let ⟨k,a,b,c⟩:=h.ino z v hv;⟨k,b,live_iff.2 a,c⟩),fun k hk=>h.has k (live_iff.1 hk),h.named,fun z v hv=>(let ⟨k,a,b,c⟩:=h.list z v hv;⟨k,b,live_iff.2 a,c⟩),fun d hd=>h.dirs d (live_iff.1 hd),h.ents⟩
theorem FkT.step (h:FkT V m f P) (h0:f' 0=updF (f 0) (k:Int) (.agg (inoC (getR V (k:Int))))) (h1:CntF (f' 1) (P.flatMap (fun n:Nat=>dataL V m (getR V (n:Int)))++dataL V m (getR V (k:Int))))
  (h2:kindR V k≠2∧f' 2=f 2∨kindR V k=2∧∃ v,f' 2=updF (f 2) (k:Int) v) (h3:CntF (f' 3) (inosL V P++if kindR V k=2 then (entD V k).map (·.ino.toNat) else [])):FkT V m f' (P++[k]):=by
 have mem:∀ j,j ∈ P++[k]↔j ∈ P∨j=k:=fun j=>by simp
 refine ⟨fun z v hv=>?_,fun j hj=>?_,?_,fun z v hv=>?_,fun d hd=>?_,?_⟩
 ·rw [h0] at hv
  unfold updF at hv
  by_cases e:z=(k:Int)
  ·rw [if_pos e] at hv;cases hv;exact ⟨k,(mem k).2 (.inr rfl),e,rfl⟩
  ·rw [if_neg e] at hv
   obtain ⟨j,a,b,c⟩:=h.ino z v hv
   exact ⟨j,(mem j).2 (.inl a),b,c⟩
 ·rw [h0]
  unfold updF
  by_cases e:j=k
  ·rw [if_pos (by omega),e]
  ·rw [if_neg (by omega)];exact h.has j (((mem j).1 hj).resolve_right e)
 ·rw [List.flatMap_append,List.flatMap_cons,List.flatMap_nil,List.append_nil];exact h1
 ·rcases h2 with ⟨hk,e2⟩ | ⟨hk,u,e2⟩
  ·rw [e2] at hv
   obtain ⟨j,a,b,c⟩:=h.list z v hv
   exact ⟨j,(mem j).2 (.inl a),b,c⟩
  ·rw [e2] at hv
   unfold updF at hv
   by_cases e:z=(k:Int)
   ·exact ⟨k,(mem k).2 (.inr rfl),e,hk⟩
   ·rw [if_neg e] at hv
    obtain ⟨j,a,b,c⟩:=h.list z v hv
    exact ⟨j,(mem j).2 (.inl a),b,c⟩
 ·rcases h2 with ⟨hk,e2⟩ | ⟨hk,u,e2⟩
  ·rw [e2]
   by_cases e:d=k
   ·rw [e,decide_eq_false hk]
    cases hv:f 2 (k:Int) with
    | none=>rfl
    | some v=>
     obtain ⟨j,a,b,c⟩:=h.list _ v hv
     have:j=k:=by omega
     rw [this] at c
     exact absurd c hk
   ·exact h.dirs d (((mem d).1 hd).resolve_right e)
  ·rw [e2]
   unfold updF
   by_cases e:d=k
   ·rw [if_pos (by omega),e,decide_eq_true hk];rfl
   ·rw [if_neg (by omega)];exact h.dirs d (((mem d).1 hd).resolve_right e)
 ·unfold inosL at h3 ⊢
  rw [List.flatMap_append,List.flatMap_cons,List.flatMap_nil,List.append_nil];exact h3
end
theorem numsL_le (V:List ByteArray) (m:Nat) (l:List Nat):(numsL V m l).length≤72:=by
 unfold numsL
 rw [List.length_append]
 split <;> simp
theorem flat_le (V:List ByteArray) (m:Nat):∀ P:List Nat,(P.flatMap fun n:Nat=>dataL V m (getR V (n:Int))).length≤72 * P.length
 | []=>Nat.zero_le _
 | k::P=>by
  have h1:=flat_le V m P
  have h2:=List.length_filter_le (datB V m) (numsL V m (getR V (k:Int)))
  have h3:=numsL_le V m (getR V (k:Int))
  rw [List.flatMap_cons,List.length_append,List.length_cons]
  unfold dataL at h1 ⊢
  omega
theorem inos_le (V:List ByteArray):∀ P:List Nat,(inosL V P).length≤280 * P.length
 | []=>Nat.zero_le _
 | k::P=>by
  have h1:=inos_le V P
  have h2:(entD V k).length≤280:=listO_len
  unfold inosL at h1 ⊢
  rw [List.flatMap_cons,List.length_append,List.length_cons]
  split
  ·rw [List.length_map];omega
  ·rw [List.length_nil];omega
theorem InvT.zero_nums {V:List ByteArray} {m k:Nat} (h:InvT V m) (hk:LiveT V m k):∀ r ∈ numsL V m (getR V (k:Int)),ZeroD V m r:=fun r hr=>by
 obtain ⟨h1,h2⟩:=(h.good k hk).own.raw
 unfold numsL at hr
 rcases List.mem_append.1 hr with hr | hr
 ·obtain ⟨i,hi,rfl⟩:=List.mem_map.1 hr
  have:=List.mem_range.1 hi
  by_cases e:i=7
  ·subst e;exact h.zeroE hk
  ·exact h1 (4+i) (by omega) (by omega)
 ·split at hr
  ·rename_i hd
   obtain ⟨i,hi,rfl⟩:=List.mem_map.1 hr
   have e:slotX V m (getR V (k:Int)) 70=(getR V (k:Int)).getD 10 0:=by rw [slotX_ind,if_pos hd]
   rw [e] at h2
   exact h2 (by have:=datB_pos hd;omega) i (List.mem_range.1 hi)
  ·cases hr
theorem MapIs.of_void {w:World} {b:Nat} (h:w.heap[b]?=some (.map #[] 0)):MapIs w b 0 (fun _=>none):=
 ⟨.map [],⟨#[],0,h,⟨by simp,Go.MapKept.stamped_empty 0,by simp⟩,Nat.le_refl _,rfl⟩,isMap_empty,fun z=>⟨fun v h=>(by cases h),fun _=>rfl⟩⟩
theorem five_maps (w:World) {k:Nat} (hk:k<5) (o:Obj):((((((w.alloc (.map #[] 0)).alloc (.map #[] 0)).alloc (.map #[] 0)).alloc (.map #[] 0)).alloc (.map #[] 0)).alloc o).heap[w.heap.size+k]?=some (.map #[] 0):=by
 have old:=fun (W:World) (o:Obj) {k:Nat} {x:Option Obj} (h:W.heap[k]?=x) (hk:k<W.heap.size)=>(Below.heap_alloc W o k hk).trans h
 have new:=fun (W:World) (j:Nat) (e:W.heap.size=j)=>e▸World.alloc_heap_new W (.map #[] 0)
 have h:k=0∨k=1∨k=2∨k=3∨k=4:=by omega
 rcases h with rfl | rfl | rfl | rfl | rfl
 ·exact old _ _ (old _ _ (old _ _ (old _ _ (old _ _ (new _ _ rfl) (by simp)) (by simp <;> omega)) (by simp <;> omega)) (by simp <;> omega)) (by simp <;> omega)
 ·exact old _ _ (old _ _ (old _ _ (old _ _ (new _ _ (by simp)) (by simp)) (by simp <;> omega)) (by simp <;> omega)) (by simp <;> omega)
 ·exact old _ _ (old _ _ (old _ _ (new _ _ (by simp)) (by simp)) (by simp <;> omega)) (by simp <;> omega)
 ·exact old _ _ (old _ _ (new _ _ (by simp)) (by simp)) (by simp <;> omega)
 ·exact old _ _ (new _ _ (by simp)) (by simp)
theorem fk_start {E:FkE} {w1:World} (hb:Below E.w0.heap.size E.w0 w1) (hp:E.p=w1.heap.size) (hq:E.q=w1.heap.size+5):FkS E 0 (fun _ _=>none) ((((((w1.alloc (.map #[] 0)).alloc (.map #[] 0)).alloc (.map #[] 0)).alloc (.map #[] 0)).alloc (.map #[] 0)).alloc (.cells (fkC E) 216)):=by
 have h1:=hb.size
 refine ⟨?_,(((((hb.alloc h1 _).alloc (by simp;omega) _).alloc (by simp;omega) _).alloc (by simp;omega) _).alloc (by simp;omega) _).alloc (by simp;omega) _,by omega,fun k hk=>MapIs.of_void (by rw [hp];exact five_maps w1 (by omega) _),by rw [hp];exact five_maps w1 (by omega) _,fun d v h=>(by cases h)⟩
 have h2:=Blk.new (((((w1.alloc (.map #[] 0)).alloc (.map #[] 0)).alloc (.map #[] 0)).alloc (.map #[] 0)).alloc (.map #[] 0)) 216 (fkC E)
 have h3:(((((w1.alloc (.map #[] 0)).alloc (.map #[] 0)).alloc (.map #[] 0)).alloc (.map #[] 0)).alloc (.map #[] 0)).heap.size=E.q:=by simp;omega
 rw [h3] at h2
 exact h2
set_option maxHeartbeats 16000000 in
theorem looked_any (A:Option Addr) (c:Nat) (V:List ByteArray) (m:Nat) (w:World) (hx:V.length≤1000000) (t:RootT V m) (hl:LimT V) (h:RowAt w w.heap.size A (V.map .string)) :
  Calls Tryz.prog 66 #[.slice A V.length c,.agg #[.int .i64 (V.length:Int),.int .i64 (m:Int),.int .i64 1,.int .i64 2,.int .i64 3,.int .i64 (dataN m:Nat)]] w fun e w'=>∃ E n f,E.w0=w∧e=.returned (.pointer (some ⟨E.q,0,none⟩))∧FkS E n f w':=by
 obtain ⟨w1,hw1⟩:∃ w1,w.alloc (.cells #[.int .i64 (V.length:Int),.int .i64 (m:Int),.int .i64 1,.int .i64 2,.int .i64 3,.int .i64 (dataN m:Nat)] 51)=w1:=⟨_,rfl⟩
 have B1:Hid (Below w.heap.size w w1):=hw1▸(Below.refl _ _).alloc (Nat.le_refl _) _
 have X1:Hid (Blk w1 w.heap.size 51 #[.int .i64 (V.length:Int),.int .i64 (m:Int),.int .i64 1,.int .i64 2,.int .i64 3,.int .i64 (dataN m:Nat)]):=hw1▸Blk.new w _ _
 have hmm:=@run_makeMap Tryz.prog
 have HR:=Lib.hid h
 have HX:=Lib.hid hx
 have HT:=Lib.hid t
 have HL:=Lib.hid hl
 clear h hx t hl
 go_enter Tryz.func66,Tryz.ntmps66
 go_wp2_with (first
  | (refine load_blk 51 (.tmp 3) w.heap.size 51 #[.int .i64 (V.length:Int),.int .i64 (m:Int),.int .i64 1,.int .i64 2,.int .i64 3,.int .i64 (dataN m:Nat)] _ rfl rfl rfl X1.out Tryz.underlying51 rfl (by kernel_rfl) ?_;go_frame))
 obtain ⟨w2,hw2,hs2⟩:∃ w2,((((((w1.alloc (.map #[] 0)).alloc (.map #[] 0)).alloc (.map #[] 0)).alloc (.map #[] 0)).alloc (.map #[] 0)).alloc (.cells #[.slice A V.length c,.int .i64 (V.length:Int),.int .i64 (m:Int),.int .i64 1,.int .i64 2,.int .i64 3,.int .i64 (dataN m:Nat),.map (some w1.heap.size),.map (some (w1.heap.size+1)),.map (some (w1.heap.size+1+1)),.map (some (w1.heap.size+1+1+1)),.map (some (w1.heap.size+1+1+1+1))] 216))=w2∧FkS ⟨w,A,c,V,m,w1.heap.size,w1.heap.size+1+1+1+1+1⟩ 0 (fun _ _=>none) w2:=⟨_,rfl,fk_start B1.out rfl rfl⟩
 rw [hw2]
 have S2:=Lib.hid hs2
 clear hw2 hs2 X1 hw1 hmm
 have hp1:=B1.out.size
 have HP1:=Lib.hid hp1
 generalize w1.heap.size=p at *
 clear hp1
 obtain ⟨q,hq⟩:∃ q,p+1+1+1+1+1=q:=⟨_,rfl⟩
 rw [hq] at S2 ⊢
 have HQ:=Lib.hid hq
 clear hq
 have hv:=HT.out.vol
 have hal:allO V=allR V m:=by unfold allO;rw [ofR_some.2 hv]
 refine (all_ino A c V w2 HX.out (S2.out.row HR.out)).mono ?_
 rw [hal]
 rintro e w3 ⟨⟨v,rfl,hown⟩,hb3⟩
 obtain ⟨A3,c3,rfl,hr3⟩:=hown.read
 have hbase:=own_row hown
 have HQ2:Hid (q<w2.heap.size):=S2.out.blk.lt
 have S3:=Lib.hid (S2.out.later hb3)
 have R3:=Lib.hid hr3
 have HNS:Hid (∀ k ∈ allR V m,LiveT V m k):=fun k hk=>live_iff.2 hk
 have HNL:Hid ((allR V m).length≤64):=by have:=allR_len V m;have:=hv.len;unfold dataN at this;show _≤_;omega
 have HEND:Hid (∀ f,FkT V m f (allR V m)→FkV V m f):=fun f h=>h.all
 clear hown hr3 hb3 hal
 generalize allR V m=ns at *
 have HBA:Hid (∀ bb oo,A3=some ⟨bb,oo,none⟩→p+4<bb):=fun bb oo e=>by
  have:=hbase bb (by rw [e];rfl)
  have:=HQ2.out
  have:=HQ.out
  omega
 clear hbase hv
 go_wp2
 go_loopw [7,8,9,10,11,13,26] (fun _ _ _ _ _ _ i wr=>∃ (j n:Nat) (f:Nat→Int→Option Value),j≤ns.length∧i=.int .i64 (j:Int)∧Hid (n≤400 * j)∧Hid (FkS ⟨w,A,c,V,m,p,q⟩ n f wr)∧Hid (FkT V m f (ns.take j))∧Hid (FkK ⟨w,A,c,V,m,p,q⟩ w3 wr)) (fun _ _ _ _ _ _ i _=>ns.length-(intOf i).toNat)
 case atStart=>exact ⟨0,0,_,Nat.zero_le _,rfl,Nat.le_refl _,S3,FkT.none,FkK.refl _ _⟩
 case round=>
  clear S3
  obtain ⟨j,n,f,hj,rfl,HN,S,T,K⟩:=hrel
  by_cases hlt:j<ns.length
  ·obtain ⟨bA,oA,rfl,hbA,hcA⟩:=R3.out.at_ (by rw [show (numsC ns).length=ns.length by simp [numsC]];omega)
   obtain ⟨k,hk⟩:∃ k,ns[j]=k:=⟨_,rfl⟩
   have hK:=K.out.block bA hbA (.inr (HBA.out bA oA rfl))
   have ck:wr.cell? ⟨bA,oA+j,none⟩=some (.int .i64 (k:Int)):=(World.cell?_of_block (a:=⟨bA,oA+j,none⟩) hK).trans (hcA j _ (by simp [numsC,hlt,hk]))
   have hkl:LiveT V m k:=by rw [← hk];exact HNS.out _ (List.getElem_mem hlt)
   have HTK:Hid (ns.take (j+1)=ns.take j++[k]):=by show _=_;rw [List.take_add_one,List.getElem?_eq_getElem hlt,hk];rfl
   have hm64:k≤64:=by have:=hkl.2.1;have:=HT.out.vol.len;unfold dataN at this;omega
   have hl12:=getR_len V (k:Int)
   have CG:=Lib.hid (get_ino A c V (k:Int) wr HX.out (S.out.row HR.out))
   rw [inoE_zero HT.out.vol hkl.1 hkl.2.1] at CG
   have i2:(j:Int)<(ns.length:Int):=by omega
   have i3:(0:Int)≤(j:Int):=by omega
   have ws:IntKind.i64.wrap ((j:Int)+1)=(j:Int)+1:=IntWalk.i64_in _ (by have:=HNL.out;omega)
   obtain ⟨a0,a1,a2,a3,a4,a5,a6,a7,a8,a9,a10,a11,hg2⟩:=len12 hl12
   have hino:inoC (getR V (k:Int))=#[.int .i64 a0,.int .i64 a1,.int .i64 a2,.int .i64 a3,.int .i64 a4,.int .i64 a5,.int .i64 a6,.int .i64 a7,.int .i64 a8,.int .i64 a9,.int .i64 a10,.int .i64 a11]:=by rw [hg2];rfl
   have HINO:=Lib.hid hino
   have HKD:Hid (a0=kindR V k):=by show _=_;rw [← kind_getT HT.out.vol hkl.1 hkl.2.1,hg2];rfl
   have HKL:=Lib.hid hkl
   rw [hino] at CG
   clear hcA hbA hK hk hg2 hino hl12
   go_wp2_with fail
   refine CG.out.mono ?_
   rintro e w4 ⟨rfl,hb4⟩
   have S4:=Lib.hid (S.out.later hb4)
   have K4:=Lib.hid (K.out.later hb4)
   clear hb4 CG ck S K
   obtain ⟨w5,hw5⟩:∃ w5,w4.alloc (.cells #[.int .i64 a0,.int .i64 a1,.int .i64 a2,.int .i64 a3,.int .i64 a4,.int .i64 a5,.int .i64 a6,.int .i64 a7,.int .i64 a8,.int .i64 a9,.int .i64 a10,.int .i64 a11] 39)=w5:=⟨_,rfl⟩
   have hb5:Below w4.heap.size w4 w5:=hw5▸(Below.refl _ _).alloc (Nat.le_refl _) _
   have X5:Hid (Blk w5 w4.heap.size 39 #[.int .i64 a0,.int .i64 a1,.int .i64 a2,.int .i64 a3,.int .i64 a4,.int .i64 a5,.int .i64 a6,.int .i64 a7,.int .i64 a8,.int .i64 a9,.int .i64 a10,.int .i64 a11]):=hw5▸Blk.new w4 _ _
   have S5:=Lib.hid (S4.out.later hb5)
   have K5:=Lib.hid (K4.out.later hb5)
   have HX4:Hid (p+4<w4.heap.size):=by show _<_;have h8:q<w4.heap.size:=S4.out.blk.lt;have h9:=HQ.out;omega
   clear hb5
   obtain ⟨w6,hrun,hm6,hg6⟩:=((S5.out.map 0 (by omega)).same (w':=w5.drew) rfl).put Tryz.underlying211 (by have:=HN.out;have:=HNL.out;omega) (k:Int) (wf_nat (by omega)) (.agg #[.int .i64 a0,.int .i64 a1,.int .i64 a2,.int .i64 a3,.int .i64 a4,.int .i64 a5,.int .i64 a6,.int .i64 a7,.int .i64 a8,.int .i64 a9,.int .i64 a10,.int .i64 a11])
   have hrun:(Instr.mapUpdate 211 (.map (some p)) (.int .i64 (k:Int)) (.agg #[.int .i64 a0,.int .i64 a1,.int .i64 a2,.int .i64 a3,.int .i64 a4,.int .i64 a5,.int .i64 a6,.int .i64 a7,.int .i64 a8,.int .i64 a9,.int .i64 a10,.int .i64 a11])).run Tryz.prog w5.drew=.ok () w6:=hrun
   have S6:=Lib.hid ((S5.out.later (Below.refl w5.heap.size w5).drew).put (k:=0) (by omega) hg6 hm6 (fun h=>by cases h))
   have K6:=Lib.hid ((K5.out.later (Below.refl w5.heap.size w5).drew).put (k:=0) (by omega) hg6)
   have X6:=Lib.hid ((X5.out.drew).grown hg6 (by have:=HX4.out;simp;omega))
   have c7:w5.cell? ⟨q,7,none⟩=some (.map (some p)):=S5.out.blk.cell 7 rfl
   have x0:w5.cell? ⟨w4.heap.size,0,none⟩=some (.int .i64 (a0:Int)):=X5.out.cell 0 rfl
   have x1:w5.cell? ⟨w4.heap.size,1,none⟩=some (.int .i64 (a1:Int)):=X5.out.cell 1 rfl
   have x2:w5.cell? ⟨w4.heap.size,2,none⟩=some (.int .i64 (a2:Int)):=X5.out.cell 2 rfl
   have x3:w5.cell? ⟨w4.heap.size,3,none⟩=some (.int .i64 (a3:Int)):=X5.out.cell 3 rfl
   have x4:w5.cell? ⟨w4.heap.size,4,none⟩=some (.int .i64 (a4:Int)):=X5.out.cell 4 rfl
   have x5:w5.cell? ⟨w4.heap.size,5,none⟩=some (.int .i64 (a5:Int)):=X5.out.cell 5 rfl
   have x6:w5.cell? ⟨w4.heap.size,6,none⟩=some (.int .i64 (a6:Int)):=X5.out.cell 6 rfl
   have x7:w5.cell? ⟨w4.heap.size,7,none⟩=some (.int .i64 (a7:Int)):=X5.out.cell 7 rfl
   have x8:w5.cell? ⟨w4.heap.size,8,none⟩=some (.int .i64 (a8:Int)):=X5.out.cell 8 rfl
   have x9:w5.cell? ⟨w4.heap.size,9,none⟩=some (.int .i64 (a9:Int)):=X5.out.cell 9 rfl
   have x10:w5.cell? ⟨w4.heap.size,10,none⟩=some (.int .i64 (a10:Int)):=X5.out.cell 10 rfl
   have x11:w5.cell? ⟨w4.heap.size,11,none⟩=some (.int .i64 (a11:Int)):=X5.out.cell 11 rfl
   have CN:=Lib.hid (numbers_fk S6.out k (getR V (k:Int)) ((ns.take j).flatMap fun n:Nat=>dataL V m (getR V (n:Int))) (by have:=HN.out;have:=HNL.out;omega) (by have h1:=flat_le V m (ns.take j);have h2:=HNL.out;rw [List.length_take] at h1;omega) (by omega) (getR_len V _) (HT.out.tree.dir.inv.zero_nums HKL.out) HX.out HT.out.vol.1 HR.out T.out.named)
   rw [HINO.out] at CN
   dsimp only at CN
   clear hm6 hg6 S5 K5
   go_upto_region 6 with fail
   go_region
   clear x0 x1 x2 x3 x4 x5 x6 x7 x8 x9 x10 x11 c7 hrun hw5 X5
   go_wp2_with (refine load_blk 39 (.tmp 8) w4.heap.size 39 #[.int .i64 a0,.int .i64 a1,.int .i64 a2,.int .i64 a3,.int .i64 a4,.int .i64 a5,.int .i64 a6,.int .i64 a7,.int .i64 a8,.int .i64 a9,.int .i64 a10,.int .i64 a11] _ rfl rfl rfl X6.out Tryz.underlying39 rfl (by kernel_rfl) ?_;go_frame)
   refine CN.out.mono ?_
   rintro e w7 ⟨rfl,n7,f7,hn7,hs7,hf7,hc7,hk7⟩
   have S7:=Lib.hid hs7
   have K7:=Lib.hid (K6.out.trans hk7)
   have X7:Hid (Blk w7 w4.heap.size 39 #[.int .i64 a0,.int .i64 a1,.int .i64 a2,.int .i64 a3,.int .i64 a4,.int .i64 a5,.int .i64 a6,.int .i64 a7,.int .i64 a8,.int .i64 a9,.int .i64 a10,.int .i64 a11]):=(hk7.block _ X6.out.lt (.inr HX4.out)).trans X6.out
   have HN7:Hid (n7≤400 * j+73):=by show _≤_;have:=HN.out;omega
   have F0:Hid (f7 0=updF (f 0) (k:Int) (.agg (inoC (getR V (k:Int))))):=by show _=_;rw [hf7 0 (by omega),HINO.out];rfl
   have F1:=Lib.hid hc7
   have F2:Hid (f7 2=f 2):=by show _=_;rw [hf7 2 (by omega)];rfl
   have F3:Hid (f7 3=f 3):=by show _=_;rw [hf7 3 (by omega)];rfl
   have x0:=X7.out.cell 0 rfl
   clear hs7 hk7 hf7 hc7 hn7 S6 K6 X6 CN X7
   by_cases h2:a0=2
   ·have q0:((a0:Int) != 2)=false:=by simp;omega
    have hkk:kindR V k=2:=by rw [← HKD.out];exact h2
    have hli:listO V (k:Int)=(entD V k,0):=(HT.out.tree.dir.dir k HKL.out hkk).list
    have CL:=Lib.hid (list_any A c V (k:Int) w7 HX.out (S7.out.row HR.out))
    rw [hli] at CL
    unfold ListPost at CL
    have HNM:=Lib.hid (fun x hx=>HT.out.tree.name k HKL.out hkk x hx)
    have HLL:Hid ((entD V k).length≤280):=listO_len
    have HKK:=Lib.hid hkk
    have HWF:Hid ((Lit.int .i64 (k:Int)).wf=true):=wf_nat (by omega)
    have HN8:Hid (n7<1000000):=by show _<_;have:=HN7.out;have:=HNL.out;omega
    clear h2 hkk hli
    go_wp2_with fail
    refine CL.out.mono ?_
    rintro e w8 ⟨⟨v,rfl,hv⟩,hb8⟩
    obtain ⟨A8,c8,rfl,hr8⟩:=OwnEnts.read2 hv
    have S8:=Lib.hid (S7.out.later hb8)
    have K8:=Lib.hid (K7.out.later hb8)
    have R8:=Lib.hid hr8
    have c9:w8.cell? ⟨q,9,none⟩=some (.map (some (p+2))):=S8.out.blk.cell 9 rfl
    clear hv hb8 hr8 CL S7 K7 x0
    go_wp2_with (at_mapUpdate;refine wpList_map_put _ rfl _ _ _ 213 (.inl rfl) 123 Tryz.underlying213 (p+2) n7 (f7 2) rfl (S8.out.map 2 (by omega)) HN8.out (k:Int) rfl HWF.out (.slice A8 (entD V k).length c8) rfl ?_;intro w9 hm9 hg9)
    obtain ⟨f9,hf9⟩:∃ f9:Nat→Int→Option Value,(fun j=>if j=2 then updF (f7 2) (k:Int) (.slice A8 (entD V k).length c8) else f7 j)=f9:=⟨_,rfl⟩
    have S9:=Lib.hid (S8.out.put (k:=2) (by omega) hg9 hm9 (fun _=>⟨k,rfl,A8,c8,rfl,R8.out⟩))
    rw [hf9] at S9
    have K9:=Lib.hid (K8.out.put (k:=2) (by omega) hg9)
    have G0:Hid (f9 0=updF (f 0) (k:Int) (.agg (inoC (getR V (k:Int))))):=by show _=_;rw [← hf9,← F0.out];rfl
    have G1:Hid (CntF (f9 1) (((ns.take j).flatMap fun n:Nat=>dataL V m (getR V (n:Int)))++dataL V m (getR V (k:Int)))):=by show CntF _ _;rw [← hf9];exact F1.out
    have G2:Hid (f9 2=updF (f 2) (k:Int) (.slice A8 (entD V k).length c8)):=by show _=_;rw [← hf9,← F2.out];rfl
    have G3:Hid (CntF (f9 3) (inosL V (ns.take j))):=by
     have:=T.out.ents
     rw [← F3.out] at this
     show CntF _ _;rw [← hf9];exact this
    clear hm9 hg9 hf9 S8 K8 R8 c9 F0 F1 F2 F3
    have hil:=inos_le V (ns.take j)
    have HIL:Hid ((inosL V (ns.take j)).length≤18000):=by show _≤_;have h2:=HNL.out;rw [List.length_take] at hil;omega
    clear hil
    go_wp2
    go_loopw [13,68] (fun _ i wx=>∃ (i0 n':Nat) (f':Nat→Int→Option Value),i0≤(entD V k).length∧i=.int .i64 (i0:Int)∧Hid (n'≤n7+1+i0)∧Hid (FkS ⟨w,A,c,V,m,p,q⟩ n' f' wx)∧Hid (∀ j,j≠3→f' j=f9 j)∧Hid (CntF (f' 3) (inosL V (ns.take j)++((entD V k).take i0).map (·.ino.toNat)))∧Hid (FkK ⟨w,A,c,V,m,p,q⟩ w3 wx)) (fun _ i _=>(entD V k).length-(intOf i).toNat)
    case atStart=>exact ⟨0,n7+1,f9,Nat.zero_le _,rfl,Nat.le_refl _,S9,fun _ _=>rfl,by rw [List.take_zero,List.map_nil,List.append_nil];exact G3,K9⟩
    case round=>
     clear S9 K9 G3
     obtain ⟨i0,n',f',hi,rfl,HN',S,HF,HCT,K⟩:=hrel
     by_cases hlt2:i0<(entD V k).length
     ·have hf2:f' 2 (k:Int)=some (.slice A8 (entD V k).length c8):=by rw [HF.out 2 (by omega),G2.out];unfold updF;rw [if_pos rfl]
      obtain ⟨A',c',e8,hrow⟩:=S.out.rows k _ hf2
      cases e8
      obtain ⟨bB,oB,rfl,hbB,hrB⟩:=EntsAt.get hrow hlt2
      obtain ⟨y,hy,hyl,_⟩:=HNM.out _ (List.getElem_mem hlt2)
      have hm64:y≤64:=by have:=hyl.2.1;have:=HT.out.vol.len;unfold dataN at this;omega
      have HTE:Hid (((entD V k).take (i0+1)).map (·.ino.toNat)=((entD V k).take i0).map (·.ino.toNat)++[y]):=by
       show _=_
       rw [List.take_add_one,List.getElem?_eq_getElem hlt2,List.map_append]
       show _++[(entD V k)[i0].ino.toNat]=_
       rw [hy];rfl
      generalize (entD V k)[i0]=z at *
      obtain ⟨nm,ino⟩:=z
      dsimp only at hy hrB
      subst hy
      have HRB:Hid (wr.rangeAt bB (oB+i0 * 2) [.string nm,.int .i64 (y:Int)]):=hrB
      obtain ⟨w10,hw10⟩:∃ w10,wr.alloc (.cells #[.string nm,.int .i64 (y:Int)] 168)=w10:=⟨_,rfl⟩
      have hb10:Below wr.heap.size wr w10:=hw10▸(Below.refl _ _).alloc (Nat.le_refl _) _
      have x1:w10.cell? ⟨wr.heap.size,1,none⟩=some (.int .i64 (y:Int)):=hw10▸(Blk.new wr _ _).cell 1 rfl
      have S10:=Lib.hid (S.out.later (hb10.trans ((Below.refl w10.heap.size w10).drew.mono hb10.size)))
      have K10:=Lib.hid (K.out.later (hb10.trans ((Below.refl w10.heap.size w10).drew.mono hb10.size)))
      have c10:w10.cell? ⟨q,10,none⟩=some (.map (some (p+3))):=(S.out.later hb10).blk.cell 10 rfl
      have hcr:=HCT.out y
      have HST:=Lib.hid (HCT.out.step y)
      rw [List.append_assoc,← HTE.out] at HST
      have hcl:(inosL V (ns.take j)++((entD V k).take i0).map (·.ino.toNat)).count y≤1000000:=by
       refine Nat.le_trans List.count_le_length ?_
       rw [List.length_append,List.length_map,List.length_take]
       have:=HIL.out
       have:=HLL.out
       omega
      have LK:=S10.out.int (k:=3) (by omega) (wf_nat (k:=y) (by omega)) hcr
      generalize (inosL V (ns.take j)++((entD V k).take i0).map (·.ino.toNat)).count y=x at *
      have s1:IntKind.i64.wrap ((x:Int)+1)=(x:Int)+1:=IntWalk.i64_in _ (by omega)
      obtain ⟨w11,hrun,hm11,hg11⟩:=(S10.out.map 3 (by omega)).put Tryz.underlying212 (by have:=HN'.out;have:=HN7.out;have:=HNL.out;have:=HLL.out;omega) (y:Int) (wf_nat (by omega)) (.int .i64 ((x:Int)+1))
      have hrun:(Instr.mapUpdate 212 (.map (some (p+3))) (.int .i64 (y:Int)) (.int .i64 ((x:Int)+1))).run Tryz.prog w10.drew=.ok () w11:=hrun
      obtain ⟨f2,hf9⟩:∃ f2:Nat→Int→Option Value,(fun j=>if j=3 then updF (f' 3) (y:Int) (.int .i64 ((x:Int)+1)) else f' j)=f2:=⟨_,rfl⟩
      have S11:=Lib.hid (S10.out.put (k:=3) (by omega) hg11 hm11 (fun h=>by cases h))
      rw [hf9] at S11
      have K11:=Lib.hid (K10.out.put (k:=3) (by omega) hg11)
      have HF2:Hid (∀ j,j≠3→f2 j=f9 j):=fun i hi=>by rw [← hf9];dsimp only;rw [if_neg hi];exact HF.out i hi
      have HC2:Hid (CntF (f2 3) (inosL V (ns.take j)++((entD V k).take (i0+1)).map (·.ino.toNat))):=by show CntF _ _;rw [← hf9];exact HST.out
      have j2:(i0:Int)<((entD V k).length:Int):=by omega
      have j3:(0:Int)≤(i0:Int):=by omega
      have wt:IntKind.i64.wrap ((i0:Int)+1)=(i0:Int)+1:=IntWalk.i64_in _ (by have:=HLL.out;omega)
      clear hf2 hrow hrB hbB hyl hm64 hb10 hcr hcl hm11 hg11 hf9 S10 K10
      go_upto_region 16 with (refine wpList_load_mid rfl 168 (.tmp 70) rfl bB (oB+i0 * 2) rfl _ _ HRB.out Tryz.underlying168 rfl (by kernel_rfl) ?_;go_frame)
      go_region
      clear LK hrun c10 x1 hw10
      go_wp2
      go_roundw
      case rel=>exact ⟨i0+1,n'+1,f2,by omega,by go_num,Lib.hid (by have:=HN'.out;omega),S11,HF2,HC2,K11⟩
      case measure=>simp [intOf];omega
     ·obtain rfl:i0=(entD V k).length:=by omega
      have j2:¬ ((entD V k).length:Int)<((entD V k).length:Int):=by omega
      have hct:=HCT.out
      rw [List.take_length] at hct
      have T9:Hid (FkT V m f' (ns.take (j+1))):=by
       show FkT _ _ _ _
       rw [HTK.out]
       exact T.out.step ((HF.out 0 (by omega)).trans G0.out) (by rw [HF.out 1 (by omega)];exact G1.out) (.inr ⟨HKK.out,_,(HF.out 2 (by omega)).trans G2.out⟩) (by rw [if_pos HKK.out];exact hct)
      clear hct
      go_wp2
      go_roundw
      case rel=>exact ⟨j+1,n',f',by omega,by go_num,Lib.hid (by have:=HN'.out;have:=HN7.out;have:=HLL.out;omega),S,T9,K⟩
      case measure=>simp [intOf];omega
   ·have q0:((a0:Int) != 2)=true:=by simp;omega
    have hkk:kindR V k≠2:=by rw [← HKD.out];exact h2
    have T7:Hid (FkT V m f7 (ns.take (j+1))):=by
     show FkT _ _ _ _
     rw [HTK.out]
     exact T.out.step F0.out F1.out (.inl ⟨hkk,F2.out⟩) (by rw [F3.out,if_neg hkk,List.append_nil];exact T.out.ents)
    clear hkk h2
    go_wp2
    go_roundw
    case rel=>exact ⟨j+1,n7,f7,by omega,by go_num,Lib.hid (by have:=HN7.out;omega),S7,T7,K7⟩
    case measure=>simp [intOf];omega
  ·obtain rfl:j=ns.length:=by omega
   have i1:¬ (ns.length:Int)<(ns.length:Int):=by omega
   have ht:=T.out
   rw [List.take_length] at ht
   have G:=Lib.hid (HEND.out f ht)
   have HN5:Hid (n≤900000):=by show _≤_;have:=HN.out;have:=HNL.out;omega
   have hv:=HT.out.vol
   have HD:Hid (dataN m≤V.length):=by have:=hv.len;show _≤_;omega
   have HC:Hid (∀ b:Nat,dataN m≤b→b<V.length→(f 1 (b:Int)).getD (.int .i64 0)=.int .i64 (if usedR V (b:Int)=true then 1 else 0)):=fun b h1 h2=>by
    have hI:=HT.out.tree.dir.inv
    rw [G.out.named b]
    have hu:usedR V (b:Int)=bitV V b:=by
     unfold usedR
     rw [ofR_some.2 hv]
     show (decide _ && bitL (blkL V 2) (Int.toNat (b:Int)))=_
     rw [decide_eq_true (by omega),Bool.true_and,Int.toNat_natCast];rfl
    rw [hu]
    by_cases hb:bitV V b=true
    ·have h3:=hI.bit_named (datB_iff.2 ⟨h1,h2⟩) hb
     have h4:=List.count_pos_iff.2 h3
     have h5:=List.nodup_iff_count.1 hI.named_once b
     rw [if_pos hb,show (namedL V m).count b=1 by omega];rfl
    ·have h3:b ∉ namedL V m:=fun h=>hb (hI.named_bit h).2
     rw [if_neg hb,List.count_eq_zero_of_not_mem h3];rfl
   clear hv ht HEND
   go_wp2_with fail
   refine (blocks_fk S.out HX.out HR.out HD.out HC.out).mono ?_
   rintro e w4 ⟨rfl,hb4⟩
   have S4:=Lib.hid (S.out.later hb4)
   clear hb4 S HC
   go_wp2_with fail
   refine (inodes_fk S4.out HN5.out HX.out HR.out HT.out G.out).mono ?_
   rintro e w5 ⟨rfl,hb5⟩
   have S5:=Lib.hid (S4.out.later hb5)
   clear hb5 S4
   go_wp2_with fail
   refine (entries_fk S5.out HN5.out HT.out.tree G.out).mono ?_
   rintro e w6 ⟨rfl,hb6⟩
   have S6:=Lib.hid (S5.out.later hb6)
   clear hb6 S5
   go_wp2_with fail
   refine (owners_fk S6.out HX.out HR.out HT.out.vol HL.out).mono ?_
   rintro e w7 ⟨rfl,hb7⟩
   have S7:=Lib.hid (S6.out.later hb7)
   clear hb7 S6
   go_wp2
   go_ret
   exact ⟨⟨w,A,c,V,m,p,q⟩,n,f,rfl,rfl,S7.out⟩
set_option maxHeartbeats 4000000 in
theorem look_any (A:Option Addr) (c:Nat) (V:List ByteArray) (m:Nat) (w:World) (hx:V.length≤1000000) (t:RootT V m) (hl:LimT V) (h:RowAt w w.heap.size A (V.map .string)) :
  Calls Tryz.prog 23 #[.slice A V.length c] w fun e w'=>e=.returned (.slice none 0 0)∧Below w.heap.size w w':=by
 have CO:=Lib.hid (of_any A c V w hx h)
 unfold OfPost ofE at CO
 rw [ofR_some.2 t.vol] at CO
 dsimp only at CO
 have CL:=Lib.hid (fun w h=>looked_any A c V m w hx t hl h)
 have HR:=Lib.hid h
 clear h hx t hl
 go_enter Tryz.func23,Tryz.ntmps23
 go_wp2_with fail
 refine CO.out.mono ?_
 rintro e w1 ⟨rfl,hb1⟩
 have B1:=Lib.hid hb1
 have G1:=Lib.hid (Blk.new w1 51 #[.int .i64 (V.length:Int),.int .i64 (m:Int),.int .i64 1,.int .i64 2,.int .i64 3,.int .i64 (dataN m:Int)])
 have B2:=Lib.hid (B1.out.alloc B1.out.size (.cells #[.int .i64 (V.length:Int),.int .i64 (m:Int),.int .i64 1,.int .i64 2,.int .i64 3,.int .i64 (dataN m:Int)] 51))
 have R2:=Lib.hid ((HR.out.below B2.out).mono B2.out.size)
 clear hb1 CO B1
 go_wp2_with (refine load_blk 51 (.tmp 3) w1.heap.size 51 #[.int .i64 (V.length:Int),.int .i64 (m:Int),.int .i64 1,.int .i64 2,.int .i64 3,.int .i64 (dataN m:Int)] _ rfl rfl rfl G1.out Tryz.underlying51 rfl (by kernel_rfl) ?_;go_frame)
 refine (CL.out _ R2.out).mono ?_
 rintro e w3 ⟨E,n,f,hE,rfl,hS⟩
 have S3:=Lib.hid hS
 have hl3:=hS.low
 rw [hE] at hl3
 have B3:=Lib.hid (B2.out.trans (hl3.mono B2.out.size))
 clear hS hE hl3 CL G1 B2 R2
 go_wp2_with fail
 refine (sorted_fk S3.out).mono ?_
 rintro e w4 ⟨rfl,hb4⟩
 have B4:=Lib.hid (B3.out.trans (hb4.mono B3.out.size))
 clear hb4
 go_wp2
 go_ret
 exact ⟨rfl,B4.out⟩
open Go.RowKit
set_option maxHeartbeats 1000000 in
theorem alike_self (A B:Option Addr) (c d:Nat) (xs:List ByteArray) (w:World) (hx:xs.length≤1000000) (ha:RowAt w w.heap.size A (xs.map .string)) (hb:RowAt w w.heap.size B (xs.map .string)) :
  Calls Tryz.prog 22 #[.slice A xs.length c,.slice B xs.length d] w fun e w'=>e=.returned (.bool true)∧Below w.heap.size w w':=by
 have HA:=Lib.hid ha
 have HB:=Lib.hid hb
 clear ha hb
 have hl1:(((xs.length:Nat):Int) != ((xs.length:Nat):Int))=false:=by simp
 go_enter Tryz.func22,Tryz.ntmps22
 go_wp2
 go_loopw [5,13] (fun _ i wr=>∃ k:Nat,k≤xs.length∧i=.int .i64 k∧∃ q,wr=w.drewN q) (fun _ i _=>xs.length-(intOf i).toNat)
 case atStart=>exact ⟨0,Nat.zero_le _,rfl,0,rfl⟩
 case round=>
  obtain ⟨k,hk,rfl,q,rfl⟩:=hrel
  by_cases hlt:k<xs.length
  ·obtain ⟨b1,o1,rfl,hb1,hc1⟩:=HA.out.at_ (by simpa using (by omega))
   obtain ⟨b2,o2,rfl,hb2,hc2⟩:=HB.out.at_ (by simpa using (by omega))
   have g1:w.cell? ⟨b1,o1+k,none⟩=some (.string xs[k]):=hc1 k _ (by simp [hlt])
   have g2:w.cell? ⟨b2,o2+k,none⟩=some (.string xs[k]):=hc2 k _ (by simp [hlt])
   have h1:(!xs[k].toList == xs[k].toList)=false:=str_eq _
   clear hc1 hc2
   go_wp2
   go_quiet (fail)
   go_wp2
   go_roundw
   case rel=>exact ⟨k+1,by omega,by go_num,_,rfl⟩
   case measure=>simp [intOf];omega
  ·go_wp2
   go_ret
   exact ⟨rfl,below_drewN (Below.refl _ _) q⟩
theorem check_ok {xs:List ByteArray} {m:Nat} (hv:IsVol xs m):checkO xs=if ∃ o:Nat,o<16∧overB xs (o:Int) (limN xs o:Int)=true then 13 else 0:=by
 unfold checkO
 rw [ofR_some.2 hv]
 dsimp only
 by_cases h:∃ o:Nat,o<16∧overB xs (o:Int) (limN xs o:Int)=true
 ·rw [if_pos h,if_pos]
  obtain ⟨o,h1,h2⟩:=h
  exact List.any_eq_true.2 ⟨o,List.mem_range.2 h1,h2⟩
 ·rw [if_neg h,if_neg]
  intro hh
  obtain ⟨o,h1,h2⟩:=List.any_eq_true.1 hh
  exact h ⟨o,List.mem_range.1 h1,h2⟩
set_option maxHeartbeats 4000000 in
theorem check_quo (A:Option Addr) (c:Nat) (xs:List ByteArray) (w:World) (hx:xs.length≤1000000) (h:RowAt w w.heap.size A (xs.map .string)) :
  Calls Tryz.prog 24 #[.slice A xs.length c] w fun e w'=>e=.returned (.int .i64 (checkO xs))∧Below w.heap.size w w':=by
 have HR:=Lib.hid h
 clear h
 cases ho:ofR xs with
 | none=>
  have HL:Hid (checkO xs=3):=by show _=_;unfold checkO;rw [ho]
  have CO:=Lib.hid (of_any A c xs w hx HR.out)
  unfold OfPost ofE at CO
  rw [ho] at CO
  dsimp only at CO
  clear ho
  go_enter Tryz.func24,Tryz.ntmps24
  go_wp2_with fail
  refine CO.out.mono ?_
  rintro e w1 ⟨rfl,hb1⟩
  have B1:=Lib.hid hb1
  have hz1:=hb1.size
  clear hb1
  go_wp2
  go_ret
  rw [HL.out]
  exact ⟨rfl,B1.out.alloc hz1 _⟩
 | some m=>
  have hv:=ofR_some.1 ho
  have CO:=Lib.hid (of_any A c xs w hx HR.out)
  unfold OfPost ofE at CO
  rw [ho] at CO
  dsimp only at CO
  have HK:=Lib.hid (check_ok hv)
  have CL:=Lib.hid (fun q hq w h=>quo_lim A c xs m q w hv hq h)
  clear ho hv
  go_enter Tryz.func24,Tryz.ntmps24
  go_wp2_with fail
  refine CO.out.mono ?_
  rintro e w1 ⟨rfl,hb1⟩
  have B1:=Lib.hid hb1
  have hz1:=hb1.size
  have G1:=Lib.hid (Blk.new w1 51 #[.int .i64 (xs.length:Int),.int .i64 (m:Int),.int .i64 1,.int .i64 2,.int .i64 3,.int .i64 (dataN m:Int)])
  have B2:=Lib.hid (B1.out.alloc hz1 (.cells #[.int .i64 (xs.length:Int),.int .i64 (m:Int),.int .i64 1,.int .i64 2,.int .i64 3,.int .i64 (dataN m:Int)] 51))
  clear hb1 CO B1
  generalize hgg:w1.heap.size=gg at *
  go_wp2
  generalize w1.alloc _=w2 at *
  clear hgg
  go_loopw [15] (fun i wr=>∃ k:Nat,k≤16∧i=.int .i64 k∧Hid (∀ j,j<k→overB xs (j:Int) (limN xs j:Int)=false)∧Hid (Blk wr gg 51 #[.int .i64 (xs.length:Int),.int .i64 (m:Int),.int .i64 1,.int .i64 2,.int .i64 3,.int .i64 (dataN m:Int)])∧Hid (Below w.heap.size w wr)) (fun i _=>16-(intOf i).toNat)
  case atStart=>exact ⟨0,by omega,rfl,fun j hj=>by omega,G1,B2⟩
  case round=>
   obtain ⟨k,hk,rfl,HJ,GK,BK⟩:=hrel
   by_cases hlt:k<16
   ·have hk1:(k:Int)<16:=by omega
    have RK:=Lib.hid ((HR.out.below BK.out).mono BK.out.size)
    have C1:=Lib.hid (CL.out k hlt wr RK.out)
    have HOV:Hid (overB xs (k:Int) (limN xs k:Int)=decide ((limN xs k:Int)≠0∧(limN xs k:Int)<(usedO xs (k:Int):Int))):=rfl
    have hul:=usedO_le xs (k:Int)
    have CU:=Lib.hid (fun w h=>used_quo A c xs (k:Int) w hx h)
    generalize hlk:limN xs k=lk at *
    have HLK:=Lib.hid hlk
    clear hlk
    go_wp2_with (refine load_blk 51 (.tmp 3) gg 51 #[.int .i64 (xs.length:Int),.int .i64 (m:Int),.int .i64 1,.int .i64 2,.int .i64 3,.int .i64 (dataN m:Int)] _ rfl rfl rfl GK.out Tryz.underlying51 rfl (by kernel_rfl) ?_;go_frame)
    refine C1.out.mono ?_
    rintro e w3 ⟨rfl,hb3⟩
    have G3:=Lib.hid (GK.out.below hb3 GK.out.lt)
    have B3:=Lib.hid (BK.out.trans (hb3.mono BK.out.size))
    have R3:=Lib.hid ((RK.out.below hb3).mono hb3.size)
    clear hb3 C1 GK BK RK
    by_cases hl0:lk=0
    ·subst hl0
     have HE:Hid (∀ j,j<k+1→overB xs (j:Int) (limN xs j:Int)=false):=fun j hj=>by
      by_cases e:j=k
      ·subst e
       rw [HLK.out,HOV.out]
       simp
      ·exact HJ.out j (by omega)
     go_wp2
     go_roundw
     case rel=>exact ⟨k+1,by omega,by go_num,HE,G3,B3⟩
     case measure=>simp [intOf];omega
    ·have hne:¬ (lk:Int)=0:=by omega
     go_wp2_with fail
     refine (CU.out _ R3.out).mono ?_
     rintro e w4 ⟨rfl,hb4⟩
     have G4:=Lib.hid (G3.out.below hb4 G3.out.lt)
     have B4:=Lib.hid (B3.out.trans (hb4.mono B3.out.size))
     clear hb4 G3 B3 R3 CU
     by_cases hov:lk<usedO xs (k:Int)
     ·have HF:Hid (checkO xs=13):=by
       show _=_
       rw [HK.out,if_pos]
       refine ⟨k,hlt,?_⟩
       rw [HLK.out,HOV.out,decide_eq_true_iff]
       omega
      have hov2:(lk:Int)<(usedO xs (k:Int):Int):=by omega
      go_wp2
      go_ret
      exact ⟨ret_int (by rw [HF.out]),B4.out⟩
     ·have HE:Hid (∀ j,j<k+1→overB xs (j:Int) (limN xs j:Int)=false):=fun j hj=>by
       by_cases e:j=k
       ·subst e
        rw [HLK.out,HOV.out,decide_eq_false_iff_not]
        omega
       ·exact HJ.out j (by omega)
      have hov2:¬ (lk:Int)<(usedO xs (k:Int):Int):=by omega
      go_wp2
      go_roundw
      case rel=>exact ⟨k+1,by omega,by go_num,HE,G4,B4⟩
      case measure=>simp [intOf];omega
   ·obtain rfl:k=16:=by omega
    have HF:Hid (checkO xs=0):=by
     show _=_
     rw [HK.out,if_neg]
     rintro ⟨o,h1,h2⟩
     rw [HJ.out o h1] at h2
     cases h2
    go_wp2
    go_ret
    exact ⟨ret_int (by rw [HF.out]),BK.out⟩
section
variable {xs:List ByteArray} {m:Nat}
theorem one_datB (p k:Nat) (d:List UInt8):datB (layX xs 1 p d) m k=datB xs m k:=datB_len m k (layX_length _ _ _ _)
theorem one_rawX {p:Nat} {d:List UInt8} (h:IsVol xs m) (l:List Nat) (k:Nat):rawX (layX xs 1 p d) m l k=rawX xs m l k:=by
 unfold rawX
 rw [one_datB]
 by_cases h6:k<6
 ·rw [if_pos h6,if_pos h6]
 ·rw [if_neg h6,if_neg h6]
  by_cases hd:datB xs m (l.getD 10 0)=true
  ·rw [if_pos hd,if_pos hd,one_blkT h (by have:=datB_pos hd;omega)]
  ·rw [if_neg hd,if_neg hd]
theorem one_atX {p:Nat} {d:List UInt8} (h:IsVol xs m) (l:List Nat) (k:Nat):atX (layX xs 1 p d) m l k=atX xs m l k:=by
 unfold atX
 rw [one_rawX h,one_datB]
theorem one_countX {p:Nat} {d:List UInt8} (h:IsVol xs m) (l:List Nat):countX (layX xs 1 p d) m l=countX xs m l:=by
 unfold countX manyX
 rw [one_datB,one_datB]
 have:(fun k=>atX (layX xs 1 p d) m l k != 0)=fun k=>atX xs m l k != 0:=by funext k;rw [one_atX h]
 rw [this]
variable {p:Nat} {d:List UInt8}
theorem one_inoE (h:IsVol xs m) (hp:p+d.length≤128) (n:Int):inoE (layX xs 1 p d) n=inoE xs n:=by rw [inoE_vol h,inoE_vol (one_vol h hp)]
theorem one_getR (h:IsVol xs m) (hp:p+d.length≤128) (n:Int):getR (layX xs 1 p d) n=getR xs n:=by
 unfold getR
 rw [one_inoE h hp]
 by_cases h0:inoE xs n=0
 ·obtain ⟨m',k,hv,rfl,h1,h2,h3⟩:=inoE_ok h0
  rw [if_pos h0,if_pos h0,Int.toNat_natCast,one_blkT h (by have:=(blk_at h1 h2).1;omega)]
 ·rw [if_neg h0,if_neg h0]
theorem one_countO (h:IsVol xs m) (hp:p+d.length≤128) (n:Int):countO (layX xs 1 p d) n=countO xs n:=by
 unfold countO
 rw [one_inoE h hp,mO_vol h,mO_vol (one_vol h hp),one_getR h hp,one_countX h]
theorem one_allO (h:IsVol xs m) (hp:p+d.length≤128):allO (layX xs 1 p d)=allO xs:=by
 unfold allO
 rw [ofR_some.2 h,ofR_some.2 (one_vol h hp)]
 dsimp only
 unfold allR
 apply List.filter_congr
 intro n hn
 have:=List.mem_range'_1.1 hn
 unfold kindR
 rw [one_blkT h (by have:=(blk_at (m:=m) (n:=n) (by omega) (by omega)).1;omega)]
theorem one_used (h:IsVol xs m) (hp:p+d.length≤128) (o:Int):usedO (layX xs 1 p d) o=usedO xs o:=by
 unfold usedO usedL
 rw [one_allO h hp]
 have e1:hisB (layX xs 1 p d) o=hisB xs o:=by funext n;unfold hisB;rw [one_getR h hp]
 have e2:(fun n:Nat=>countO (layX xs 1 p d) (n:Int))=fun n:Nat=>countO xs (n:Int):=by funext n;rw [one_countO h hp]
 rw [e1,e2]
end
theorem numAt_lay {bs d:List UInt8} {p q:Nat} (hd:d.length=2) (hp:p+2≤bs.length) (hq:q+2≤bs.length) (h:p=q∨p+2≤q∨q+2≤p) :
  numAt (bs.take p++d++bs.drop (p+d.length)) q 2=if p=q then leN d else numAt bs q 2:=by
 unfold numAt
 have key:∀ i,i<2→(bs.take p++d++bs.drop (p+d.length))[q+i]?=if p=q then d[i]? else bs[q+i]?:=fun i hi=>by
  rw [List.append_assoc,List.getElem?_append,List.length_take,Nat.min_eq_left (by omega)]
  by_cases e:p=q
  ·subst e
   rw [if_neg (by omega),if_pos rfl,List.getElem?_append,if_pos (by omega)]
   congr 1;omega
  ·rw [if_neg e]
   by_cases h2:q+i<p
   ·rw [if_pos h2,List.getElem?_take,if_pos h2]
   ·rw [if_neg h2,List.getElem?_append,if_neg (by omega),List.getElem?_drop]
    congr 1;omega
 by_cases e:p=q
 ·rw [if_pos e]
  congr 1
  apply List.ext_getElem?
  intro i
  rw [List.getElem?_take]
  by_cases hi:i<2
  ·rw [if_pos hi,List.getElem?_drop,key i hi,if_pos e]
  ·rw [if_neg hi,List.getElem?_eq_none (by omega)]
 ·rw [if_neg e]
  congr 1
  apply List.ext_getElem?
  intro i
  rw [List.getElem?_take,List.getElem?_take]
  by_cases hi:i<2
  ·rw [if_pos hi,if_pos hi,List.getElem?_drop,List.getElem?_drop,key i hi,if_neg e]
  ·rw [if_neg hi,if_neg hi]
theorem limN_lay {xs:List ByteArray} {m a k i:Nat} (h:IsVol xs m) (ha:a<16) (hi:i<16) (hk:k<65536):limN (layX xs 1 (2 * a) (putL k 2)) i=if a=i then k else limN xs i:=by
 have hl:=h.len
 have hb:=h.blk 1 (by omega)
 unfold limN
 rw [layX_blk 1 _ _ (by omega) 1,if_pos rfl,numAt_lay (putL_length _ _) (by omega) (by omega) (by omega)]
 by_cases e:a=i
 ·rw [if_pos (by omega),if_pos e,leN_putL,Nat.mod_eq_of_lt (by omega)]
 ·rw [if_neg (by omega),if_neg e]
section
variable {V W:List ByteArray} {m n:Nat}
theorem LimT.made (h:LimT V) (t:FsT V m) {p:ByteArray} {kind owner:Int} (he:(madeO V p kind owner).2.2=0):LimT (madeO V p kind owner).1:=by
 have t2:=(TreeX.made t he).1
 obtain ⟨hv,hn,ha,e,hb⟩:=made_ok he
 rw [e] at t2 hb ⊢
 obtain ⟨n,n0,n1,n2,n3,n4,nf,ne,nr,hT⟩:=TreeX.new t hn
 rw [n0] at ha t2 hb ⊢
 obtain ⟨a,d,_,_,eT⟩:=hT.add n2 n3 ha
 exact h.weigh t2.vol (eT.far.one.trans nf.one) hb
theorem LimT.link (h:LimT V) (t:FsT V m) {p q:ByteArray} (he:(linkO V p q).2=0):LimT (linkO V p q).1:=by
 have t2:=(TreeX.link t he).1
 obtain ⟨n,_,_,hn,hk,n1,_,hl,ha,e,hb⟩:=link_ok t he
 obtain ⟨a,d,_,_,eT⟩:=TreeX.add t hn n1 ha
 have hnd:n≠d:=fun e=>by
  subst e
  have:=eT.kind
  omega
 have hg:=eT.far.rest n hn.1 hn.2.1 hnd
 rw [← hg] at e
 obtain ⟨p1,f1,_⟩:=a.dir.links ((eT.liveA t.vol).2 hn) (v:=linkN V n+1) (by omega)
 rw [e,p1] at t2 hb ⊢
 exact h.weigh t2.vol (f1.one.trans eT.far.one) hb
theorem LimT.remove (h:LimT V) (t:FsT V m) {p:ByteArray} (he:(removeO V p).2=0):LimT (removeO V p).1:=by
 have t2:=(TreeX.remove t he).1
 obtain ⟨n,_,_,hn,n1,_,hem,hd,hf,hb,hcase⟩:=remove_ok t he
 obtain ⟨d,j,_,jl,j1,jf,jm,hT,eT⟩:=TreeX.drop t hd
 obtain rfl:j=n:=by rw [hf] at jf;omega
 have hnd:j≠d:=fun e=>by
  subst e
  rw [hem eT.kind] at jm
  cases jm
 have hlw:=(eT.liveA t.vol (k:=j)).2 hn
 rcases hcase with ⟨_,hz,e⟩ | ⟨hc,e⟩
 ·rw [e] at t2 hb ⊢
  obtain ⟨f,_⟩:=hT.dir.gone hlw hz
  exact h.weigh t2.vol (f.one.trans eT.far.one) hb
 ·have hg:=eT.far.rest j hn.1 hn.2.1 hnd
  rw [← hg] at e
  have hv:linkN V j<65536:=(t.dir.inv.good j hn).ok.fit.2 2
  obtain ⟨p1,f1,_⟩:=hT.dir.links hlw (v:=linkN V j-1) (by omega)
  rw [e,p1] at t2 hb ⊢
  exact h.weigh t2.vol (f1.one.trans eT.far.one) hb
theorem LimT.rename (h:LimT V) (t:FsT V m) {p q:ByteArray} (he:(renameO V p q).2=0):LimT (renameO V p q).1:=by
 have t2:=(TreeX.rename t he).1
 obtain ⟨n,hp,hpn,hn,n1,hpt,hvq,hpre,hd,ha,e,hf,hb⟩:=rename_ok t he
 obtain ⟨d,j,_,jl,j1,jf,jm,hT,eT⟩:=TreeX.drop t hd
 obtain rfl:j=n:=by rw [hf] at jf;omega
 obtain ⟨a,d2,_,_,eT2⟩:=hT.add ((eT.liveA t.vol (k:=j)).2 hn) n1 ha
 rw [e] at t2 hb ⊢
 exact h.weigh t2.vol (eT2.far.one.trans eT.far.one) hb
theorem LimT.write (h:LimT V) (t:FsT V m) {z off:Int} {b:List UInt8} (he:(writeF V z off b).2=0):LimT (writeF V z off b).1:=by
 have t2:=(TreeX.write t he).1
 unfold writeF at he t2 ⊢
 by_cases h0:fileO V z=0
 ·rw [if_neg (by rw [h0];simp)] at he t2 ⊢
  obtain ⟨n,rfl,hn,hk⟩:=file_ok t.vol h0
  obtain ⟨hw,hW,hb⟩:=weigh_ok he
  rw [hW] at t2 ⊢
  exact h.weigh t2.vol (t.dir.inv.write_one hn hw).1.one hb
 ·rw [if_pos h0] at he;exact absurd he h0
theorem LimT.cut (h:LimT V) (t:FsT V m) {z size:Int} (he:(cutF V z size).2=0):LimT (cutF V z size).1:=by
 have t2:=(TreeX.cut t he).1
 unfold cutF at he t2 ⊢
 by_cases h0:fileO V z=0
 ·rw [if_neg (by rw [h0];simp)] at he t2 ⊢
  obtain ⟨n,rfl,hn,hk⟩:=file_ok t.vol h0
  obtain ⟨hw,hW,hb⟩:=weigh_ok he
  rw [hW] at t2 ⊢
  exact h.weigh t2.vol (t.dir.inv.cut_one hn hw).1.one hb
 ·rw [if_pos h0] at he;exact absurd he h0
theorem LimT.setattr (h:LimT V) (t:FsT V m) {z:Int} {nm v:ByteArray} (he:(setF V z (attL V z) nm v).2=0):LimT (setF V z (attL V z) nm v).1:=by
 obtain ⟨t2,_,hI,e⟩:=TreeX.setattr t he
 have hb:beyondO V (setA V z (attL V z) nm v).1=false:=by
  unfold setF at he
  exact (weigh_ok he).2.2
 rw [e] at t2 ⊢
 obtain ⟨n,rfl,hn,_,a⟩:=t.dir.attr hI
 exact h.weigh t2.vol a.far.one hb
theorem LimT.limit (h:LimT V) (hv:IsVol V m) {o q:Int} (he:(setO V o q).2=0):LimT (setO V o q).1:=by
 unfold setO at he ⊢
 by_cases h0:quoE V o=0
 ·have ho:¬ (o<0∨16≤o):=fun hh=>by
   unfold quoE at h0
   rw [ofR_some.2 hv] at h0
   dsimp only at h0
   rw [if_pos hh] at h0
   exact absurd h0 (by decide)
  rw [if_neg (by rw [h0];simp)] at he ⊢
  by_cases h1:q<0∨65535<q
  ·rw [if_pos h1] at he;exact absurd he (by decide)
  ·rw [if_neg h1] at he ⊢
   by_cases h2:overB V o q=true
   ·rw [if_pos h2] at he;exact absurd he (by decide)
   ·rw [if_neg h2]
    intro k hk
    rw [one_used hv (by rw [putL_length];omega),limN_lay hv (a:=o.toNat) (by omega) hk (by omega)]
    by_cases e:o.toNat=k
    ·rw [if_pos e]
     unfold overB at h2
     rw [decide_eq_true_iff] at h2
     have e2:o=(k:Int):=by omega
     rw [e2] at h2
     by_cases hz:q=0
     ·left;rw [hz];rfl
     ·right
      have:¬ q<(usedO V (k:Int):Int):=fun hh=>h2 ⟨hz,hh⟩
      omega
    ·rw [if_neg e];exact h k hk
 ·rw [if_pos h0] at he;exact absurd he h0
theorem act_lim (t:FsT V m) (h:LimT V) (a:DeedV):LimT (actO V a).1:=by
 unfold actO
 by_cases he:(actI V a).2=0
 ·rw [if_pos he]
  show LimT (actI V a).1
  unfold actI at he ⊢
  by_cases h0:a.kind=0
  ·rw [if_pos h0] at he ⊢
   exact h.made t he
  rw [if_neg h0] at he ⊢
  by_cases h1:a.kind=1
  ·rw [if_pos h1] at he ⊢
   exact h.made t he
  rw [if_neg h1] at he ⊢
  by_cases h2:a.kind=2
  ·rw [if_pos h2] at he ⊢
   exact h.link t he
  rw [if_neg h2] at he ⊢
  by_cases h3:a.kind=3
  ·rw [if_pos h3] at he ⊢
   exact h.remove t he
  rw [if_neg h3] at he ⊢
  by_cases h4:a.kind=4
  ·rw [if_pos h4] at he ⊢
   exact h.rename t he
  rw [if_neg h4] at he ⊢
  by_cases h5:a.kind=5
  ·rw [if_pos h5] at he ⊢
   exact h.write t he
  rw [if_neg h5] at he ⊢
  by_cases h6:a.kind=6
  ·rw [if_pos h6] at he ⊢
   exact h.cut t he
  rw [if_neg h6] at he ⊢
  by_cases h7:a.kind=7
  ·rw [if_pos h7] at he ⊢
   exact h.setattr t he
  rw [if_neg h7] at he ⊢
  by_cases h8:a.kind=8
  ·rw [if_pos h8] at he ⊢
   exact h.limit t.vol he
  rw [if_neg h8] at he
  exact absurd he (by decide)
 ·rw [if_neg he]
  exact h
end
end Go.Proofs.YtdldlendppkknaaGreatDoor
