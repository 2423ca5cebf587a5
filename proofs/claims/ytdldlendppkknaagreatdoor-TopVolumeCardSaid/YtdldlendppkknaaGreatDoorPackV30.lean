/-
  Contracts and plain laws: IterSh, FskD, FskG, FskE.
-/
import Derived.Shelf.SlIterI.Nil
import Derived.Shelf.SlIterI.Sorted
import Derived.Shelf.SortM.Plain
import Derived.Shelf.SortM.SortNone
import Derived.Test.YtdldlendppkknaaGreatDoorPackV29
namespace Go.Proofs
open Go.Shelf
def Tryz.keysA_ren:Go.Shelf.Ren:=⟨fun | 7=>190 | 10=>221 | n=>n,fun | 23=>211 | 26=>3 | 3=>39 | 28=>227 | 0=>0 | 27=>226 | 33=>118 | 4=>4 | n=>n,fun | n=>n⟩
theorem Tryz.keysA:Go.Proofs.SlLaysZI.n7 Tryz.prog Tryz.keysA_ren:={
 mixed:=by kernel_rfl
 f7:=⟨Tryz.f190.name,by decide,Tryz.func190.trans (congrArg some (by kernel_rfl))⟩
 f10:=⟨Tryz.f221.name,by decide,Tryz.func221.trans (congrArg some (by kernel_rfl))⟩
 t0:=Tryz.underlying0
 a0:=Tryz.isAgg0
 z0:=Tryz.sizeOf0
 v0:=Tryz.zeroValue0
 t4:=Tryz.underlying4
 a4:=Tryz.isAgg4
 z4:=Tryz.sizeOf4
 v4:=Tryz.zeroValue4
 t23:=Tryz.underlying211
 a23:=Tryz.isAgg211
 z23:=Tryz.sizeOf211
 v23:=Tryz.zeroValue211
 t26:=Tryz.underlying3
 a26:=Tryz.isAgg3
 z26:=Tryz.sizeOf3
 v26:=Tryz.zeroValue3
 t27:=Tryz.underlying226
 a27:=Tryz.isAgg226
 z27:=Tryz.sizeOf226
 v27:=Tryz.zeroValue226
 t28:=Tryz.underlying227
 a28:=Tryz.isAgg227
 z28:=Tryz.sizeOf227
 v28:=Tryz.zeroValue227
 t33:=Tryz.underlying118
 a33:=Tryz.isAgg118
 z33:=Tryz.sizeOf118
 v33:=Tryz.zeroValue118 }
def Tryz.keysB_ren:Go.Shelf.Ren:=⟨fun | 7=>194 | 10=>222 | n=>n,fun | 23=>213 | 26=>3 | 3=>123 | 28=>227 | 0=>0 | 27=>226 | 33=>118 | 4=>4 | n=>n,fun | n=>n⟩
theorem Tryz.keysB:Go.Proofs.SlLaysZI.n7 Tryz.prog Tryz.keysB_ren:={
 mixed:=by kernel_rfl
 f7:=⟨Tryz.f194.name,by decide,Tryz.func194.trans (congrArg some (by kernel_rfl))⟩
 f10:=⟨Tryz.f222.name,by decide,Tryz.func222.trans (congrArg some (by kernel_rfl))⟩
 t0:=Tryz.underlying0
 a0:=Tryz.isAgg0
 z0:=Tryz.sizeOf0
 v0:=Tryz.zeroValue0
 t4:=Tryz.underlying4
 a4:=Tryz.isAgg4
 z4:=Tryz.sizeOf4
 v4:=Tryz.zeroValue4
 t23:=Tryz.underlying213
 a23:=Tryz.isAgg213
 z23:=Tryz.sizeOf213
 v23:=Tryz.zeroValue213
 t26:=Tryz.underlying3
 a26:=Tryz.isAgg3
 z26:=Tryz.sizeOf3
 v26:=Tryz.zeroValue3
 t27:=Tryz.underlying226
 a27:=Tryz.isAgg226
 z27:=Tryz.sizeOf226
 v27:=Tryz.zeroValue226
 t28:=Tryz.underlying227
 a28:=Tryz.isAgg227
 z28:=Tryz.sizeOf227
 v28:=Tryz.zeroValue227
 t33:=Tryz.underlying118
 a33:=Tryz.isAgg118
 z33:=Tryz.sizeOf118
 v33:=Tryz.zeroValue118 }
def Tryz.sortedA_ren:Go.Shelf.Ren:=⟨fun | 6=>189 | 8=>219 | 9=>220 | 11=>231 | 13=>179 | 12=>232 | 23=>214 | 24=>215 | 14=>242 | 15=>243 | 16=>244 | 17=>245 | 18=>246 | 19=>247 | 20=>248 | 21=>249 | 22=>250 | 25=>254 | 26=>227 | 27=>228 | 28=>255 | 29=>256 | 30=>198 | 31=>258 | n=>n,fun | 26=>3 | 28=>227 | 24=>45 | 0=>0 | 3=>3 | 37=>82 | 48=>68 | 50=>106 | 4=>4 | 40=>276 | 39=>275 | 45=>165 | 5=>5 | 9=>9 | 51=>290 | 55=>185 | 57=>302 | 58=>179 | 33=>118 | n=>n,fun | n=>n⟩
theorem Tryz.sortedA:Go.Proofs.SlLaysZI.n6 Tryz.prog Tryz.sortedA_ren:={
 mixed:=by kernel_rfl
 f6:=⟨Tryz.f189.name,by decide,Tryz.func189.trans (congrArg some (by kernel_rfl))⟩
 f8:=⟨Tryz.f219.name,by decide,Tryz.func219.trans (congrArg some (by kernel_rfl))⟩
 f11:=⟨Tryz.f231.name,by decide,Tryz.func231.trans (congrArg some (by kernel_rfl))⟩
 t0:=Tryz.underlying0
 a0:=Tryz.isAgg0
 z0:=Tryz.sizeOf0
 v0:=Tryz.zeroValue0
 t24:=Tryz.underlying45
 a24:=Tryz.isAgg45
 z24:=Tryz.sizeOf45
 v24:=Tryz.zeroValue45
 t26:=Tryz.underlying3
 a26:=Tryz.isAgg3
 z26:=Tryz.sizeOf3
 v26:=Tryz.zeroValue3
 t28:=Tryz.underlying227
 a28:=Tryz.isAgg227
 z28:=Tryz.sizeOf227
 v28:=Tryz.zeroValue227
 i26:=by kernel_rfl }
def Tryz.sortA_ren:Go.Shelf.Ren:=⟨fun | 5=>220 | 8=>179 | 7=>232 | 19=>214 | 20=>215 | 10=>242 | 11=>243 | 12=>244 | 13=>245 | 14=>246 | 15=>247 | 16=>248 | 17=>249 | 18=>250 | 30=>254 | 31=>227 | 32=>228 | 33=>255 | 34=>256 | 35=>198 | 40=>258 | n=>n,fun | 23=>45 | 25=>3 | 3=>3 | 32=>82 | 22=>45 | 0=>0 | 44=>68 | 46=>106 | 4=>4 | 36=>276 | 35=>275 | 41=>165 | 5=>5 | 9=>9 | 53=>290 | 57=>185 | 63=>302 | 64=>179 | n=>n,fun | n=>n⟩
theorem Tryz.sortA:Go.Proofs.SlLaysM.n5 Tryz.prog Tryz.sortA_ren:={
 mixed:=by kernel_rfl
 f5:=⟨Tryz.f220.name,by decide,Tryz.func220.trans (congrArg some (by kernel_rfl))⟩
 f7:=⟨Tryz.f232.name,by decide,Tryz.func232.trans (congrArg some (by kernel_rfl))⟩
 f8:=Tryz.func179.trans (congrArg some (by kernel_rfl))
 f10:=⟨Tryz.f242.name,by decide,Tryz.func242.trans (congrArg some (by kernel_rfl))⟩
 f11:=⟨Tryz.f243.name,by decide,Tryz.func243.trans (congrArg some (by kernel_rfl))⟩
 f12:=⟨Tryz.f244.name,by decide,Tryz.func244.trans (congrArg some (by kernel_rfl))⟩
 f13:=⟨Tryz.f245.name,by decide,Tryz.func245.trans (congrArg some (by kernel_rfl))⟩
 f14:=⟨Tryz.f246.name,by decide,Tryz.func246.trans (congrArg some (by kernel_rfl))⟩
 f15:=⟨Tryz.f247.name,by decide,Tryz.func247.trans (congrArg some (by kernel_rfl))⟩
 f16:=⟨Tryz.f248.name,by decide,Tryz.func248.trans (congrArg some (by kernel_rfl))⟩
 f17:=⟨Tryz.f249.name,by decide,Tryz.func249.trans (congrArg some (by kernel_rfl))⟩
 f18:=⟨Tryz.f250.name,by decide,Tryz.func250.trans (congrArg some (by kernel_rfl))⟩
 f19:=Tryz.func214.trans (congrArg some (by kernel_rfl))
 f20:=Tryz.func215.trans (congrArg some (by kernel_rfl))
 f30:=⟨Tryz.f254.name,by decide,Tryz.func254.trans (congrArg some (by kernel_rfl))⟩
 f31:=Tryz.func227.trans (congrArg some (by kernel_rfl))
 f32:=Tryz.func228.trans (congrArg some (by kernel_rfl))
 f33:=⟨Tryz.f255.name,by decide,Tryz.func255.trans (congrArg some (by kernel_rfl))⟩
 f34:=⟨Tryz.f256.name,by decide,Tryz.func256.trans (congrArg some (by kernel_rfl))⟩
 f35:=⟨Tryz.f198.name,by decide,Tryz.func198.trans (congrArg some (by kernel_rfl))⟩
 f40:=⟨Tryz.f258.name,by decide,Tryz.func258.trans (congrArg some (by kernel_rfl))⟩
 t0:=Tryz.underlying0
 a0:=Tryz.isAgg0
 z0:=Tryz.sizeOf0
 v0:=Tryz.zeroValue0
 t3:=Tryz.underlying3
 a3:=Tryz.isAgg3
 z3:=Tryz.sizeOf3
 v3:=Tryz.zeroValue3
 t4:=Tryz.underlying4
 a4:=Tryz.isAgg4
 z4:=Tryz.sizeOf4
 v4:=Tryz.zeroValue4
 t5:=Tryz.underlying5
 a5:=Tryz.isAgg5
 z5:=Tryz.sizeOf5
 v5:=Tryz.zeroValue5
 t9:=Tryz.underlying9
 a9:=Tryz.isAgg9
 z9:=Tryz.sizeOf9
 v9:=Tryz.zeroValue9
 t22:=Tryz.underlying45
 a22:=Tryz.isAgg45
 z22:=Tryz.sizeOf45
 v22:=Tryz.zeroValue45
 t23:=Tryz.underlying45
 a23:=Tryz.isAgg45
 z23:=Tryz.sizeOf45
 v23:=Tryz.zeroValue45
 t25:=Tryz.underlying3
 a25:=Tryz.isAgg3
 z25:=Tryz.sizeOf3
 v25:=Tryz.zeroValue3
 t32:=Tryz.underlying82
 a32:=Tryz.isAgg82
 z32:=Tryz.sizeOf82
 v32:=Tryz.zeroValue82
 t35:=Tryz.underlying275
 a35:=Tryz.isAgg275
 z35:=Tryz.sizeOf275
 v35:=Tryz.zeroValue275
 t36:=Tryz.underlying276
 a36:=Tryz.isAgg276
 z36:=Tryz.sizeOf276
 v36:=Tryz.zeroValue276
 t41:=Tryz.underlying165
 a41:=Tryz.isAgg165
 z41:=Tryz.sizeOf165
 v41:=Tryz.zeroValue165
 t44:=Tryz.underlying68
 a44:=Tryz.isAgg68
 z44:=Tryz.sizeOf68
 v44:=Tryz.zeroValue68
 t46:=Tryz.underlying106
 a46:=Tryz.isAgg106
 z46:=Tryz.sizeOf106
 v46:=Tryz.zeroValue106
 t53:=Tryz.underlying290
 a53:=Tryz.isAgg290
 z53:=Tryz.sizeOf290
 v53:=Tryz.zeroValue290
 t57:=Tryz.underlying185
 a57:=Tryz.isAgg185
 z57:=Tryz.sizeOf185
 v57:=Tryz.zeroValue185
 t63:=Tryz.underlying302
 a63:=Tryz.isAgg302
 z63:=Tryz.sizeOf302
 v63:=Tryz.zeroValue302
 t64:=Tryz.underlying179
 a64:=Tryz.isAgg179
 z64:=Tryz.sizeOf179
 v64:=Tryz.zeroValue179 }
end Go.Proofs
namespace Go.Proofs.YtdldlendppkknaaGreatDoor
open Go.RowKit Go.Maps Go.Sort Go.Shelf
set_option linter.unusedVariables false
set_option linter.unusedSimpArgs false
theorem sortsA (m:Nat):AnyZI.SortsIn Tryz.prog Tryz.sortedA_ren Fence.wide m:=
 ⟨fun blk off cap ss W hH hblk hsz=>callsIn_wide.2 (AnyM.slices_Sort_int Tryz.sortA blk off cap ss W hH hblk hsz),fun p cap W=>callsIn_wide.2 (AnyM.slices_Sort_int_none Tryz.sortA p cap W)⟩
def KeysP (f:Int→Option Value) (w:World) (e:Ending) (w':World):Prop:=∃ (v:Value) (ks:List Nat),e=.returned v∧(∀ k ∈ ks,(f (k:Int)).isSome=true)∧w'.ownsRow w.heap.size 3 1 v ks.length (numV ks)∧ks.length≤1000000∧Below w.heap.size w w'
theorem mem_intKeys {D:DataW Value} {z:Int} (h:z ∈ intKeys D) (hk:∀ es,D=.map es→∀ p ∈ es,∃ x,p.1=.int .i64 x):has D (.int .i64 z)=true:=by
 cases D <;> try (cases h;done)
 rename_i es
 obtain ⟨p,hp,rfl⟩:=List.mem_map.1 h
 obtain ⟨a,ha⟩:=hk es rfl p hp
 rw [has_eq,List.any_eq_true]
 exact ⟨p,hp,by rw [ha];simp [Lit.sameKey,Go.intOf]⟩
theorem sorted_of {w:World} {b n:Nat} {f:Int→Option Value} (h:MapIs w b n f) (hn:n≤1000000) (hf:∀ z,(f z).isSome=true→0≤z) (g:Nat) (W:World)
  (cS:∀ D:DataW Value,w.ownsMap Tryz.prog 3 rawR b n D→Calls Tryz.prog 189 #[.func (.func g) #[] #[.pointer (some ⟨w.heap.size,0,none⟩)]] W fun e w'=>∃ (v:Value) (ss:List Int),e=.returned v∧ss.Perm (intKeys D) ∧
   w'.ownsRow W.heap.size 3 1 v ss.length ((ss.mergeSort (fun x y=>decide (x≤y))).map encZ)∧(v=.slice none 0 0↔ss=[])∧Below W.heap.size W w') :
  Calls Tryz.prog 189 #[.func (.func g) #[] #[.pointer (some ⟨w.heap.size,0,none⟩)]] W (KeysP f W):=by
 obtain ⟨D,h1,h2,h3⟩:=h
 refine (cS D h1).mono fun e w' ⟨v,ss,he,hp,hrow,_,hb⟩=>?_
 obtain ⟨es,clock,hb1,F,hs,hD⟩:=h1
 have hkeys:∀ es',D=.map es'→∀ p ∈ es',∃ x,p.1=.int .i64 x:=fun es' e' p hp'=>by
  rw [hD] at e'
  cases e'
  obtain ⟨x,hx,rfl⟩:=List.mem_map.1 (mem_sorted.1 hp')
  obtain ⟨y,hy⟩:=F.reads x hx
  rw [WideElems.rg_of hy]
  obtain ⟨z,_,e2,_⟩:=Maps.keyOf_i64 Tryz.underlying3 (WideElems.rd_key hy)
  exact ⟨z,e2⟩
 have hmem:∀ z ∈ ss.mergeSort (fun x y=>decide (x≤y)),(f z).isSome=true:=fun z hz=>by
  have h4:=mem_intKeys (hp.mem_iff.1 ((List.mergeSort_perm ss _).mem_iff.1 hz)) hkeys
  cases e5:f z with
  | some v=>rfl
  | none=>rw [(h3 z).2 e5] at h4;cases h4
 have hlen:ss.length≤1000000:=by
  rw [hp.length_eq]
  subst hD
  show (List.map _ (List.foldr DataW.insert [] _)).length≤_
  rw [List.length_map,length_sorted,List.length_map,Array.length_toList]
  omega
 generalize hS:ss.mergeSort (fun x y=>decide (x≤y))=S at *
 have hSl:S.length=ss.length:=by rw [← hS];exact (List.mergeSort_perm ss _).length_eq
 have e1:S.map encZ=numV (S.map Int.toNat):=by
  unfold numV
  rw [List.map_map]
  refine List.map_congr_left fun z hz=>?_
  have:=hf z (hmem z hz)
  show Value.int .i64 z=Value.int .i64 ((z.toNat:Nat):Int)
  rw [Int.toNat_of_nonneg this]
 rw [e1,← hSl] at hrow
 refine ⟨v,S.map Int.toNat,he,fun k hk=>?_,by rw [List.length_map];exact hrow,by rw [List.length_map];omega,hb⟩
 obtain ⟨z,hz,rfl⟩:=List.mem_map.1 hk
 have:=hf z (hmem z hz)
 rw [Int.toNat_of_nonneg this]
 exact hmem z hz
theorem keysA_call (b:Nat) (w:World):Calls Tryz.prog 190 #[.map (some b)] w fun e w'=>e=.returned (.func (.func 221) #[] #[.pointer (some ⟨w.heap.size,0,none⟩)])∧w'=w.alloc (.cells #[.map (some b)] 211):=
 (callsIn_wide (n:=5)).1 (AnyZI.keys_in Tryz.keysA Fence.wide 5 trivial rfl (some b) w)
theorem keysB_call (b:Nat) (w:World):Calls Tryz.prog 194 #[.map (some b)] w fun e w'=>e=.returned (.func (.func 222) #[] #[.pointer (some ⟨w.heap.size,0,none⟩)])∧w'=w.alloc (.cells #[.map (some b)] 213):=
 (callsIn_wide (n:=5)).1 (AnyZI.keys_in Tryz.keysB Fence.wide 5 trivial rfl (some b) w)
theorem size_le {w:World} {b n:Nat} {D:DataW Value} (h:w.ownsMap Tryz.prog 3 rawR b n D):size D≤n:=by
 obtain ⟨es,clock,_,_,hs,rfl⟩:=h
 simpa [size,length_sorted] using hs
theorem sortedA_call {w:World} {b n:Nat} {f:Int→Option Value} (h:MapIs w b n f) (hn:n≤1000000) (hf:∀ z,(f z).isSome=true→0≤z) :
  Calls Tryz.prog 189 #[.func (.func 221) #[] #[.pointer (some ⟨w.heap.size,0,none⟩)]] (w.alloc (.cells #[.map (some b)] 211)) (KeysP f (w.alloc (.cells #[.map (some b)] 211))):=
 sorted_of h hn hf _ _ fun D hD=>(callsIn_wide (n:=5)).1 <| by
  have h1:=size_le hD
  have hbl:=hD.lt
  have hseq:SeqGives Fence.wide 2 Tryz.prog 221 #[.pointer (some ⟨w.heap.size,0,none⟩)] encZ (fun ss=>ss.Perm (intKeys D)) (size D) (w.alloc (.cells #[.map (some b)] 211)):=
   AnyZI.keys_gives (ρ:=Tryz.keysA_ren) { Tryz.keysA with } Fence.wide _ trivial rfl (by omega) w.heap.size b n D _ (by simp) (by simp) (by
    obtain ⟨es,clock,hb,Ft,hs,hD⟩:=hD
    exact ⟨es,clock,(Below.heap_alloc _ _ b hbl).trans hb,Ft,hs,hD⟩)
  exact AnyZI.sorted_in Tryz.sortedA Fence.wide 5 trivial trivial trivial trivial rfl (by omega) (sortsA _) (enters_of Tryz.func220 (by kernel_rfl) rfl) 221 #[.pointer (some ⟨w.heap.size,0,none⟩)] trivial (enters_of Tryz.func221 (by kernel_rfl) rfl) _ _ (by unfold maxLen;omega) (by omega) _ hseq
theorem sortedB_call {w:World} {b n:Nat} {f:Int→Option Value} (h:MapIs w b n f) (hn:n≤1000000) (hf:∀ z,(f z).isSome=true→0≤z) :
  Calls Tryz.prog 189 #[.func (.func 222) #[] #[.pointer (some ⟨w.heap.size,0,none⟩)]] (w.alloc (.cells #[.map (some b)] 213)) (KeysP f (w.alloc (.cells #[.map (some b)] 213))):=
 sorted_of h hn hf _ _ fun D hD=>(callsIn_wide (n:=5)).1 <| by
  have h1:=size_le hD
  have hbl:=hD.lt
  have hseq:SeqGives Fence.wide 2 Tryz.prog 222 #[.pointer (some ⟨w.heap.size,0,none⟩)] encZ (fun ss=>ss.Perm (intKeys D)) (size D) (w.alloc (.cells #[.map (some b)] 213)):=
   AnyZI.keys_gives (ρ:=Tryz.keysB_ren) { Tryz.keysB with } Fence.wide _ trivial rfl (by omega) w.heap.size b n D _ (by simp) (by simp) (by
    obtain ⟨es,clock,hb,Ft,hs,hD⟩:=hD
    exact ⟨es,clock,(Below.heap_alloc _ _ b hbl).trans hb,Ft,hs,hD⟩)
  exact AnyZI.sorted_in Tryz.sortedA Fence.wide 5 trivial trivial trivial trivial rfl (by omega) (sortsA _) (enters_of Tryz.func220 (by kernel_rfl) rfl) 222 #[.pointer (some ⟨w.heap.size,0,none⟩)] trivial (enters_of Tryz.func222 (by kernel_rfl) rfl) _ _ (by unfold maxLen;omega) (by omega) _ hseq
open Go.RowKit Go.Maps
set_option maxRecDepth 100000
set_option maxHeartbeats 4000000 in
theorem alist_ok (A:Option Addr) (c:Nat) (V:List ByteArray) (m n:Nat) (w:World) (hx:V.length≤1000000) (hD:DirT V m) (hn:LiveT V m n) (h:RowAt w w.heap.size A (V.map .string)) :
  Calls Tryz.prog 193 #[.slice A V.length c,.int .i64 (n:Int)] w fun e w'=>(∃ v,e=.returned (.tuple #[v,.int .i64 0]))∧Below w.heap.size w w':=by
 have hop:opE V (n:Int)=0:=by
  unfold opE
  rw [inoE_zero hD.inv.vol hn.1 hn.2.1,if_neg (by simp),kind_getT hD.inv.vol hn.1 hn.2.1,if_neg hn.2.2]
 have CO:=Lib.hid (aopen_any A c V n (attL V (n:Int)) w hx (fun h0 hk=>hD.attAt h0 hk) h)
 unfold OpPost at CO
 rw [hop] at CO
 simp only [if_pos] at CO
 obtain ⟨a0,a1,a2,a3,a4,a5,a6,a7,a8,a9,a10,a11,hg⟩:=len12 (getR_len V (n:Int))
 rw [hg] at CO
 unfold inoC at CO
 simp only [List.map_cons,List.map_nil] at CO
 clear hop h hg
 go_enter Tryz.func193,Tryz.ntmps193
 go_wp2_with fail
 refine CO.out.mono ?_
 rintro e w1 ⟨⟨v,rfl,hown⟩,hb1⟩
 obtain ⟨A1,c1,rfl,hr1⟩:=own_atts hown rfl
 have B1:=Lib.hid hb1
 clear hb1 hown hr1 CO
 go_wp2
 go_ret2
 exact ⟨⟨_,rfl⟩,B1.out.alloc B1.out.size _⟩
structure FkV (V:List ByteArray) (m:Nat) (f:Nat→Int→Option Value):Prop where
 ino:∀ z v,f 0 z=some v→∃ k:Nat,z=(k:Int)∧LiveT V m k∧v=.agg (inoC (getR V (k:Int)))
 has:∀ k:Nat,LiveT V m k→f 0 (k:Int)=some (.agg (inoC (getR V (k:Int))))
 named:CntF (f 1) (namedL V m)
 list:∀ z v,f 2 z=some v→∃ k:Nat,z=(k:Int)∧LiveT V m k∧kindR V k=2
 dirs:∀ d:Nat,LiveT V m d→(f 2 (d:Int)).isSome=decide (kindR V d=2)
 ents:CntF (f 3) (inosL V (allR V m))
section
variable {E:FkE} {n k b:Nat} {f:Nat→Int→Option Value} {w w':World}
set_option maxHeartbeats 16000000 in
theorem inodes_fk (S:FkS E n f w) (hn:n≤900000) (hx:E.V.length≤1000000) (hr:RowAt E.w0 E.w0.heap.size E.A (E.V.map .string)) (t:RootT E.V E.m) (g:FkV E.V E.m f) :
  Calls Tryz.prog 132 #[.pointer (some ⟨E.q,0,none⟩)] w (FkP w):=by
 have S0:=Lib.hid S
 have HR:=Lib.hid hr
 have HX:=Lib.hid hx
 have HT:=Lib.hid t
 have HG:=Lib.hid g
 have HNN:=Lib.hid hn
 have CRE:=Lib.hid (reached_fk S t.tree t.reach g.dirs)
 have LK1:=S.ino (z:=1) (by decide) (g.has 1 t.tree.root) false
 have hk1:(getR E.V ((1:Nat):Int)).getD 0 0=2:=by rw [kind_getT t.vol t.tree.root.1 t.tree.root.2.1];exact t.tree.rootk
 obtain ⟨b0,b1,b2,b3,b4,b5,b6,b7,b8,b9,b10,b11,hg⟩:=len12 (getR_len E.V ((1:Nat):Int))
 rw [hg] at LK1 hk1
 obtain rfl:b0=2:=hk1
 have LK1:(Instr.lookup 211 (.map (some E.p)) (.int .i64 1) false).run Tryz.prog w=.ok (.agg #[.int .i64 2,.int .i64 b1,.int .i64 b2,.int .i64 b3,.int .i64 b4,.int .i64 b5,.int .i64 b6,.int .i64 b7,.int .i64 b8,.int .i64 b9,.int .i64 b10,.int .i64 b11]) w:=LK1
 have c7:w.cell? ⟨E.q,7,none⟩=some (.map (some E.p)):=S.blk.cell 7 rfl
 have hfd:=ino_field0
 clear S hr hx t g hn hg
 go_enter Tryz.func132,Tryz.ntmps132
 go_wp2_with fail
 refine CRE.out.mono ?_
 rintro e w1 ⟨bm,nm,R,rfl,hm,hR,hb1⟩
 have S1:=Lib.hid (S0.out.later hb1)
 have M1:=Lib.hid hm
 have HRR:=Lib.hid hR
 have B1:=Lib.hid hb1
 have c7:w1.cell? ⟨E.q,7,none⟩=some (.map (some E.p)):=S1.out.blk.cell 7 rfl
 have CKS:=Lib.hid (sortedA_call (b:=E.p) (S1.out.map 0 (by omega)) (by have:=HNN.out;omega) (fun z hz=>by
  obtain ⟨v,hv⟩:=Option.isSome_iff_exists.1 hz
  obtain ⟨k,e,_⟩:=HG.out.ino z v hv
  omega))
 clear hm hR hb1 CRE LK1
 go_wp2_with (go_at_call 190;refine (keysA_call _ _).mono ?_;rintro e w' ⟨rfl,rfl⟩)
 refine CKS.out.mono ?_
 rintro e w2 ⟨v,ks,rfl,hks,hrow,hkl,hb2⟩
 obtain ⟨A3,c3,rfl,hr3⟩:=OwnNums.read (w:=w1.alloc (.cells #[.map (some E.p)] 211)) hrow
 have B2:=Lib.hid ((B1.out.alloc B1.out.size (.cells #[.map (some E.p)] 211)).trans (hb2.mono (B1.out.alloc B1.out.size _).size))
 have b12:Below w1.heap.size w1 w2:=((Below.refl w1.heap.size w1).alloc (Nat.le_refl _) (.cells #[.map (some E.p)] 211)).trans (hb2.mono (by simp))
 have S2:=Lib.hid (S1.out.later b12)
 have M2:=Lib.hid (M1.out.below b12 M1.out.lt)
 have R2:=Lib.hid hr3
 have HKS:=Lib.hid hks
 have HKL:=Lib.hid hkl
 clear hrow hr3 hks hkl hb2 b12 S1 M1 B1 CKS c7
 go_wp2
 go_loopw [4,5,6,7,26] (fun _ _ _ _ i wr=>∃ j:Nat,j≤ks.length∧i=.int .i64 (j:Int)∧Hid (Below w2.heap.size w2 wr)) (fun _ _ _ _ i _=>ks.length-(intOf i).toNat)
 case atStart=>exact ⟨0,Nat.zero_le _,rfl,Below.refl _ _⟩
 case round=>
  obtain ⟨j,hj,rfl,B⟩:=hrel
  by_cases hlt:j<ks.length
  ·obtain ⟨bA,oA,rfl,hbA,hcA⟩:=(R2.out.below B.out).at_ (by rw [show (numsC ks).length=ks.length by simp [numsC]];omega)
   obtain ⟨k,hk⟩:∃ k,ks[j]=k:=⟨_,rfl⟩
   have ck:wr.cell? ⟨bA,oA+j,none⟩=some (.int .i64 (k:Int)):=hcA j _ (by simp [numsC,hlt,hk])
   have hks:=HKS.out _ (List.getElem_mem hlt)
   rw [hk] at hks
   obtain ⟨v0,hv0⟩:=Option.isSome_iff_exists.1 hks
   obtain ⟨k',ek,hkl,rfl⟩:=HG.out.ino _ _ hv0
   obtain rfl:k=k':=by omega
   have hm64:k≤64:=by have:=hkl.2.1;have:=HT.out.vol.len;unfold dataN at this;omega
   have S:=Lib.hid (S2.out.later B.out)
   have LI:=S.out.ino (wf_nat (by omega)) hv0 false
   have hc:=HG.out.ents k
   rw [FsT.inos HT.out.tree] at hc
   have hl12:=getR_len E.V (k:Int)
   have hk01:(getR E.V (k:Int)).getD 0 0=1∨(getR E.V (k:Int)).getD 0 0=2:=by
    rw [kind_getT HT.out.vol hkl.1 hkl.2.1];exact HT.out.tree.dir.kind k hkl
   have hli:=FsT.asked HT.out.tree hkl
   have hsh:k≠1→(getR E.V (k:Int)).getD 0 0=2→cntE E.V E.m k≤1:=fun h1 h2=>by
    rw [kind_getT HT.out.vol hkl.1 hkl.2.1] at h2
    exact Nat.le_of_eq (FsT.shared HT.out.tree hkl h2 h1)
   have hcl:cntE E.V E.m k<65536:=by
    have:linkN E.V k<65536:=(HT.out.tree.dir.inv.good k hkl).ok.fit.2 2
    omega
   have CLI:=Lib.hid (fun w3 h=>alist_ok E.A E.c E.V E.m k w3 HX.out HT.out.tree.dir hkl h)
   have hkr:=HRR.out k hkl
   have LR0:=fun (w3:World) (hb:Below wr.heap.size wr w3)=>((M2.out.below B.out M2.out.lt).below hb (Nat.lt_of_lt_of_le M2.out.lt B.out.size)).look Tryz.underlying257 (zBool w3) (k:Int) (wf_nat (by omega)) false
   obtain ⟨a0,a1,a2,a3,a4,a5,a6,a7,a8,a9,a10,a11,hg2⟩:=len12 hl12
   have hl1:linkN E.V k=a1:=by unfold linkN;rw [hg2];rfl
   rw [hg2] at LI hk01
   have hk01:a0=1∨a0=2:=hk01
   rw [hl1] at hli
   have LI:(Instr.lookup 211 (.map (some E.p)) (.int .i64 (k:Int)) false).run Tryz.prog wr=.ok (.agg #[.int .i64 a0,.int .i64 a1,.int .i64 a2,.int .i64 a3,.int .i64 a4,.int .i64 a5,.int .i64 a6,.int .i64 a7,.int .i64 a8,.int .i64 a9,.int .i64 a10,.int .i64 a11]) wr:=LI
   have c7:wr.cell? ⟨E.q,7,none⟩=some (.map (some E.p)):=S.out.blk.cell 7 rfl
   obtain ⟨w4,hw4⟩:∃ w4,wr.alloc (.cells #[.int .i64 a0,.int .i64 a1,.int .i64 a2,.int .i64 a3,.int .i64 a4,.int .i64 a5,.int .i64 a6,.int .i64 a7,.int .i64 a8,.int .i64 a9,.int .i64 a10,.int .i64 a11] 39)=w4:=⟨_,rfl⟩
   have hb4:Below wr.heap.size wr w4:=hw4▸(Below.refl _ _).alloc (Nat.le_refl _) _
   have X4:Hid (Blk w4 wr.heap.size 39 #[.int .i64 a0,.int .i64 a1,.int .i64 a2,.int .i64 a3,.int .i64 a4,.int .i64 a5,.int .i64 a6,.int .i64 a7,.int .i64 a8,.int .i64 a9,.int .i64 a10,.int .i64 a11]):=hw4▸Blk.new wr _ _
   have B4:=Lib.hid (B.out.trans (hb4.mono B.out.size))
   have S4:=Lib.hid (S.out.later hb4)
   have LR:=LR0 w4 hb4
   rw [markF_nat,if_pos hkr] at LR
   have LR:(Instr.lookup 257 (.map (some bm)) (.int .i64 (k:Int)) false).run Tryz.prog w4=.ok (.bool true) w4:=LR
   have CSH:Hid (∀ u:Ext w4,Calls Tryz.prog 192 #[.pointer (some ⟨E.q,0,none⟩),.int .i64 (k:Int)] u.val fun e w'=>e=.returned (.bool false)∧u.val=w'):=fun u=>(shared_fk (S4.out.later u.below) k (cntE E.V E.m k) (getR E.V (k:Int)) hl12 (by omega) hv0 hc hsh).mono fun e w' h=>⟨h.1,h.2.symm⟩
   have CAS:Hid (∀ u:Ext w4,Calls Tryz.prog 191 #[.pointer (some ⟨E.q,0,none⟩),.int .i64 (k:Int)] u.val fun e w'=>e=.returned (.int .i64 (a1:Int))∧u.val=w'):=fun u=>(asked_fk (S4.out.later u.below) k (cntE E.V E.m k) (by omega) (by omega) hc).mono fun e w' h=>⟨by rw [h.1,hli],h.2.symm⟩
   have u1:∀ u:Ext w4,u.val.cell? ⟨wr.heap.size,1,none⟩=some (.int .i64 (a1:Int)):=fun u=>u.cell (X4.out.cell 1 rfl)
   have i2:(j:Int)<(ks.length:Int):=by omega
   have i3:(0:Int)≤(j:Int):=by omega
   have ws:IntKind.i64.wrap ((j:Int)+1)=(j:Int)+1:=IntWalk.i64_in _ (by have:=HKL.out;omega)
   clear LR0 hg2 hl1 hl12 hc hli hsh hcl hkr hv0 hks hk hcA hbA hkl hm64 hb4
   have hkk:((a0:Int) != 1)=false∨((a0:Int) != 1)=true∧((a0:Int) != 2)=false:=by
    rcases hk01 with e | e
    ·left;simp;omega
    ·right;constructor <;> simp <;> omega
   clear hk01
   rcases hkk with q1 | ⟨q1,q2⟩ <;> (
    go_wp2_with fail
    refine wp_region_ext (by kernel_rfl) (by kernel_rfl) ?_
    repeat (go_big_quiet_step (first
     | (go_at_call 191;with_reducible exact Ext.call_same (CAS.out _))
     | (go_at_call 192;with_reducible exact Ext.call_same (CSH.out _))))
    refine wpQuiet_nil ?_
    rintro _ ⟨u,rfl⟩
    have B5:=Lib.hid (B4.out.trans (u.below.mono B4.out.size))
    have S5:=Lib.hid (S4.out.later u.below)
    have X5:=Lib.hid (X4.out.below u.below X4.out.lt)
    generalize u.val=w5 at *
    clear u1 CAS CSH S4 X4 B4 LR
    have c0:w5.cell? ⟨E.q,0,none⟩=some (.slice E.A E.V.length E.c):=S5.out.blk.cell 0 rfl
    go_wp2_with fail
    refine (CLI.out w5 (S5.out.row HR.out)).mono ?_
    rintro e w6 ⟨⟨v6,rfl⟩,hb6⟩
    have B6:=Lib.hid (B5.out.trans (hb6.mono B5.out.size))
    have x0:=(X5.out.below hb6 X5.out.lt).cell 0 rfl
    clear hb6 c0 CLI
    go_wp2
    go_roundw
    case rel=>exact ⟨j+1,by omega,by go_num,B6⟩
    case measure=>simp [intOf];omega)
  ·obtain rfl:j=ks.length:=by omega
   have i1:¬ (ks.length:Int)<(ks.length:Int):=by omega
   go_wp2
   go_end0
   exact ⟨rfl,B2.out.trans (B.out.mono B2.out.size)⟩
end
section
variable {E:FkE} {n k b:Nat} {f:Nat→Int→Option Value} {w w':World}
set_option maxHeartbeats 16000000 in
theorem entries_fk (S:FkS E n f w) (hn:n≤900000) (t:FsT E.V E.m) (g:FkV E.V E.m f) :
  Calls Tryz.prog 133 #[.pointer (some ⟨E.q,0,none⟩)] w (FkP w):=by
 have S0:=Lib.hid S
 have HT:=Lib.hid t
 have HG:=Lib.hid g
 have c9:w.cell? ⟨E.q,9,none⟩=some (.map (some (E.p+2))):=S.blk.cell 9 rfl
 have CKS:=Lib.hid (sortedB_call (S.map 2 (by omega)) (by omega) (fun z hz=>by
  obtain ⟨v,hv⟩:=Option.isSome_iff_exists.1 hz
  obtain ⟨k,e,_⟩:=g.list z v hv
  omega))
 clear S t g hn
 go_enter Tryz.func133,Tryz.ntmps133
 go_wp2_with (go_at_call 194;refine (keysB_call _ _).mono ?_;rintro e w' ⟨rfl,rfl⟩)
 refine CKS.out.mono ?_
 rintro e w2 ⟨v,ks,rfl,hks,hrow,hkl,hb2⟩
 obtain ⟨A3,c3,rfl,hr3⟩:=OwnNums.read (w:=w.alloc (.cells #[.map (some (E.p+2))] 213)) hrow
 have B2:=Lib.hid (((Below.refl w.heap.size w).alloc (Nat.le_refl _) (.cells #[.map (some (E.p+2))] 213)).trans (hb2.mono (by simp)))
 have S2:=Lib.hid (S0.out.later B2.out)
 have R2:=Lib.hid hr3
 have HKS:=Lib.hid hks
 have HKL:=Lib.hid hkl
 clear hrow hr3 hks hkl hb2 CKS c9
 go_wp2
 go_loopw [3,5,6,7,15] (fun _ _ _ _ i wr=>∃ j:Nat,j≤ks.length∧i=.int .i64 (j:Int)∧Hid (Below w2.heap.size w2 wr)) (fun _ _ _ _ i _=>ks.length-(intOf i).toNat)
 case atStart=>exact ⟨0,Nat.zero_le _,rfl,Below.refl _ _⟩
 case round=>
  obtain ⟨j,hj,rfl,B⟩:=hrel
  by_cases hlt:j<ks.length
  ·obtain ⟨bA,oA,rfl,hbA,hcA⟩:=(R2.out.below B.out).at_ (by rw [show (numsC ks).length=ks.length by simp [numsC]];omega)
   obtain ⟨k,hk⟩:∃ k,ks[j]=k:=⟨_,rfl⟩
   have ck:wr.cell? ⟨bA,oA+j,none⟩=some (.int .i64 (k:Int)):=hcA j _ (by simp [numsC,hlt,hk])
   have hks:=HKS.out _ (List.getElem_mem hlt)
   rw [hk] at hks
   obtain ⟨v0,hv0⟩:=Option.isSome_iff_exists.1 hks
   obtain ⟨k',ek,hkl,hk2⟩:=HG.out.list _ _ hv0
   obtain rfl:k=k':=by omega
   have hm64:k≤64:=by have:=hkl.2.1;have:=HT.out.vol.len;unfold dataN at this;omega
   obtain ⟨A4,c4,rfl,hr4⟩:=S2.out.rows k v0 hv0
   have S:=Lib.hid (S2.out.later B.out)
   have LE:=S.out.ents (z:=(k:Int)) (wf_nat (by omega))
   rw [hv0] at LE
   have LE:(Instr.lookup 213 (.map (some (E.p+2))) (.int .i64 (k:Int)) false).run Tryz.prog wr=.ok (.slice A4 (entD E.V k).length c4) wr:=LE
   have HNM:=Lib.hid (fun x hx=>HT.out.name k hkl hk2 x hx)
   have HLL:Hid ((entD E.V k).length≤280):=listO_len
   have R4:Hid (EntsAt w2 w2.heap.size A4 (entD E.V k)):=hr4
   generalize entD E.V k=l at *
   have c9:wr.cell? ⟨E.q,9,none⟩=some (.map (some (E.p+2))):=S.out.blk.cell 9 rfl
   have i2:(j:Int)<(ks.length:Int):=by omega
   have i3:(0:Int)≤(j:Int):=by omega
   have ws:IntKind.i64.wrap ((j:Int)+1)=(j:Int)+1:=IntWalk.i64_in _ (by have:=HKL.out;omega)
   clear hk hks hv0 hcA hbA hr4 hkl hk2 hm64
   go_wp2
   go_loopw [5,6,7,26] (fun _ _ _ i wx=>∃ i0:Nat,i0≤l.length∧i=.int .i64 (i0:Int)∧Hid (Below w2.heap.size w2 wx)) (fun _ _ _ i _=>l.length-(intOf i).toNat)
   case atStart=>exact ⟨0,Nat.zero_le _,rfl,B⟩
   case round=>
    clear B S LE c9 ck
    obtain ⟨i1,hi,rfl,B⟩:=hrel
    by_cases hlt2:i1<l.length
    ·obtain ⟨bB,oB,rfl,hbB,hrB⟩:=(R4.out.below B.out).get hlt2
     obtain ⟨y,hy,hyl,hy1⟩:=HNM.out _ (List.getElem_mem hlt2)
     have hm64:y≤64:=by have:=hyl.2.1;have:=HT.out.vol.len;unfold dataN at this;omega
     generalize l[i1]=x at *
     obtain ⟨nm,ino⟩:=x
     dsimp only at hy hrB
     subst hy
     have HRB:Hid (wr.rangeAt bB (oB+i1 * 2) [.string nm,.int .i64 (y:Int)]):=hrB
     obtain ⟨w3,hw3⟩:∃ w3,wr.alloc (.cells #[.string nm,.int .i64 (y:Int)] 168)=w3:=⟨_,rfl⟩
     have hb3:Below wr.heap.size wr w3:=hw3▸(Below.refl _ _).alloc (Nat.le_refl _) _
     have X3:Hid (Blk w3 wr.heap.size 168 #[.string nm,.int .i64 (y:Int)]):=hw3▸Blk.new wr _ _
     have B3:=Lib.hid (B.out.trans (hb3.mono B.out.size))
     have S3:=Lib.hid (S2.out.later B3.out)
     have c7:w3.cell? ⟨E.q,7,none⟩=some (.map (some E.p)):=S3.out.blk.cell 7 rfl
     have x1:w3.cell? ⟨wr.heap.size,1,none⟩=some (.int .i64 (y:Int)):=X3.out.cell 1 rfl
     obtain ⟨a0,a1,a2,a3,a4,a5,a6,a7,a8,a9,a10,a11,hg2⟩:=len12 (getR_len E.V (y:Int))
     have hhas:=HG.out.has y hyl
     rw [hg2] at hhas
     have LI:∀ W,Below w3.heap.size w3 W→(Instr.lookup 211 (.map (some E.p)) (.int .i64 (y:Int)) true).run Tryz.prog W=.ok (.tuple #[.agg #[.int .i64 a0,.int .i64 a1,.int .i64 a2,.int .i64 a3,.int .i64 a4,.int .i64 a5,.int .i64 a6,.int .i64 a7,.int .i64 a8,.int .i64 a9,.int .i64 a10,.int .i64 a11],.bool true]) W:=fun W hb=>(S3.out.later hb).ino (wf_nat (by omega)) hhas true
     have j2:(i1:Int)<(l.length:Int):=by omega
     have j3:(0:Int)≤(i1:Int):=by omega
     have wt:IntKind.i64.wrap ((i1:Int)+1)=(i1:Int)+1:=IntWalk.i64_in _ (by have:=HLL.out;omega)
     have y1:((y:Int) == 1)=false:=by simp;omega
     have LA:=LI w3.drew (Below.refl _ _).drew
     have LB:=LI ((w3.alloc (.cells #[.int .i64 0,.int .i64 0,.int .i64 0,.int .i64 0,.int .i64 0,.int .i64 0,.int .i64 0,.int .i64 0,.int .i64 0,.int .i64 0,.int .i64 0,.int .i64 0] 39)).drew) ((Below.refl w3.heap.size w3).alloc (Nat.le_refl _) _).drew
     have xb:(w3.alloc (.cells #[.int .i64 0,.int .i64 0,.int .i64 0,.int .i64 0,.int .i64 0,.int .i64 0,.int .i64 0,.int .i64 0,.int .i64 0,.int .i64 0,.int .i64 0,.int .i64 0] 39)).cell? ⟨wr.heap.size,1,none⟩=some (.int .i64 (y:Int)):=(X3.out.alloc _).cell 1 rfl
     have cb:(w3.alloc (.cells #[.int .i64 0,.int .i64 0,.int .i64 0,.int .i64 0,.int .i64 0,.int .i64 0,.int .i64 0,.int .i64 0,.int .i64 0,.int .i64 0,.int .i64 0,.int .i64 0] 39)).cell? ⟨E.q,7,none⟩=some (.map (some E.p)):=(S3.out.blk.alloc _).cell 7 rfl
     clear hrB hb3 hyl hy1 hm64 hg2 hhas hbB LI
     go_upto_region 6 with (refine wpList_load_mid rfl 168 (.tmp 28) rfl bB (oB+i1 * 2) rfl _ _ HRB.out Tryz.underlying168 rfl (by kernel_rfl) ?_;go_frame)
     go_region
     all_goals (
      have B5:=Lib.hid (B3.out.alloc B3.out.size (.cells #[.int .i64 a0,.int .i64 a1,.int .i64 a2,.int .i64 a3,.int .i64 a4,.int .i64 a5,.int .i64 a6,.int .i64 a7,.int .i64 a8,.int .i64 a9,.int .i64 a10,.int .i64 a11] 39)).drew
      have x5:=((X3.out.alloc (.cells #[.int .i64 a0,.int .i64 a1,.int .i64 a2,.int .i64 a3,.int .i64 a4,.int .i64 a5,.int .i64 a6,.int .i64 a7,.int .i64 a8,.int .i64 a9,.int .i64 a10,.int .i64 a11] 39)).drew).cell 1 rfl
      clear LA LB xb cb c7 x1
      generalize World.drew _=w5 at *
      go_wp2
      go_roundw
      case rel=>exact ⟨i1+1,by omega,by go_num,B5⟩
      case measure=>simp [intOf];omega)
    ·obtain rfl:i1=l.length:=by omega
     have j2:¬ (l.length:Int)<(l.length:Int):=by omega
     go_wp2
     go_roundw
     case rel=>exact ⟨j+1,by omega,by go_num,B⟩
     case measure=>simp [intOf];omega
  ·obtain rfl:j=ks.length:=by omega
   have i1:¬ (ks.length:Int)<(ks.length:Int):=by omega
   go_wp2
   go_end0
   exact ⟨rfl,B2.out.trans (B.out.mono B2.out.size)⟩
end
open Go.RowKit Go.Maps Go.Shelf
section
variable {w W:World} {bt Bm l n:Nat}
theorem fiter (hm:W.cell? ⟨Bm,0,none⟩=some (.map (some bt))) (hb:W.heap[bt]?=some (.map #[] 0)) :
  CallsIn Fence.wide n Tryz.prog 197 #[.func (.yield l) #[] #[],.pointer (some ⟨Bm,0,none⟩)] W fun e W'=>(∃ v,e=.returned v)∧W'=W.alloc (.mapIter (some bt) 0 #[] 0):=by
 refine callsIn_of_wp Tryz.func197 rfl trivial ?_ rfl
 simp only [Tryz.ntmps197,List.size_toArray,List.length_cons,List.length_nil,Nat.reduceAdd,Nat.reduceSub,Array.replicate_succ,Array.replicate_zero,List.push_toArray,List.append_toArray,List.nil_append,List.cons_append]
 have hrg:=run_range_map (P:=Tryz.prog) W 214 132 4 bt #[] 0 Tryz.underlying214 hb
 have hnx:∀ ty,(Instr.next (.pointer (some ⟨W.heap.size,0,none⟩)) false ty).run Tryz.prog (W.alloc (.mapIter (some bt) 0 #[] 0))=.ok (.tuple #[.bool false]) (W.alloc (.mapIter (some bt) 0 #[] 0)):=fun ty=>by
  rcases run_next_map W ty bt 0 0 #[] #[] 0 hb (by simp) (Nat.le_refl _) with ⟨_,h⟩ | ⟨e,he,_⟩
  ·exact h
  ·simp [leftOf] at he
 gi_wp2
 refine wpIn_loop_rounds 1 ?_
 rw [roundsIn_succ]
 gi_wp2
 go_end0
 exact ⟨⟨_,rfl⟩,rfl⟩
theorem fappend (hlt:Bm<w.heap.size) (hm:w.cell? ⟨Bm,0,none⟩=some (.map (some bt))) (hbt:bt<w.heap.size) (hb:w.heap[bt]?=some (.map #[] 0)) :
  Calls Tryz.prog 223 #[.slice none 0 0,.func (.func 197) #[] #[.pointer (some ⟨Bm,0,none⟩)]] w fun e w'=>e=.returned (.slice none 0 0)∧Below w.heap.size w w':=by
 refine (callsIn_wide (n:=4)).1 ?_
 refine callsIn_of_wp_marks Tryz.func223 rfl trivial ?_ rfl
 simp only [Tryz.ntmps223,List.size_toArray,List.length_cons,List.length_nil,Nat.reduceAdd,Nat.reduceSub,Array.replicate_succ,Array.replicate_zero,List.push_toArray,List.append_toArray,List.nil_append,List.cons_append]
 gi_wp2
 refine wpIn_rangeFunc ?_
 intro fn hfn
 obtain ⟨W0,hW0⟩:∃ W0,w.alloc (.cells #[.slice none 0 0] 60)=W0:=⟨_,rfl⟩
 have hb0:Below w.heap.size w W0:=by rw [← hW0];exact (Below.refl _ w).alloc (Nat.le_refl _) _
 have hv0:Blk W0 w.heap.size 60 #[.slice none 0 0]:=hW0▸Blk.new w _ _
 rw [hW0]
 refine ⟨_,_,_,{ target:=.fn (.func 197) #[.pointer (some ⟨Bm,0,none⟩)],args:=#[.func (.yield (W0.heap.size+1)) #[] #[]] },_,197,#[.func (.yield (W0.heap.size+1)) #[] #[]]++#[.pointer (some ⟨Bm,0,none⟩)],_,run_enterLoop_outer _ _ _ _ _,(by simp [resolve,go_sem];rfl),fun f' hf'=>trivial,(by simp [invoke,go_sem,enters_of Tryz.func197 (by kernel_rfl) rfl];rfl),fun _=>(by omega),?_⟩
 have hB1:∀ r:Loop,Below w.heap.size w ((W0.alloc (.deferred (some []))).alloc (.loop r)):=fun r=>(hb0.alloc hb0.size _).alloc (by have:=hb0.size;simp;omega) _
 refine (fiter (((hB1 _).cell (p:=⟨Bm,0,none⟩) hlt).trans hm) (((hB1 _).block bt hbt).trans hb)).mono ?_
 rintro e W2 ⟨⟨v0,rfl⟩,rfl⟩
 have hL:∀ r:Loop,(((W0.alloc (.deferred (some []))).alloc (.loop r)).alloc (.mapIter (some bt) 0 #[] 0)).heap[W0.heap.size+1]?=some (.loop r):=fun r=>by
  have:=World.alloc_heap_new (W0.alloc (.deferred (some []))) (.loop r)
  rw [World.size_alloc] at this
  exact (Below.heap_alloc _ _ _ (by simp)).trans this
 have hK:∀ r:Loop,(((W0.alloc (.deferred (some []))).alloc (.loop r)).alloc (.mapIter (some bt) 0 #[] 0)).heap[W0.heap.size]?=some (.deferred (some [])):=fun r=>(Below.heap_alloc _ _ _ (by simp;omega)).trans ((Below.heap_alloc _ _ _ (by simp)).trans (World.alloc_heap_new W0 _))
 have hV:∀ r:Loop,Blk (((W0.alloc (.deferred (some []))).alloc (.loop r)).alloc (.mapIter (some bt) 0 #[] 0)) w.heap.size 60 #[.slice none 0 0]:=fun r=>((hv0.alloc _).alloc _).alloc _
 have hz:=hv0.lt
 refine ⟨none,_,run_endLoop (hL _) (fun h=>by cases h),?_⟩
 have hB2:=fun r:Loop=>(hB1 r).alloc (by have:=(hB1 r).size;exact this) (.mapIter (some bt) 0 #[] 0)
 generalize hr:World.putObj _ _ _=W3
 have hK3:W3.heap[W0.heap.size]?=some (.deferred (some [])):=by rw [← hr];exact (World.putObj_heap_other (by omega)).trans (hK _)
 have hV3:Blk W3 w.heap.size 60 #[.slice none 0 0]:=by rw [← hr];exact (World.putObj_heap_other (by omega)).trans (hV _)
 have hB3:Below w.heap.size w W3:=by rw [← hr];exact (hB2 _).grown (grownBy_putObj' _ _ _) (hB2 _).size (fun k e=>by cases e;omega)
 have hc:=hV3.cell 0 rfl
 clear hr
 gi_wp2
 refine ⟨by simp,.inl ⟨_,_,rfl,run_takeDeferred hK3,?_⟩⟩
 exact ⟨_,results_tmp rfl _ _ _,rfl,hB3.grown (grownBy_putObj' _ _ _) hB3.size (fun k e=>by cases e;omega)⟩
theorem fkeys (b:Nat) (w:World):Calls Tryz.prog 136 #[.map (some b)] w fun e w'=>e=.returned (.func (.func 197) #[] #[.pointer (some ⟨w.heap.size,0,none⟩)])∧w'=w.alloc (.cells #[.map (some b)] 214):=by
 go_enter Tryz.func136,Tryz.ntmps136
 go_wp2
 go_ret
 exact ⟨rfl,rfl⟩
theorem finsert (fv:Value) (w:World):Calls Tryz.prog 233 #[.slice none 0 0,.int .i64 0,.int .i64 0,fv] w fun e w'=>e=.returned (.tuple #[])∧w'=w:=by
 go_enter Tryz.func233,Tryz.ntmps233
 go_wp2
 refine wp_loop_rounds 1 ?_
 rw [rounds_succ]
 go_wp2
 go_end0
 exact ⟨rfl,rfl⟩
theorem fpdq (lim:Int) (fv:Value) (w:World):Calls Tryz.prog 224 #[.slice none 0 0,.int .i64 0,.int .i64 0,.int .i64 lim,fv] w fun e w'=>e=.returned (.tuple #[])∧w'=w:=by
 have hi:=fun W=>finsert fv W
 go_enter Tryz.func224,Tryz.ntmps224
 go_wp2
 refine wp_loop_rounds 1 ?_
 rw [rounds_succ]
 go_wp2_with (go_at_call 233;refine (hi _).mono ?_;rintro e w' ⟨rfl,rfl⟩)
 (try simp only [Exit.inBlock,Exit.then]);refine bodyPost_ret (results_none rfl _ _ _) rfl ?_
 exact ⟨rfl,rfl⟩
theorem fsort (fv:Value) (w:World):Calls Tryz.prog 196 #[.slice none 0 0,fv] w fun e w'=>e=.returned (.tuple #[])∧w'=w:=by
 have hp:=fun lim W=>fpdq lim fv W
 have hl:∀ W,Calls Tryz.prog 179 #[.int .u64 0] W fun e w'=>e=.returned (.int .i64 (Lib.bitLen 0:Nat))∧w'=W:=fun W=>Any.bits_Len (SlLaysF0.n15.bits (P:=Tryz.prog) (ρ:=Tryz.sortAttr_ren) { Tryz.sortAttr with }) 0 W (by omega) (by omega)
 go_enter Tryz.func196,Tryz.ntmps196
 go_wp2_with (first | (go_at_call 179;refine (hl _).mono ?_;rintro e w' ⟨rfl,rfl⟩) | (go_at_call 224;refine (hp _ _).mono ?_;rintro e w' ⟨rfl,rfl⟩))
 go_end0
 exact ⟨rfl,rfl⟩
theorem fsorted {g:Nat} {lb:Array Value} (CA:Calls Tryz.prog 223 #[.slice none 0 0,.func (.func g) #[] lb] w fun e w'=>e=.returned (.slice none 0 0)∧Below w.heap.size w w') (fv:Value) :
  Calls Tryz.prog 135 #[.func (.func g) #[] lb,fv] w fun e w'=>e=.returned (.slice none 0 0)∧Below w.heap.size w w':=by
 have CC:Calls Tryz.prog 195 #[.func (.func g) #[] lb] w fun e w'=>e=.returned (.slice none 0 0)∧Below w.heap.size w w':=by
  go_enter Tryz.func195,Tryz.ntmps195
  go_wp2_with (go_at_call 223;refine CA.mono ?_;rintro e w' ⟨rfl,hb⟩)
  go_ret
  exact ⟨rfl,hb⟩
 have hs:=fun W=>fsort fv W
 go_enter Tryz.func135,Tryz.ntmps135
 go_wp2_with (first | (go_at_call 195;refine CC.mono ?_;rintro e w' ⟨rfl,hb⟩) | (go_at_call 196;refine (hs _).mono ?_;rintro e w' ⟨rfl,rfl⟩))
 go_ret
 exact ⟨rfl,hb⟩
theorem sorted_fk {E:FkE} {n:Nat} {f:Nat→Int→Option Value} {w:World} (S:FkS E n f w):Calls Tryz.prog 67 #[.pointer (some ⟨E.q,0,none⟩)] w fun e w'=>e=.returned (.slice none 0 0)∧Below w.heap.size w w':=by
 have hbt:=(Array.getElem?_eq_some_iff.1 S.void).1
 have hB0:Below w.heap.size w (w.alloc (.cells #[.map (some (E.p+4))] 214)):=(Below.refl _ _).alloc (Nat.le_refl _) _
 have CA:=Lib.hid (fappend (w:=w.alloc (.cells #[.map (some (E.p+4))] 214)) (bt:=E.p+4) (Bm:=w.heap.size) (by simp) ((Blk.new w _ _).cell 0 rfl) (by simp;omega) ((hB0.block _ hbt).trans S.void))
 have c11:w.cell? ⟨E.q,11,none⟩=some (.map (some (E.p+4))):=S.blk.cell 11 rfl
 have HB:=Lib.hid hB0
 clear hB0 hbt S
 generalize E.p+4=bt at *
 go_enter Tryz.func67,Tryz.ntmps67
 go_wp2_with (go_at_call 136;refine (fkeys _ _).mono ?_;rintro e w' ⟨rfl,rfl⟩)
 generalize w.alloc _=w1 at *
 refine (fsorted CA.out _).mono ?_
 rintro e w2 ⟨rfl,hb2⟩
 have B2:=Lib.hid (HB.out.trans (hb2.mono HB.out.size))
 clear hb2
 go_wp2
 go_ret
 exact ⟨rfl,B2.out⟩
end
end Go.Proofs.YtdldlendppkknaaGreatDoor
