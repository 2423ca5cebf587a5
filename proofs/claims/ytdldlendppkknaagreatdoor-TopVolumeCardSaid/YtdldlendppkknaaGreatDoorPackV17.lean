/-
  Contracts and plain laws: Shelf3, AttB, DirC.
-/
import Derived.Shelf.SlLaysH0
import Derived.Shelf.SlLaysF0
import Derived.Test.YtdldlendppkknaaGreatDoorPackV16
namespace Go.Proofs
open Go.Shelf
def Tryz.lays165_ren:Go.Shelf.Ren:=⟨fun | 165=>171 | 240=>169 | 241=>205 | 276=>202 | 277=>225 | n=>n,fun | 70=>170 | 3=>3 | 0=>0 | 4=>4 | 9=>9 | 20=>20 | 72=>172 | 37=>44 | 164=>268 | 5=>5 | n=>n,fun | n=>n⟩
theorem Tryz.lays165:Go.Proofs.Lays.n165 Tryz.prog Tryz.lays165_ren:={
 mixed:=by kernel_rfl
 f165:=Tryz.func171.trans (congrArg some (by kernel_rfl))
 f240:=Tryz.func169.trans (congrArg some (by kernel_rfl))
 f241:=Tryz.func205.trans (congrArg some (by kernel_rfl))
 f276:=Tryz.func202.trans (congrArg some (by kernel_rfl))
 f277:=Tryz.func225.trans (congrArg some (by kernel_rfl))
 t0:=Tryz.underlying0
 a0:=Tryz.isAgg0
 z0:=Tryz.sizeOf0
 v0:=Tryz.zeroValue0
 t3:=Tryz.underlying3
 a3:=Tryz.isAgg3
 z3:=Tryz.sizeOf3
 v3:=Tryz.zeroValue3
 t4:=Tryz.underlying4
 a4:=Tryz.isAgg4
 z4:=Tryz.sizeOf4
 v4:=Tryz.zeroValue4
 t9:=Tryz.underlying9
 a9:=Tryz.isAgg9
 z9:=Tryz.sizeOf9
 v9:=Tryz.zeroValue9
 t20:=Tryz.underlying20
 a20:=Tryz.isAgg20
 z20:=Tryz.sizeOf20
 v20:=Tryz.zeroValue20
 t37:=Tryz.underlying44
 a37:=Tryz.isAgg44
 z37:=Tryz.sizeOf44
 v37:=Tryz.zeroValue44
 t70:=Tryz.underlying170
 a70:=Tryz.isAgg170
 z70:=Tryz.sizeOf170
 v70:=Tryz.zeroValue170
 t72:=Tryz.underlying172
 a72:=Tryz.isAgg172
 z72:=Tryz.sizeOf172
 v72:=Tryz.zeroValue172
 t164:=Tryz.underlying268
 a164:=Tryz.isAgg268
 z164:=Tryz.sizeOf268
 v164:=Tryz.zeroValue268 }
theorem Tryz.Builder_Extra_165:Builder.Extra Tryz.prog Tryz.lays165_ren:={
 sizeBuilder:=by kernel_rfl
 liesBuilder:=by kernel_rfl
 t5:=Tryz.underlying5
 a5:=Tryz.isAgg5
 z5:=Tryz.sizeOf5
 v5:=Tryz.zeroValue5
 infoByte:=by kernel_rfl
 cellsByte:=by kernel_rfl
 sizeByte:=by kernel_rfl
 neB5:=by decide }
open Go.RowKit in
theorem Tryz.Builder_Grow_fresh (B b n:Nat) (w:World) (hB:B≤b) (hbk:w.heap[b]?=some (.cells #[.pointer none,.slice none 0 0] 172 (0,0))) (hBw:B≤w.heap.size) (hn:n≤281474976710656) :
  Calls Tryz.prog 171 #[.pointer (some ⟨b,0,none⟩),.int .i64 n] w fun e w'=>e=.returned (.tuple #[])∧(Lib.BuilderAt 172 5 B b (.pointer (some ⟨b,0,none⟩)) [] w'∧Below B w w'):=Any.Builder_Grow_fresh Tryz.lays165 Tryz.Builder_Extra_165 B b n w hB hbk hBw hn
def Tryz.lays167_ren:Go.Shelf.Ren:=⟨fun | 167=>217 | 240=>169 | 276=>202 | n=>n,fun | 70=>170 | 0=>0 | 4=>4 | 9=>9 | 20=>20 | 72=>172 | 37=>44 | 164=>268 | 5=>5 | 75=>174 | 80=>178 | n=>n,fun | n=>n⟩
theorem Tryz.lays167:Go.Proofs.Lays.n167 Tryz.prog Tryz.lays167_ren:={
 mixed:=by kernel_rfl
 f167:=Tryz.func217.trans (congrArg some (by kernel_rfl))
 f240:=Tryz.func169.trans (congrArg some (by kernel_rfl))
 f276:=Tryz.func202.trans (congrArg some (by kernel_rfl))
 t0:=Tryz.underlying0
 a0:=Tryz.isAgg0
 z0:=Tryz.sizeOf0
 v0:=Tryz.zeroValue0
 t4:=Tryz.underlying4
 a4:=Tryz.isAgg4
 z4:=Tryz.sizeOf4
 v4:=Tryz.zeroValue4
 t5:=Tryz.underlying5
 a5:=Tryz.isAgg5
 z5:=Tryz.sizeOf5
 v5:=Tryz.zeroValue5
 t9:=Tryz.underlying9
 a9:=Tryz.isAgg9
 z9:=Tryz.sizeOf9
 v9:=Tryz.zeroValue9
 t20:=Tryz.underlying20
 a20:=Tryz.isAgg20
 z20:=Tryz.sizeOf20
 v20:=Tryz.zeroValue20
 t37:=Tryz.underlying44
 a37:=Tryz.isAgg44
 z37:=Tryz.sizeOf44
 v37:=Tryz.zeroValue44
 t70:=Tryz.underlying170
 a70:=Tryz.isAgg170
 z70:=Tryz.sizeOf170
 v70:=Tryz.zeroValue170
 t72:=Tryz.underlying172
 a72:=Tryz.isAgg172
 z72:=Tryz.sizeOf172
 v72:=Tryz.zeroValue172
 t75:=Tryz.underlying174
 a75:=Tryz.isAgg174
 z75:=Tryz.sizeOf174
 v75:=Tryz.zeroValue174
 t164:=Tryz.underlying268
 a164:=Tryz.isAgg268
 z164:=Tryz.sizeOf268
 v164:=Tryz.zeroValue268 }
theorem Tryz.Builder_Extra_167:Builder.Extra Tryz.prog Tryz.lays167_ren:={
 sizeBuilder:=by kernel_rfl
 liesBuilder:=by kernel_rfl
 t5:=Tryz.underlying5
 a5:=Tryz.isAgg5
 z5:=Tryz.sizeOf5
 v5:=Tryz.zeroValue5
 infoByte:=by kernel_rfl
 cellsByte:=by kernel_rfl
 sizeByte:=by kernel_rfl
 neB5:=by decide }
open Go.RowKit in
theorem Tryz.Builder_WriteByte_k (B b:Nat) (bs:List Value) (c:Int) (w:World) (h:Lib.IsBuilderF 172 5 B b bs w) (hlen:bs.length+1≤140737488355328) (hBw:B≤w.heap.size) :
  Calls Tryz.prog 217 #[.pointer (some ⟨b,0,none⟩),.int .u8 c] w fun e w'=>e=.returned .nilIface∧(Lib.BuilderAtF 172 5 B b (.pointer (some ⟨b,0,none⟩)) (bs++[.int .u8 c]) w'∧Below B w w'∧Lib.OthersKept 5 (some b) w w'):=Any.Builder_WriteByte_k Tryz.lays167 Tryz.Builder_Extra_167 B b bs c w h hlen hBw
def Tryz.idxAttr_ren:Go.Shelf.Ren:=⟨fun | 6=>118 | n=>n,fun | 22=>99 | 23=>104 | 25=>200 | 3=>3 | 0=>0 | 4=>4 | n=>n,fun | n=>n⟩
theorem Tryz.idxAttr:Go.Proofs.SlLaysH0.n6 Tryz.prog Tryz.idxAttr_ren:={
 mixed:=by kernel_rfl
 f6:=⟨Tryz.f118.name,by decide,Tryz.func118.trans (congrArg some (by kernel_rfl))⟩
 t0:=Tryz.underlying0
 a0:=Tryz.isAgg0
 z0:=Tryz.sizeOf0
 v0:=Tryz.zeroValue0
 t3:=Tryz.underlying3
 a3:=Tryz.isAgg3
 z3:=Tryz.sizeOf3
 v3:=Tryz.zeroValue3
 t4:=Tryz.underlying4
 a4:=Tryz.isAgg4
 z4:=Tryz.sizeOf4
 v4:=Tryz.zeroValue4
 t22:=Tryz.underlying99
 a22:=Tryz.isAgg99
 z22:=Tryz.sizeOf99
 v22:=Tryz.zeroValue99
 t25:=Tryz.underlying200
 a25:=Tryz.isAgg200
 z25:=Tryz.sizeOf200
 v25:=Tryz.zeroValue200 }
def Tryz.sortAttr_ren:Go.Shelf.Ren:=⟨fun | 6=>110 | 15=>179 | 14=>178 | 28=>214 | 29=>215 | 20=>206 | 21=>207 | 22=>208 | 23=>209 | 24=>210 | 25=>211 | 26=>212 | 27=>213 | 46=>226 | 47=>227 | 48=>228 | 49=>229 | 50=>230 | 57=>241 | n=>n,fun | 22=>99 | 24=>104 | 25=>193 | 3=>3 | 39=>82 | 0=>0 | 53=>68 | 55=>106 | 4=>4 | 46=>276 | 45=>275 | 50=>165 | 5=>5 | 9=>9 | 66=>290 | 70=>185 | 76=>302 | 77=>179 | n=>n,fun | n=>n⟩
theorem Tryz.sortAttr:Go.Proofs.SlLaysF0.n6 Tryz.prog Tryz.sortAttr_ren:={
 mixed:=by kernel_rfl
 f6:=⟨Tryz.f110.name,by decide,Tryz.func110.trans (congrArg some (by kernel_rfl))⟩
 f14:=⟨Tryz.f178.name,by decide,Tryz.func178.trans (congrArg some (by kernel_rfl))⟩
 f15:=Tryz.func179.trans (congrArg some (by kernel_rfl))
 f20:=⟨Tryz.f206.name,by decide,Tryz.func206.trans (congrArg some (by kernel_rfl))⟩
 f21:=⟨Tryz.f207.name,by decide,Tryz.func207.trans (congrArg some (by kernel_rfl))⟩
 f22:=⟨Tryz.f208.name,by decide,Tryz.func208.trans (congrArg some (by kernel_rfl))⟩
 f23:=⟨Tryz.f209.name,by decide,Tryz.func209.trans (congrArg some (by kernel_rfl))⟩
 f24:=⟨Tryz.f210.name,by decide,Tryz.func210.trans (congrArg some (by kernel_rfl))⟩
 f25:=⟨Tryz.f211.name,by decide,Tryz.func211.trans (congrArg some (by kernel_rfl))⟩
 f26:=⟨Tryz.f212.name,by decide,Tryz.func212.trans (congrArg some (by kernel_rfl))⟩
 f27:=⟨Tryz.f213.name,by decide,Tryz.func213.trans (congrArg some (by kernel_rfl))⟩
 f28:=Tryz.func214.trans (congrArg some (by kernel_rfl))
 f29:=Tryz.func215.trans (congrArg some (by kernel_rfl))
 f46:=⟨Tryz.f226.name,by decide,Tryz.func226.trans (congrArg some (by kernel_rfl))⟩
 f47:=Tryz.func227.trans (congrArg some (by kernel_rfl))
 f48:=Tryz.func228.trans (congrArg some (by kernel_rfl))
 f49:=⟨Tryz.f229.name,by decide,Tryz.func229.trans (congrArg some (by kernel_rfl))⟩
 f50:=⟨Tryz.f230.name,by decide,Tryz.func230.trans (congrArg some (by kernel_rfl))⟩
 f57:=⟨Tryz.f241.name,by decide,Tryz.func241.trans (congrArg some (by kernel_rfl))⟩
 t0:=Tryz.underlying0
 a0:=Tryz.isAgg0
 z0:=Tryz.sizeOf0
 v0:=Tryz.zeroValue0
 t3:=Tryz.underlying3
 a3:=Tryz.isAgg3
 z3:=Tryz.sizeOf3
 v3:=Tryz.zeroValue3
 t4:=Tryz.underlying4
 a4:=Tryz.isAgg4
 z4:=Tryz.sizeOf4
 v4:=Tryz.zeroValue4
 t5:=Tryz.underlying5
 a5:=Tryz.isAgg5
 z5:=Tryz.sizeOf5
 v5:=Tryz.zeroValue5
 t9:=Tryz.underlying9
 a9:=Tryz.isAgg9
 z9:=Tryz.sizeOf9
 v9:=Tryz.zeroValue9
 t22:=Tryz.underlying99
 a22:=Tryz.isAgg99
 z22:=Tryz.sizeOf99
 v22:=Tryz.zeroValue99
 t25:=Tryz.underlying193
 a25:=Tryz.isAgg193
 z25:=Tryz.sizeOf193
 v25:=Tryz.zeroValue193
 t39:=Tryz.underlying82
 a39:=Tryz.isAgg82
 z39:=Tryz.sizeOf82
 v39:=Tryz.zeroValue82
 t45:=Tryz.underlying275
 a45:=Tryz.isAgg275
 z45:=Tryz.sizeOf275
 v45:=Tryz.zeroValue275
 t46:=Tryz.underlying276
 a46:=Tryz.isAgg276
 z46:=Tryz.sizeOf276
 v46:=Tryz.zeroValue276
 t50:=Tryz.underlying165
 a50:=Tryz.isAgg165
 z50:=Tryz.sizeOf165
 v50:=Tryz.zeroValue165
 t53:=Tryz.underlying68
 a53:=Tryz.isAgg68
 z53:=Tryz.sizeOf68
 v53:=Tryz.zeroValue68
 t55:=Tryz.underlying106
 a55:=Tryz.isAgg106
 z55:=Tryz.sizeOf106
 v55:=Tryz.zeroValue106
 t66:=Tryz.underlying290
 a66:=Tryz.isAgg290
 z66:=Tryz.sizeOf290
 v66:=Tryz.zeroValue290
 t70:=Tryz.underlying185
 a70:=Tryz.isAgg185
 z70:=Tryz.sizeOf185
 v70:=Tryz.zeroValue185
 t76:=Tryz.underlying302
 a76:=Tryz.isAgg302
 z76:=Tryz.sizeOf302
 v76:=Tryz.zeroValue302
 t77:=Tryz.underlying179
 a77:=Tryz.isAgg179
 z77:=Tryz.sizeOf179
 v77:=Tryz.zeroValue179 }
end Go.Proofs
namespace Go.Proofs.YtdldlendppkknaaGreatDoor
open Go.RowKit
set_option linter.unusedVariables false
set_option linter.unusedSimpArgs false
set_option maxRecDepth 100000
def sumZ (ts:List ByteArray):Nat:=(ts.map fun t=>t.size+4).sum
theorem sumZ_snoc {ts:List ByteArray} {k:Nat} (hk:k<ts.length):sumZ (ts.take (k+1))=sumZ (ts.take k)+(ts[k].size+4):=by
 unfold sumZ
 rw [List.take_succ_eq_append_getElem hk,List.map_append,List.sum_append]
 simp
theorem sumZ_le:∀ (ts:List ByteArray),(∀ t ∈ ts,t.size≤127)→sumZ ts≤131 * ts.length
 | [],_=>Nat.le_refl _
 | t::ts,h=>by
  have h1:=h t (by simp)
  have h2:=sumZ_le ts fun x hx=>h x (by simp [hx])
  unfold sumZ at h2 ⊢
  rw [List.map_cons,List.sum_cons,List.length_cons]
  omega
theorem rowT_le:∀ (ts:List ByteArray),(∀ t ∈ ts,t.size≤127)→(rowT ts).length≤128 * ts.length
 | [],_=>Nat.le_refl _
 | t::ts,h=>by
  have h1:=h t (by simp)
  have h2:=rowT_le ts fun x hx=>h x (by simp [hx])
  rw [rowT_cons,List.length_cons,List.length_append,dsize,List.length_cons]
  omega
theorem rowT_snoc {ts:List ByteArray} {k:Nat} (hk:k<ts.length) (h:ts[k].size≤127):Lib.byteCells (rowT (ts.take k))++[.int .u8 (ts[k].size:Int)]++Lib.strCells ts[k]=Lib.byteCells (rowT (ts.take (k+1))):=by
 rw [List.take_succ_eq_append_getElem hk,rowT_app,Lib.byteCells_append,rowT_cons]
 have:rowT []=[]:=rfl
 rw [this,List.append_nil,List.append_assoc]
 congr 1
 have e:((UInt8.ofNat ts[k].size).toNat:Int)=(ts[k].size:Int):=by simp;omega
 show [Value.int .u8 (ts[k].size:Int)]++_=Value.int .u8 ((UInt8.ofNat ts[k].size).toNat:Int)::_
 rw [e]
 rfl
set_option maxHeartbeats 4000000 in
theorem nrow_any (A:Option Addr) (c:Nat) (ts:List ByteArray) (w:World) (hl:ts.length≤1000) (hn:∀ t ∈ ts,t.size≤127) (h:RowAt w w.heap.size A (ts.map .string)) :
  Calls Tryz.prog 181 #[.slice A ts.length c] w fun e w'=>e=.returned (.string ⟨(rowT ts).toArray⟩)∧Below w.heap.size w w':=by
 have B0:=Lib.hid ((Below.refl w.heap.size w).alloc (Nat.le_refl _) (.cells #[.pointer none,.slice none 0 0] 172))
 have R0:=Lib.hid h
 have R1:=Lib.hid (h.below B0.out)
 have HN:=Lib.hid hn
 have HZ:Hid (∀ k,sumZ (ts.take k)≤131000):=fun k=>by
  have:=sumZ_le (ts.take k) fun t ht=>hn t (List.mem_of_mem_take ht)
  rw [List.length_take] at this
  omega
 have HB:Hid (∀ k,(Lib.byteCells (rowT (ts.take k))).length≤128000):=fun k=>by
  have:=rowT_le (ts.take k) fun t ht=>hn t (List.mem_of_mem_take ht)
  rw [List.length_take] at this
  rw [Lib.byteCells_length]
  omega
 have HG:Hid (∀ n:Nat,n≤131000→Calls Tryz.prog 171 #[.pointer (some ⟨w.heap.size,0,none⟩),.int .i64 n] (w.alloc (.cells #[.pointer none,.slice none 0 0] 172)) fun e w'=>e=.returned (.tuple #[])∧Lib.IsBuilderF 172 5 w.heap.size w.heap.size (Lib.byteCells (rowT (ts.take 0))) w'∧Below w.heap.size (w.alloc (.cells #[.pointer none,.slice none 0 0] 172)) w'):=fun n hn=>
  (Tryz.Builder_Grow_fresh w.heap.size w.heap.size n _ (Nat.le_refl _) (Blk.new w _ _) (by simp) (by omega)).mono fun _ _ h=>⟨h.1,.inr (Lib.BuilderAtF.of h.2.1),h.2.2⟩
 clear h hn
 go_enter Tryz.func181,Tryz.ntmps181
 go_wp2
 go_loopw [3,12] (fun z i wr=>∃ k:Nat,k≤ts.length∧i=.int .i64 (k:Int)∧z=.int .i64 (sumZ (ts.take k):Nat)∧w=wr) (fun _ i _=>ts.length-(intOf i).toNat)
 case atStart=>exact ⟨0,Nat.zero_le _,rfl,rfl,rfl⟩
 case round=>
  obtain ⟨k,hk,rfl,rfl,rfl⟩:=hrel
  by_cases hlt:k<ts.length
  ·obtain ⟨b,o,rfl,hb,hc⟩:=RowAt.at_ R0.out (by rw [List.length_map];omega)
   have cA:=hc k (.string ts[k]) (by rw [List.getElem?_map,List.getElem?_eq_getElem hlt];rfl)
   have h1:=HN.out _ (List.getElem_mem hlt)
   have HS:=Lib.hid (sumZ_snoc hlt)
   have h2:=HZ.out k
   generalize ts[k]=t at *
   have i2:(k:Int)<(ts.length:Int):=by omega
   have i3:(0:Int)≤(k:Int):=by omega
   have w1:IntKind.i64.wrap ((t.size:Int)+4)=(t.size:Int)+4:=IntWalk.i64_in _ (by omega)
   have w2:IntKind.i64.wrap ((sumZ (ts.take k):Nat)+((t.size:Int)+4))=(sumZ (ts.take (k+1)):Nat):=by
    rw [HS.out]
    have:((sumZ (ts.take k):Nat):Int)+((t.size:Int)+4)=((sumZ (ts.take k)+(t.size+4):Nat):Int):=by omega
    rw [this]
    exact IntWalk.i64_in _ (by omega)
   clear hc h1 h2
   go_wp2
   go_roundw
   case rel=>exact ⟨k+1,by omega,by go_num,rfl,trivial⟩
   case measure=>simp [intOf];omega
  ·obtain rfl:k=ts.length:=by omega
   have hz:=HZ.out ts.length
   generalize sumZ (ts.take ts.length)=n at *
   have HG:=Lib.hid (HG.out n hz)
   clear hz
   go_wp2_with fail
   refine HG.out.mono ?_
   rintro e' w2 ⟨rfl,hF,hb2⟩
   have F2:=Lib.hid hF
   have R2:=Lib.hid (R1.out.below hb2)
   have B2:=Lib.hid (B0.out.trans hb2)
   clear hF hb2 HG R1 B0
   go_wp2
   go_loopw [26] (fun i wr=>∃ k:Nat,k≤ts.length∧i=.int .i64 (k:Int)∧Hid (Lib.IsBuilderF 172 5 w.heap.size w.heap.size (Lib.byteCells (rowT (ts.take k))) wr)∧Hid (RowAt wr w.heap.size A (ts.map .string))∧Hid (Below w.heap.size w wr)) (fun i _=>ts.length-(intOf i).toNat)
   case atStart=>exact ⟨0,Nat.zero_le _,rfl,F2,R2,B2⟩
   case round=>
    clear F2 R2 B2
    obtain ⟨k,hk,rfl,F,R,B⟩:=hrel
    by_cases hlt:k<ts.length
    ·obtain ⟨b,o,rfl,hb,hc⟩:=RowAt.at_ R.out (by rw [List.length_map];omega)
     have cA:=hc k (.string ts[k]) (by rw [List.getElem?_map,List.getElem?_eq_getElem hlt];rfl)
     have h1:=HN.out _ (List.getElem_mem hlt)
     have HS:=Lib.hid (rowT_snoc hlt h1)
     have HL:=Lib.hid (HB.out k)
     generalize ts[k]=t at *
     have i2:(k:Int)<(ts.length:Int):=by omega
     have i3:(0:Int)≤(k:Int):=by omega
     have n1:¬ (128:Int)≤(t.size:Int):=by omega
     have w8:IntKind.u8.wrap (t.size:Int)=(t.size:Int):=by simp [IntKind.wrap,IntKind.bits,IntKind.signed];omega
     have HT:Hid (t.size≤127):=h1
     clear hc h1
     go_wp2
     go_loopw [9] (fun n wr2=>n=.int .i64 (t.size:Int)∧wr=wr2) (fun _ _=>0)
     case atStart=>exact ⟨rfl,rfl⟩
     case round=>
      obtain ⟨rfl,rfl⟩:=hrel
      go_wp2_with fail
      refine (Tryz.Builder_WriteByte_k w.heap.size w.heap.size _ _ _ F.out (by have:=HL.out;omega) B.out.size).mono ?_
      rintro e5 w5 ⟨rfl,hba,hb5,hok⟩
      have F5:Hid (Lib.IsBuilderF 172 5 w.heap.size w.heap.size _ w5):=.inr hba
      have R5:=Lib.hid (R.out.below hb5)
      have B5:=Lib.hid (B.out.trans hb5)
      clear hba hb5 hok F R B
      go_wp2_with fail
      refine (Tryz.Builder_WriteString_k w.heap.size w.heap.size _ _ _ F5.out (by have:=HL.out;have:=HT.out;rw [List.length_append];simp only [List.length_singleton];omega) B5.out.size).mono ?_
      rintro e6 w6 ⟨rfl,hba,hb6,hok⟩
      have F6:Hid (Lib.IsBuilderF 172 5 w.heap.size w.heap.size (Lib.byteCells (rowT (ts.take (k+1)))) w6):=.inr (HS.out▸hba)
      have R6:=Lib.hid (R5.out.below hb6)
      have B6:=Lib.hid (B5.out.trans hb6)
      clear hba hb6 hok F5 R5 B5
      go_wp2
      go_roundw
      case rel=>exact ⟨k+1,by omega,by go_num,F6,R6,B6⟩
      case measure=>simp [intOf];omega
    ·obtain rfl:k=ts.length:=by omega
     have HT:Hid (ts.take ts.length=ts):=List.take_length
     rw [HT.out] at F
     go_wp2_with fail
     refine (string_l w.heap.size w.heap.size _ _ F.out B.out.size).mono ?_
     rintro e w7 ⟨rfl,hb7⟩
     have B7:=Lib.hid (B.out.trans hb7)
     clear hb7
     go_wp2
     go_ret
     exact ⟨rfl,B7.out⟩
set_option maxHeartbeats 4000000 in
theorem ablock_any (r:ByteArray) (w:World) (hr:r.size≤126):Calls Tryz.prog 182 #[.string r] w fun e w'=>e=.returned (.string ⟨(blockL r.data.toList).toArray⟩)∧Below w.heap.size w w':=by
 obtain ⟨p1,hp1,sp1⟩:∃ p,(⟨(putL r.size 2).toArray⟩:ByteArray)=p∧p.size=2:=⟨_,rfl,by show (putL r.size 2).toArray.size=2;rw [List.size_toArray,putL_length]⟩
 obtain ⟨z,hz⟩:∃ z,z=126-r.size:=⟨_,rfl⟩
 obtain ⟨R,hR⟩:∃ R:ByteArray,(⟨(Lib.repeatL (⟨#[0]⟩:ByteArray).data.toList z).toArray⟩:ByteArray)=R:=⟨_,rfl⟩
 have HRs:Hid (R.size=z):=by
  show _=_
  rw [← hR]
  show (Lib.repeatL [0] z).toArray.size=z
  rw [repeat_l0,List.size_toArray,List.length_replicate]
 have HJ:Hid ((p1++r++R:ByteArray)=⟨(blockL r.data.toList).toArray⟩):=by
  show _=_
  rw [← hp1,← hR]
  unfold blockL
  apply WideShapes.bytes_inj
  simp only [ByteArray.data_append,Array.toList_append,List.append_assoc,List.toList_toArray,repeat_l0,dsize,← hz]
 obtain ⟨q,hq⟩:∃ q,(p1++r:ByteArray)=q:=⟨_,rfl⟩
 have HQ:Hid (q.size+z=128):=by show _=_;rw [← hq,ByteArray.size_append];omega
 have ad1:=fun (w:World)=>run_string_add_sum (P:=Tryz.prog) (w:=w) p1 r (by omega)
 have ad2:=fun (w:World)=>run_string_add_sum (P:=Tryz.prog) (w:=w) q R (by have:=HQ.out;have:=HRs.out;omega)
 have e2:IntKind.u64.wrap (r.size:Int)=(r.size:Int):=IntWalk.u64_in _ (by omega)
 have e3:IntKind.i64.wrap (128-(q.size:Int))=(z:Int):=by
  have:=HQ.out
  rw [show 128-(q.size:Int)=(z:Int) by omega]
  exact IntWalk.i64_in _ (by omega)
 have C1:Hid (∀ w,Calls Tryz.prog 93 #[.int .u64 (r.size:Int),.int .i64 2] w fun e w'=>e=.returned (.string p1)∧Below w.heap.size w w'):=fun w=>by rw [← hp1];exact put_any r.size 2 w (by omega) (by omega)
 have C3:Hid (∀ w,Calls Tryz.prog 101 #[.string ⟨#[0]⟩,.int .i64 z] w fun e w'=>e=.returned (.string R)∧Below w.heap.size w w'):=fun w=>by rw [← hR];exact Tryz.strings_Repeat ⟨#[0]⟩ z w (by omega) (by show 1 * z≤_;omega)
 have HQ2:=Lib.hid hq
 rw [← HJ.out]
 clear HJ HRs HQ hR hp1 hr hz sp1 hq
 go_enter Tryz.func182,Tryz.ntmps182
 go_wp2_with fail
 refine (C1.out _).mono ?_
 rintro e w1 ⟨rfl,hb1⟩
 have B1:=Lib.hid hb1
 clear hb1 C1
 rw [HQ2.out] at ad1
 go_wp2_with fail
 refine (C3.out _).mono ?_
 rintro e w3 ⟨rfl,hb3⟩
 have B3:=Lib.hid (B1.out.trans (hb3.mono B1.out.size))
 clear hb3
 go_wp2
 go_ret
 exact ⟨by rw [HQ2.out];rfl,B3.out⟩
def entsN (L:List UInt8) (k:Nat):List EntV:=(List.range k).map fun i=>entK (piece L i)
theorem entsN_len (L:List UInt8) (k:Nat):(entsN L k).length=k:=by simp [entsN]
theorem entsN_succ (L:List UInt8) (k:Nat):entsN L (k+1)=entsN L k++[entK (piece L k)]:=by unfold entsN;rw [List.range_succ,List.map_append];rfl
theorem entsO_all {L:List UInt8} {N:Nat} (hl:L.length=32 * N) (h:∀ i,i<N→stepK L i=true):entsO L=some (entsN L N):=by
 have:L.length / 32=N:=by omega
 unfold entsO entsN
 rw [this,if_pos ⟨by omega,List.all_eq_true.2 fun i hi=>h i (List.mem_range.1 hi)⟩]
theorem entsO_bad {L:List UInt8} {N k:Nat} (hl:L.length=32 * N) (hk:k<N) (h:stepK L k=false):entsO L=none:=by
 have:L.length / 32=N:=by omega
 unfold entsO
 rw [this,if_neg]
 rintro ⟨_,ha⟩
 rw [List.all_eq_true] at ha
 rw [ha k (List.mem_range.2 hk)] at h
 cases h
theorem entsO_odd {L:List UInt8} (hl:L.length % 32≠0):entsO L=none:=by
 unfold entsO
 rw [if_neg (fun h=>hl h.1)]
def EntsPost (o:Option (List EntV)) (w:World) (e:Ending) (w':World):Prop:=(∃ v,e=.returned (.tuple #[v,.bool o.isSome])∧OwnEnts (o.getD []) w v w')∧Below w.heap.size w w'
theorem ents_none {w w':World} (h:Below w.heap.size w w'):EntsPost none w (.returned (.tuple #[.slice none 0 0,.bool false])) w':=⟨⟨_,rfl,World.ownsRow_nil _ _ _ _⟩,h⟩
theorem pieceL {L:List UInt8} {N k:Nat} (hl:L.length=32 * N) (hk:k<N):(piece L k).length=32:=by
 unfold piece
 rw [List.length_take,List.length_drop]
 omega
theorem ext_list (s:ByteArray) (a b:Nat):(s.extract a b).data.toList=(s.data.toList.drop a).take (b-a):=by simp [ByteArray.data_extract]
theorem one_parts {o:ByteArray} {P:List UInt8} (h:o.data.toList=P) (hp:P.length=32):∃ c:Nat,(P.getD 2 0).toNat=c∧c<256∧(∀ h2:2<o.size,(o[2].toNat)=c)∧o.size=32 ∧
  (c≤24→(⟨(entK P).name,(entK P).ino⟩:EntV)=⟨o.extract 4 (4+c),(leN ((o.extract 0 2).data.toList.take 8):Nat)⟩):=by
 have hs:o.size=32:=by rw [← hp,← h,Array.length_toList];rfl
 refine ⟨_,rfl,UInt8.toNat_lt _,fun h2=>?_,hs,fun hc=>?_⟩
 ·rw [← h,List.getD_eq_getElem?_getD,List.getElem?_eq_getElem (by rw [Array.length_toList];exact h2)]
  rfl
 ·unfold entK
  dsimp only
  have e1:(⟨((P.drop 4).take (P.getD 2 0).toNat).toArray⟩:ByteArray)=o.extract 4 (4+(P.getD 2 0).toNat):=by
   apply WideShapes.bytes_inj
   rw [ext_list,h,show 4+(P.getD 2 0).toNat-4=(P.getD 2 0).toNat by omega]
  rw [e1,ext_list,h,List.drop_zero,List.take_take]
  congr 2
theorem less_lists:∀ x y:List UInt8,Op.bytesLess x y=decide (x<y)
 | [],[]=>by simp [Op.bytesLess]
 | [],_::_=>by simp [Op.bytesLess]
 | _::_,[]=>by simp [Op.bytesLess]
 | a::x,b::y=>by
  have ih:=less_lists x y
  unfold Op.bytesLess
  rw [ih,Bool.eq_iff_iff]
  simp [List.cons_lt_cons_iff]
theorem less_walk (a b:ByteArray):Op.bytesLess a.toList b.toList=ltB a b:=by
 rw [less_lists,str_data,str_data];rfl
def strSz:Value→Nat
 | .string s=>s.size
 | _=>0
theorem own_ents {w':World} {base n:Nat} {v:Value} {l:List EntV} (h:w'.ownsRow base 168 2 v n (entC l)) (hn:l.length=n):∃ A c,v=.slice A n c∧EntsAt w' w'.heap.size A l:=by
 have h2:=h
 obtain ⟨h1,h3⟩:=h2
 rcases h3 with ⟨hv,h0⟩ | ⟨g,cap,cur,hv,hg,hh,hnc,hm,hsz,ht⟩
 ·refine ⟨none,0,by rw [hv,h0],?_⟩
  have:l=[]:=List.eq_nil_of_length_eq_zero (hn.trans h0)
  subst this
  exact RowAt.nil
 ·subst hv
  exact ⟨_,_,rfl,RowAt.of_own_k h⟩
theorem good_bad {P:List UInt8} (h:24<(P.getD 2 0).toNat∨okE (entK P)=false∨entB (entK P)≠P):goodK P=false:=by
 cases hh:goodK P with
 | false=>rfl
 | true=>
  unfold goodK at hh
  simp only [Bool.and_eq_true,decide_eq_true_eq] at hh
  rcases h with h | h | h
  ·omega
  ·rw [h] at hh;exact absurd hh.1.2 (by simp)
  ·exact absurd hh.2 h
theorem okE_bad {nm:ByteArray} {z:Int} (h:z<1∨64<z∨mayB nm.data.toList=false):okE ⟨nm,z⟩=false:=by
 unfold okE
 dsimp only
 rcases h with h | h | h
 ·rw [decide_eq_false (by omega),Bool.and_false]
 ·rw [decide_eq_false (by omega),Bool.and_false]
 ·rw [h,Bool.false_and]
theorem step_bad {L:List UInt8} {k:Nat} (h:goodK (piece L k)=false):stepK L k=false:=by unfold stepK;rw [h];rfl
set_option maxHeartbeats 8000000 in
theorem entries_any (b:ByteArray) (w:World) (hb:b.size≤8960):Calls Tryz.prog 123 #[.string b] w (EntsPost (entsO b.data.toList) w):=by
 have hl:b.data.toList.length=b.size:=by rw [Array.length_toList];rfl
 have et:(b.size:Int).tmod 32=((b.size % 32:Nat):Int):=by rw [Int.tmod_eq_emod_of_nonneg (by omega)];omega
 obtain ⟨i0,q1,q2,q3,q4⟩:=info_parts ent_info
 have I0:=Lib.hid (And.intro q1 (And.intro q2 (And.intro q3 q4)))
 clear q1 q2 q3 q4
 by_cases hm:b.size % 32=0
 ·obtain ⟨N,hN⟩:∃ N,b.size=32 * N:=⟨b.size / 32,by omega⟩
  have e0:(((b.size % 32:Nat):Int) != 0)=false:=by rw [hm];rfl
  obtain ⟨L,hL⟩:∃ L,b.data.toList=L:=⟨_,rfl⟩
  rw [hL] at hl ⊢
  have HLN:Hid (L.length=32 * N):=hl.trans hN
  have HN:Hid (N≤280):=by show _≤_;omega
  have HB0:Hid (b.data.toList=L.drop (32 * 0)):=by show _=_;rw [hL];rfl
  have HBL:=Lib.hid (Below.refl w.heap.size w)
  have O0:Hid (w.ownsRow w.heap.size 168 2 (.slice none 0 0) 0 (entC (entsN L 0))):=World.ownsRow_nil _ _ _ _
  have HG:=Lib.hid (fun (i:Nat) (h:i<0)=>(absurd h (Nat.not_lt_zero _):stepK L i=true))
  clear hl hL hb hN
  go_enter Tryz.func123,Tryz.ntmps123
  go_wp2
  go_loopw [0,4] (fun t v wr=>∃ (k:Nat) (s:ByteArray),k≤N∧t=.string s∧Hid (s.data.toList=L.drop (32 * k))∧Hid (wr.ownsRow w.heap.size 168 2 v k (entC (entsN L k)))∧Hid (Below w.heap.size w wr)∧Hid (∀ i,i<k→stepK L i=true)) (fun t _ _=>strSz t)
  case atStart=>exact ⟨0,b,Nat.zero_le _,rfl,HB0,O0,HBL,HG⟩
  case round=>
   clear HB0 O0 HBL HG et e0 hm
   obtain ⟨k,s,hk,rfl,HS,O,B,HA⟩:=hrel
   have hsz:s.size=32 * (N-k):=by
    have:=congrArg List.length HS.out
    rw [List.length_drop,HLN.out,Array.length_toList] at this
    have h2:s.size=32 * N-32 * k:=this
    omega
   by_cases hlt:k<N
   ·have q1:s.toList.isEmpty=false:=by
     rw [str_data]
     cases h:s.data.toList with
     | nil=>have:=congrArg List.length h;rw [Array.length_toList] at this;have h2:s.size=0:=this;omega
     | cons _ _=>rfl
    have q2:¬ s.toList=[]:=fun h=>by rw [h] at q1;cases q1
    have c1:(32:Int)≤(s.size:Int):=by omega
    obtain ⟨o,ho⟩:∃ o,s.extract 0 32=o:=⟨_,rfl⟩
    have hop:o.data.toList=piece L k:=by rw [← ho,ext_list,HS.out];rfl
    obtain ⟨c,hc,hc256,hc2,ho32,hx⟩:=one_parts hop (pieceL HLN.out hlt)
    have o1:(2:Nat)<o.size:=by omega
    have o2:(2:Int)<(o.size:Int):=by omega
    have o3:=hc2 o1
    have HBAD:=Lib.hid (fun h=>entsO_bad HLN.out hlt (step_bad (good_bad h)))
    rw [hc] at HBAD
    by_cases hc24:c≤24
    ·have o4:¬ (24:Int)<(c:Int):=by omega
     have o5:(4:Int)+(c:Int)≤(o.size:Int):=by omega
     have o6:(2:Int)≤(o.size:Int):=by omega
     have o7:(4:Int)≤(4:Int)+(c:Int):=by omega
     have o8:((4:Int)+(c:Int)).toNat=4+c:=by omega
     have o9:IntKind.i64.wrap ((4:Int)+(c:Int))=(4:Int)+(c:Int):=IntWalk.i64_in _ (by omega)
     have hx:=hx hc24
     have HX:Hid (entK (piece L k)=⟨o.extract 4 (4+c),(leN ((o.extract 0 2).data.toList.take 8):Nat)⟩):=hx
     obtain ⟨nm,hnm⟩:∃ nm,o.extract 4 (4+c)=nm:=⟨_,rfl⟩
     have hns:nm.size=c:=by rw [← hnm,ByteArray.size_extract];omega
     obtain ⟨t,ht⟩:∃ t,o.extract 0 2=t:=⟨_,rfl⟩
     obtain ⟨q,hq⟩:∃ q,leN (t.data.toList.take 8)=q:=⟨_,rfl⟩
     have hq16:q<65536:=by
      have:=leN_lt (t.data.toList.take 8)
      rw [hq,List.length_take,Array.length_toList] at this
      have hts:t.data.size=2:=by show t.size=2;rw [← ht,ByteArray.size_extract];omega
      rw [hts] at this
      exact this
     rw [hnm,ht,hq] at HX
     have CG:Hid (∀ w,Calls Tryz.prog 52 #[.string t] w fun e w'=>e=.returned (.int .u64 (q:Nat))∧w=w'):=fun w=>by rw [← hq];exact get_any t w (by rw [← ht,ByteArray.size_extract];omega)
     have q4:IntKind.i64.wrap (q:Int)=(q:Int):=IntWalk.i64_in _ (by omega)
     clear hx hc256 hc2 hq
     go_wp2_with fail
     apply wp_region_free 9 0 0 7 _ (fun X w'=>∃ p,X=.pointer (some ⟨p,0,none⟩)∧wr.heap.size≤p∧Blk w' p 168 #[.string ⟨#[]⟩,.int .i64 0]) (by kernel_rfl) (by kernel_rfl) rfl
     case hΦ=>
      rintro X u u' ⟨p,rfl,hp,hb⟩ hu
      exact ⟨p,rfl,hp,hb.below hu hb.lt⟩
     case W1=>
      intro wb hwb
      unfold ExtC
      simp only [List.take_succ_cons,List.take_zero,List.drop_succ_cons,List.drop_zero]
      repeat (go_big_quiet_step (first
       | (go_at_call 52;with_reducible exact Ext.call_same (CG.out _))))
      exact wpQuiet_nil rfl
     case MK=>
      intro wb hwb
      exact ⟨.pointer (some ⟨wb.heap.size,0,none⟩),wb.alloc (.cells #[.string ⟨#[]⟩,.int .i64 0] 168),rfl,⟨_,rfl,hwb.size,Blk.new wb _ _⟩,(Below.refl _ _).alloc (Nat.le_refl _) _⟩
     case UM=>
      intro X wb hwb hX
      exact wpQuiet_nil rfl
     case W2=>
      intro X wb hwb
      exact wpQuiet_nil rfl
     rintro X w2 hb2 ⟨gx,rfl,hgx,hbx⟩
     have HB2:=Lib.hid hb2
     have GZ:=Lib.hid hbx
     clear hb2 hbx CG
     simp only [List.take_succ_cons,List.take_zero,List.drop_succ_cons,List.drop_zero]
     have m1:mayB nm.data.toList=true∨mayB nm.data.toList=false:=by cases mayB nm.data.toList <;> simp
     have CM:=Lib.hid (fun w=>may_any nm w (by omega))
     have CE:=Lib.hid (fun w=>entry_any ⟨nm,(q:Int)⟩ w (by show nm.size≤28;omega) (by show (0:Int)≤q∧(q:Int)<65536;omega))
     have HEQ:Hid ((⟨(entB ⟨nm,(q:Int)⟩).toArray⟩:ByteArray)=o↔entB (entK (piece L k))=piece L k):=by
      show _↔_
      rw [HX.out,← hop]
      constructor
      ·intro h;rw [← h]
      ·intro h;rw [h]
     dsimp only at CE
     generalize (⟨(entB ⟨nm,(q:Int)⟩).toArray⟩:ByteArray)=es at *
     by_cases hbad:(q:Int)<1∨(64:Int)<(q:Int)∨mayB nm.data.toList=false∨es≠o
     ·have HE:Hid (entsO L=none):=by
       refine HBAD.out (.inr ?_)
       rcases hbad with h | h | h | h
       ·left;rw [HX.out];exact okE_bad (.inl h)
       ·left;rw [HX.out];exact okE_bad (.inr (.inl h))
       ·left;rw [HX.out];exact okE_bad (.inr (.inr h))
       ·right;exact fun e=>h (HEQ.out.2 e)
      clear HBAD HEQ HX hop HA HS
      by_cases a1:(q:Int)<1
      ·go_wp2_with (first
        | (refine store_blk 168 (.tmp 7) (.tmp 31) gx 168 #[.string ⟨#[]⟩,.int .i64 0] #[.string nm,.int .i64 (q:Int)] rfl rfl rfl rfl GZ.out rfl (by kernel_rfl) (by simp [Value.oneCell']) ?_;intro w3 hr3 hg3;have d0:=hr3.cell 0 rfl;have d1:=hr3.cell 1 rfl;have GX:=Lib.hid hr3;have HB3:=Lib.hid (HB2.out.grown hg3 HB2.out.size (fun j e=>by cases e;exact hgx));have B3:=Lib.hid (B.out.trans (HB3.out.mono B.out.size));clear hr3 hg3 HB2))
       go_ret2
       rw [HE.out]
       exact ents_none B3.out
      ·by_cases a2:(64:Int)<(q:Int)
       ·go_wp2_with (first
         | (refine store_blk 168 (.tmp 7) (.tmp 31) gx 168 #[.string ⟨#[]⟩,.int .i64 0] #[.string nm,.int .i64 (q:Int)] rfl rfl rfl rfl GZ.out rfl (by kernel_rfl) (by simp [Value.oneCell']) ?_;intro w3 hr3 hg3;have d0:=hr3.cell 0 rfl;have d1:=hr3.cell 1 rfl;have GX:=Lib.hid hr3;have HB3:=Lib.hid (HB2.out.grown hg3 HB2.out.size (fun j e=>by cases e;exact hgx));have B3:=Lib.hid (B.out.trans (HB3.out.mono B.out.size));clear hr3 hg3 HB2))
        go_ret2
        rw [HE.out]
        exact ents_none B3.out
       ·by_cases a3:mayB nm.data.toList=false
        ·rw [a3] at CM
         go_wp2_with (first
          | (refine store_blk 168 (.tmp 7) (.tmp 31) gx 168 #[.string ⟨#[]⟩,.int .i64 0] #[.string nm,.int .i64 (q:Int)] rfl rfl rfl rfl GZ.out rfl (by kernel_rfl) (by simp [Value.oneCell']) ?_;intro w3 hr3 hg3;have d0:=hr3.cell 0 rfl;have d1:=hr3.cell 1 rfl;have GX:=Lib.hid hr3;have HB3:=Lib.hid (HB2.out.grown hg3 HB2.out.size (fun j e=>by cases e;exact hgx));have B3:=Lib.hid (B.out.trans (HB3.out.mono B.out.size));clear hr3 hg3 HB2)
          | (go_at_call 94;refine (CM.out _).mono ?_;rintro e w4 ⟨rfl,hb4⟩;have GX4:=Lib.hid (GX.out.below hb4 GX.out.lt);have HB4:=Lib.hid (HB3.out.trans (hb4.mono HB3.out.size));have B4:=Lib.hid (B.out.trans (HB4.out.mono B.out.size));have d4:=GX4.out.cell 0 rfl;have d5:=GX4.out.cell 1 rfl;clear hb4 HB3 B3))
         go_ret2
         rw [HE.out]
         exact ents_none B4.out
        ·have a4:es≠o:=by
          rcases hbad with h | h | h | h
          ·exact absurd h a1
          ·exact absurd h a2
          ·exact absurd h a3
          ·exact h
         have a3:mayB nm.data.toList=true:=by simpa using a3
         rw [a3] at CM
         have a5:=str_ne a4
         go_wp2_with (first
          | (refine store_blk 168 (.tmp 7) (.tmp 31) gx 168 #[.string ⟨#[]⟩,.int .i64 0] #[.string nm,.int .i64 (q:Int)] rfl rfl rfl rfl GZ.out rfl (by kernel_rfl) (by simp [Value.oneCell']) ?_;intro w3 hr3 hg3;have d0:=hr3.cell 0 rfl;have d1:=hr3.cell 1 rfl;have GX:=Lib.hid hr3;have HB3:=Lib.hid (HB2.out.grown hg3 HB2.out.size (fun j e=>by cases e;exact hgx));have B3:=Lib.hid (B.out.trans (HB3.out.mono B.out.size));clear hr3 hg3 HB2)
          | (go_at_call 94;refine (CM.out _).mono ?_;rintro e w4 ⟨rfl,hb4⟩;have GX4:=Lib.hid (GX.out.below hb4 GX.out.lt);have HB4:=Lib.hid (HB3.out.trans (hb4.mono HB3.out.size));have B4:=Lib.hid (B.out.trans (HB4.out.mono B.out.size));have d4:=GX4.out.cell 0 rfl;have d5:=GX4.out.cell 1 rfl;clear hb4 HB3 B3)
          | (go_at_call 185;refine (CE.out _).mono ?_;rintro e w5 ⟨rfl,hb5⟩;have GX5:=Lib.hid (GX4.out.below hb5 GX4.out.lt);have HB5:=Lib.hid (HB4.out.trans (hb5.mono HB4.out.size));have B5:=Lib.hid (B.out.trans (HB5.out.mono B.out.size));clear hb5 HB4 B4))
         go_ret2
         rw [HE.out]
         exact ents_none B5.out
     ·have a1:¬ (q:Int)<1:=fun h=>hbad (.inl h)
      have a2:¬ (64:Int)<(q:Int):=fun h=>hbad (.inr (.inl h))
      have a3:mayB nm.data.toList=true:=by cases h:mayB nm.data.toList with
       | true=>rfl
       | false=>exact absurd (.inr (.inr (.inl h))) hbad
      obtain rfl:es=o:=Classical.not_not.1 (fun h=>hbad (.inr (.inr (.inr h))))
      have HGD:Hid (goodK (piece L k)=true):=by
       show _=_
       unfold goodK
       rw [HEQ.out.1 rfl,hc,HX.out]
       simp only [okE,a3,Bool.true_and,Bool.and_true,Bool.and_eq_true,decide_eq_true_eq,and_true]
       omega
      have a5:=str_eq es
      rw [a3] at CM
      obtain ⟨A,cp,rfl,HR⟩:=own_ents O.out (entsN_len L k)
      have HR:=Lib.hid HR
      clear hbad HEQ hop hx
      by_cases hk0:k=0
      ·have k1:¬ (0:Int)<(k:Int):=by omega
       have k5:decide (0<k)=false:=decide_eq_false (by omega)
       have HOK:Hid (stepK L k=true):=by
        show _=_
        unfold stepK
        rw [HGD.out,hk0];rfl
       have HK:=Lib.hid hk0
       clear hk0
       go_wp2_with (first
        | (refine store_blk 168 (.tmp 7) (.tmp 31) gx 168 #[.string ⟨#[]⟩,.int .i64 0] #[.string nm,.int .i64 (q:Int)] rfl rfl rfl rfl GZ.out rfl (by kernel_rfl) (by simp [Value.oneCell']) ?_;intro w3 hr3 hg3;have d0:=hr3.cell 0 rfl;have d1:=hr3.cell 1 rfl;have GX:=Lib.hid hr3;have HB3:=Lib.hid (HB2.out.grown hg3 HB2.out.size (fun j e=>by cases e;exact hgx));have B3:=Lib.hid (B.out.trans (HB3.out.mono B.out.size));clear hr3 hg3 HB2)
        | (go_at_call 94;refine (CM.out _).mono ?_;rintro e w4 ⟨rfl,hb4⟩;have GX4:=Lib.hid (GX.out.below hb4 GX.out.lt);have HB4:=Lib.hid (HB3.out.trans (hb4.mono HB3.out.size));have B4:=Lib.hid (B.out.trans (HB4.out.mono B.out.size));have d4:=GX4.out.cell 0 rfl;have d5:=GX4.out.cell 1 rfl;clear hb4 HB3 B3)
        | (go_at_call 185;refine (CE.out _).mono ?_;rintro e w5 ⟨rfl,hb5⟩;have GX5:=Lib.hid (GX4.out.below hb5 GX4.out.lt);have HB5:=Lib.hid (HB4.out.trans (hb5.mono HB4.out.size));have B5:=Lib.hid (B.out.trans (HB5.out.mono B.out.size));clear hb5 HB4 B4))
       have p2:∀ u:Ext w5,u.val.cell? ⟨gx,0,none⟩=some (.string nm):=fun u=>u.cell (GX5.out.cell 0 rfl)
       refine wp_region_ext (by kernel_rfl) (by kernel_rfl) ?_
       repeat (go_big_quiet_step (fail))
       refine wpQuiet_nil ?_
       rintro _ ⟨u,rfl⟩
       have HB6:Hid (Below wr.heap.size wr u.val):=HB5.out.trans (u.below.mono HB5.out.size)
       have GX6:Hid (Blk u.val gx 168 #[.string nm,.int .i64 (q:Int)]):=GX5.out.below u.below GX5.out.lt
       generalize u.val=w6 at *
       clear GX5 HB5 B5 GX4 d0 d1 d4 d5 GX GZ p2
       have O7:Hid ((w6.alloc (.cells #[.string nm,.int .i64 (q:Int)] 168)).ownsRow w.heap.size 168 2 _ k (entC (entsN L k))):=World.ownsRow.alloc (own_below O.out HB6.out) _
       have B7:=Lib.hid ((B.out.trans (HB6.out.mono B.out.size)).alloc (B.out.trans (HB6.out.mono B.out.size)).size (.cells #[.string nm,.int .i64 (q:Int)] 168))
       have HC7:Hid (∀ j u,[Value.string nm,Value.int .i64 (q:Int)][j]?=some u→(w6.alloc (.cells #[.string nm,.int .i64 (q:Int)] 168)).cell? ((⟨w6.heap.size,0,none⟩:Addr).add j)=some u):=fun j u hu=>by
        have hB:=Blk.new w6 168 #[.string nm,.int .i64 (q:Int)]
        rw [add_zero_addr,Nat.zero_add]
        exact hB.cell j (by simpa using hu)
       have H17:Hid (∀ u ∈ [Value.string nm,Value.int .i64 (q:Int)],u.oneCell'=true):=fun u hu=>by
        rcases List.mem_cons.1 hu with rfl | hu
        ·rfl
        ·rcases List.mem_cons.1 hu with rfl | hu
         ·rfl
         ·cases hu
       have HM7:Hid (k+1≤maxLen):=by show _≤_;have:=HN.out;unfold maxLen;omega
       have HY7:Hid ((k+1) * 24≤140737488355328):=by show _≤_;have:=HN.out;omega
       have e0:=GX6.out.cell 0 rfl
       have e1:=GX6.out.cell 1 rfl
       have HS2:Hid ((s.extract 32 (32 * (N-k))).data.toList=L.drop (32 * (k+1))):=by
        show _=_
        rw [← hsz,ext_list,HS.out,List.drop_drop,List.take_of_length_le (by rw [List.length_drop,HLN.out];omega)]
        congr 1
       have HZ2:Hid ((s.extract 32 (32 * (N-k))).size<s.size):=by show _<_;rw [ByteArray.size_extract];omega
       have HA2:Hid (∀ i,i<k+1→stepK L i=true):=fun i hi=>by
        by_cases e:i=k
        ·rw [e];exact HOK.out
        ·exact HA.out i (by omega)
       have HEN:Hid (entC (entsN L k)++[Value.string nm,Value.int .i64 (q:Int)]=entC (entsN L (k+1))):=by
        show _=_
        rw [entsN_succ,entC_app,HX.out]
        rfl
       go_wp2_with (at_builtin;refine wpList_append_own _ rfl (.tmp 67) (.tmp 69) 123 rfl w.heap.size 168 i0 (.agg #[.string ⟨#[]⟩,.int .i64 0]) 2 24 Tryz.underlying123 I0.out.1 I0.out.2.1 I0.out.2.2.1 I0.out.2.2.2 rfl (by decide) _ k (entC (entsN L k)) rfl O7.out ⟨w6.heap.size,0,none⟩ 1 1 [.string nm,.int .i64 (q:Int)] rfl rfl HC7.out H17.out HM7.out HY7.out B7.out.size ?_;intro v9 w9 own hg hv;have O9:Hid (w9.ownsRow w.heap.size 168 2 v9 (k+1) (entC (entsN L (k+1)))):=HEN.out▸own;have B9:=Lib.hid (B7.out.grown hg B7.out.size (fun j e=>(O7.out.lt j e).1));clear own hg hv)
       go_roundw
       case rel=>exact ⟨k+1,_,by omega,rfl,HS2,O9,B9,HA2⟩
       case measure=>exact HZ2.out
      ·obtain ⟨j,hj⟩:∃ j,k=j+1:=⟨k-1,by omega⟩
       have k1:(0:Int)<(k:Int):=by omega
       have k2:IntKind.i64.wrap ((k:Int)-1)=(j:Int):=by rw [show (k:Int)-1=(j:Int) by omega];exact IntWalk.i64_in _ (by have:=HN.out;omega)
       have k3:(j:Int)<(k:Int):=by omega
       have k5:decide (0<k)=true:=decide_eq_true (by omega)
       have k4:(0:Int)≤(j:Int):=by omega
       obtain ⟨bA,oA,rfl,hbA,hrA⟩:=HR.out.get (k:=j) (by rw [entsN_len];omega)
       obtain ⟨pn,hpn⟩:∃ pn,(entK (piece L j)).name=pn:=⟨_,rfl⟩
       have hg:∀ h,((entsN L k)[j]'h).name=pn:=fun h=>by rw [← hpn];simp [entsN]
       have HC:Hid (∀ w',Below wr.heap.size wr w'→w'.cell? ⟨bA,oA+j * 2,none⟩=some (.string pn)):=fun w' h=>by
        have:=hrA 0 (.string pn) (by rw [← hg];rfl)
        exact (h.cell (p:=⟨bA,oA+j * 2,none⟩) hbA).trans this
       have HST:Hid (stepK L k=ltB pn nm):=by
        show _=_
        unfold stepK
        rw [HGD.out,Bool.true_and,hj,show (j+1 == 0)=false from rfl,Bool.false_or,show j+1-1=j by omega,hpn,← hj,HX.out]
       have HBD:=Lib.hid (fun h=>entsO_bad (L:=L) HLN.out hlt h)
       have HJ:=Lib.hid hj
       clear hrA hpn hj hg
       cases hlt2:ltB pn nm with
       | false=>
        have HE:=Lib.hid (HBD.out (HST.out.trans hlt2))
        have l1:Op.bytesLess pn.toList nm.toList=false:=(less_walk pn nm).trans hlt2
        clear HBD HST HGD
        go_wp2_with (first
         | (refine store_blk 168 (.tmp 7) (.tmp 31) gx 168 #[.string ⟨#[]⟩,.int .i64 0] #[.string nm,.int .i64 (q:Int)] rfl rfl rfl rfl GZ.out rfl (by kernel_rfl) (by simp [Value.oneCell']) ?_;intro w3 hr3 hg3;have d0:=hr3.cell 0 rfl;have d1:=hr3.cell 1 rfl;have GX:=Lib.hid hr3;have HB3:=Lib.hid (HB2.out.grown hg3 HB2.out.size (fun j e=>by cases e;exact hgx));have B3:=Lib.hid (B.out.trans (HB3.out.mono B.out.size));clear hr3 hg3 HB2)
         | (go_at_call 94;refine (CM.out _).mono ?_;rintro e w4 ⟨rfl,hb4⟩;have GX4:=Lib.hid (GX.out.below hb4 GX.out.lt);have HB4:=Lib.hid (HB3.out.trans (hb4.mono HB3.out.size));have B4:=Lib.hid (B.out.trans (HB4.out.mono B.out.size));have d4:=GX4.out.cell 0 rfl;have d5:=GX4.out.cell 1 rfl;clear hb4 HB3 B3)
         | (go_at_call 185;refine (CE.out _).mono ?_;rintro e w5 ⟨rfl,hb5⟩;have GX5:=Lib.hid (GX4.out.below hb5 GX4.out.lt);have HB5:=Lib.hid (HB4.out.trans (hb5.mono HB4.out.size));have B5:=Lib.hid (B.out.trans (HB5.out.mono B.out.size));clear hb5 HB4 B4))
        have p1:∀ u:Ext w5,u.val.cell? ⟨bA,oA+j * 2,none⟩=some (.string pn):=fun u=>HC.out _ (HB5.out.trans (u.below.mono HB5.out.size))
        have p2:∀ u:Ext w5,u.val.cell? ⟨gx,0,none⟩=some (.string nm):=fun u=>u.cell (GX5.out.cell 0 rfl)
        refine wp_region_ext (by kernel_rfl) (by kernel_rfl) ?_
        repeat (go_big_quiet_step (fail))
        refine wpQuiet_nil ?_
        rintro _ ⟨u,rfl⟩
        have B6:=Lib.hid (B5.out.trans (u.below.mono B5.out.size))
        generalize u.val=w6 at B6
        go_wp2
        go_ret2
        rw [HE.out]
        exact ents_none B6.out
       | true=>
       have HOK:Hid (stepK L k=true):=HST.out.trans hlt2
       have l1:Op.bytesLess pn.toList nm.toList=true:=(less_walk pn nm).trans hlt2
       clear HBD HST HGD hlt2
       go_wp2_with (first
        | (refine store_blk 168 (.tmp 7) (.tmp 31) gx 168 #[.string ⟨#[]⟩,.int .i64 0] #[.string nm,.int .i64 (q:Int)] rfl rfl rfl rfl GZ.out rfl (by kernel_rfl) (by simp [Value.oneCell']) ?_;intro w3 hr3 hg3;have d0:=hr3.cell 0 rfl;have d1:=hr3.cell 1 rfl;have GX:=Lib.hid hr3;have HB3:=Lib.hid (HB2.out.grown hg3 HB2.out.size (fun j e=>by cases e;exact hgx));have B3:=Lib.hid (B.out.trans (HB3.out.mono B.out.size));clear hr3 hg3 HB2)
        | (go_at_call 94;refine (CM.out _).mono ?_;rintro e w4 ⟨rfl,hb4⟩;have GX4:=Lib.hid (GX.out.below hb4 GX.out.lt);have HB4:=Lib.hid (HB3.out.trans (hb4.mono HB3.out.size));have B4:=Lib.hid (B.out.trans (HB4.out.mono B.out.size));have d4:=GX4.out.cell 0 rfl;have d5:=GX4.out.cell 1 rfl;clear hb4 HB3 B3)
        | (go_at_call 185;refine (CE.out _).mono ?_;rintro e w5 ⟨rfl,hb5⟩;have GX5:=Lib.hid (GX4.out.below hb5 GX4.out.lt);have HB5:=Lib.hid (HB4.out.trans (hb5.mono HB4.out.size));have B5:=Lib.hid (B.out.trans (HB5.out.mono B.out.size));clear hb5 HB4 B4))
       have p1:∀ u:Ext w5,u.val.cell? ⟨bA,oA+j * 2,none⟩=some (.string pn):=fun u=>HC.out _ (HB5.out.trans (u.below.mono HB5.out.size))
       have p2:∀ u:Ext w5,u.val.cell? ⟨gx,0,none⟩=some (.string nm):=fun u=>u.cell (GX5.out.cell 0 rfl)
       refine wp_region_ext (by kernel_rfl) (by kernel_rfl) ?_
       repeat (go_big_quiet_step (fail))
       refine wpQuiet_nil ?_
       rintro _ ⟨u,rfl⟩
       clear p1 l1 k2
       have HB6:Hid (Below wr.heap.size wr u.val):=HB5.out.trans (u.below.mono HB5.out.size)
       have GX6:Hid (Blk u.val gx 168 #[.string nm,.int .i64 (q:Int)]):=GX5.out.below u.below GX5.out.lt
       generalize u.val=w6 at *
       clear GX5 HB5 B5 GX4 d0 d1 d4 d5 GX GZ p2
       have O7:Hid ((w6.alloc (.cells #[.string nm,.int .i64 (q:Int)] 168)).ownsRow w.heap.size 168 2 _ k (entC (entsN L k))):=World.ownsRow.alloc (own_below O.out HB6.out) _
       have B7:=Lib.hid ((B.out.trans (HB6.out.mono B.out.size)).alloc (B.out.trans (HB6.out.mono B.out.size)).size (.cells #[.string nm,.int .i64 (q:Int)] 168))
       have HC7:Hid (∀ j u,[Value.string nm,Value.int .i64 (q:Int)][j]?=some u→(w6.alloc (.cells #[.string nm,.int .i64 (q:Int)] 168)).cell? ((⟨w6.heap.size,0,none⟩:Addr).add j)=some u):=fun j u hu=>by
        have hB:=Blk.new w6 168 #[.string nm,.int .i64 (q:Int)]
        rw [add_zero_addr,Nat.zero_add]
        exact hB.cell j (by simpa using hu)
       have H17:Hid (∀ u ∈ [Value.string nm,Value.int .i64 (q:Int)],u.oneCell'=true):=fun u hu=>by
        rcases List.mem_cons.1 hu with rfl | hu
        ·rfl
        ·rcases List.mem_cons.1 hu with rfl | hu
         ·rfl
         ·cases hu
       have HM7:Hid (k+1≤maxLen):=by show _≤_;have:=HN.out;unfold maxLen;omega
       have HY7:Hid ((k+1) * 24≤140737488355328):=by show _≤_;have:=HN.out;omega
       have e0:=GX6.out.cell 0 rfl
       have e1:=GX6.out.cell 1 rfl
       have HS2:Hid ((s.extract 32 (32 * (N-k))).data.toList=L.drop (32 * (k+1))):=by
        show _=_
        rw [← hsz,ext_list,HS.out,List.drop_drop,List.take_of_length_le (by rw [List.length_drop,HLN.out];omega)]
        congr 1
       have HZ2:Hid ((s.extract 32 (32 * (N-k))).size<s.size):=by show _<_;rw [ByteArray.size_extract];omega
       have HA2:Hid (∀ i,i<k+1→stepK L i=true):=fun i hi=>by
        by_cases e:i=k
        ·rw [e];exact HOK.out
        ·exact HA.out i (by omega)
       have HEN:Hid (entC (entsN L k)++[Value.string nm,Value.int .i64 (q:Int)]=entC (entsN L (k+1))):=by
        show _=_
        rw [entsN_succ,entC_app,HX.out]
        rfl
       go_wp2_with (at_builtin;refine wpList_append_own _ rfl (.tmp 67) (.tmp 69) 123 rfl w.heap.size 168 i0 (.agg #[.string ⟨#[]⟩,.int .i64 0]) 2 24 Tryz.underlying123 I0.out.1 I0.out.2.1 I0.out.2.2.1 I0.out.2.2.2 rfl (by decide) _ k (entC (entsN L k)) rfl O7.out ⟨w6.heap.size,0,none⟩ 1 1 [.string nm,.int .i64 (q:Int)] rfl rfl HC7.out H17.out HM7.out HY7.out B7.out.size ?_;intro v9 w9 own hg hv;have O9:Hid (w9.ownsRow w.heap.size 168 2 v9 (k+1) (entC (entsN L (k+1)))):=HEN.out▸own;have B9:=Lib.hid (B7.out.grown hg B7.out.size (fun j e=>(O7.out.lt j e).1));clear own hg hv)
       go_roundw
       case rel=>exact ⟨k+1,_,by omega,rfl,HS2,O9,B9,HA2⟩
       case measure=>exact HZ2.out
    ·have o4:(24:Int)<(c:Int):=by omega
     have HE:=Lib.hid (HBAD.out (.inl (by omega)))
     go_wp2
     go_ret2
     rw [HE.out]
     exact ents_none B.out
   ·obtain rfl:k=N:=by omega
    have q1:s.toList.isEmpty=true:=by
     rw [str_data]
     cases h:s.data.toList with
     | nil=>rfl
     | cons a t=>have:=congrArg List.length h;rw [Array.length_toList] at this;have h2:s.size=(a::t).length:=this;simp at h2;omega
    have q2:s.toList=[]:=by simpa using q1
    have HE:=Lib.hid (entsO_all HLN.out HA.out)
    go_wp2
    go_ret2
    rw [HE.out]
    exact ⟨⟨_,rfl,by unfold OwnEnts;rw [Option.getD_some,entsN_len];exact O.out⟩,B.out⟩
 ·have e0:(((b.size % 32:Nat):Int) != 0)=true:=by
   simp;omega
  have HO:=Lib.hid (entsO_odd (L:=b.data.toList) (by rw [hl];exact hm))
  rw [HO.out]
  go_enter Tryz.func123,Tryz.ntmps123
  go_wp2
  go_ret2
  exact ents_none (Below.refl _ _)
end Go.Proofs.YtdldlendppkknaaGreatDoor
