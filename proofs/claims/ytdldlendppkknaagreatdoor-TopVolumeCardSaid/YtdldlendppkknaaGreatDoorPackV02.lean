/-
  Contracts and plain laws: SpkA, TopLaid, NumVol.
-/
import Derived.Test.YtdldlendppkknaaGreatDoorCards
import Derived.Test.YtdldlendppkknaaGreatDoorTie
import Derived.Deep.DeepHandedRow
import Derived.Lib.LaidTab
import Derived.Lay
import Derived.Test.YtdldlendppkknaaGreatDoorPackV01
namespace Go.Proofs.YtdldlendppkknaaGreatDoor
open Go.RowKit
set_option linter.unusedVariables false
set_option linter.unusedSimpArgs false
set_option maxRecDepth 100000
def insW:Array Value:=#[.int .u8 1,.int .u8 1,.int .u8 2,.int .u8 3,.int .i32 0]
theorem fields_add (w:World):Calls Tryz.prog 73 #[.int .u8 1] w fun e w'=>e=.returned (.tuple #[.agg #[.bool true,.bool true,.bool true,.bool false],.bool true])∧Below w.heap.size w w':=by
 go_enter Tryz.func73,Tryz.ntmps73
 go_wp2
 exact bodyPost_ret (v:=.tuple #[.agg #[.bool true,.bool true,.bool true,.bool false],.bool true]) (by simp [results,Tryz.results73,go_sem]) rfl ⟨rfl,(Below.refl _ _).alloc (Nat.le_refl _) _⟩
theorem enc_add (w:World):Calls Tryz.prog 28 #[.agg #[.int .u8 1,.int .u8 1,.int .u8 2,.int .u8 3,.int .i32 0]] w fun e w'=>e=.returned (.tuple #[.int .u32 71876608,.int .i64 0])∧Below w.heap.size w w':=by
 go_enter Tryz.func28,Tryz.ntmps28
 go_wp2_with fail
 refine (fields_add _).mono ?_
 rintro e w1 ⟨rfl,hb1⟩
 have g0:=(Blk.new w 72 insW).below hb1 (by simp)
 have B1:=Lib.hid ((((Below.refl _ _).alloc (Nat.le_refl _) (.cells insW 72)).trans (hb1.mono (by simp))).alloc (by have:=hb1.size;simp at this;omega) (.cells #[.bool true,.bool true,.bool true,.bool false] 141))
 have q0:w1.cell? ⟨w.heap.size,0,none⟩=some (.int .u8 1):=g0.cell 0 rfl
 have q1:w1.cell? ⟨w.heap.size,1,none⟩=some (.int .u8 1):=g0.cell 1 rfl
 have q2:w1.cell? ⟨w.heap.size,2,none⟩=some (.int .u8 2):=g0.cell 2 rfl
 have q3:w1.cell? ⟨w.heap.size,3,none⟩=some (.int .u8 3):=g0.cell 3 rfl
 have q4:w1.cell? ⟨w.heap.size,4,none⟩=some (.int .i32 0):=g0.cell 4 rfl
 have hz:=g0.lt
 clear hb1 g0
 go_wp2
 go_ret2
 exact ⟨rfl,B1.out⟩
set_option maxHeartbeats 2000000 in
theorem dec_add (w:World):Calls Tryz.prog 80 #[.int .u32 71876608] w fun e w'=>e=.returned (.tuple #[.agg #[.int .u8 1,.int .u8 1,.int .u8 2,.int .u8 3,.int .i32 0],.bool true])∧Below w.heap.size w w':=by
 go_enter Tryz.func80,Tryz.ntmps80
 go_wp2_with fail
 refine (fields_add _).mono ?_
 rintro e w1 ⟨rfl,hb1⟩
 have B1:Hid (Below w.heap.size w w1):=(((Below.refl _ _).alloc (Nat.le_refl _) _).alloc (by simp) _).trans (hb1.mono (by simp;omega))
 have g1:=(Blk.new (w.alloc (.cells #[.int .u8 0,.int .u8 0,.int .u8 0,.int .u8 0,.int .i32 0] 72)) 72 #[.int .u8 1,.int .u8 0,.int .u8 0,.int .u8 0,.int .i32 0]).below hb1 (by simp)
 rw [show (w.alloc (.cells #[.int .u8 0,.int .u8 0,.int .u8 0,.int .u8 0,.int .i32 0] 72)).heap.size=w.heap.size+1 by simp] at g1
 have q0:w1.cell? ⟨w.heap.size+1,0,none⟩=some (.int .u8 1):=g1.cell 0 rfl
 have r0:w1.frozen? ⟨w.heap.size+1,0,none⟩=false:=g1.frozen 0
 have q1:w1.cell? ⟨w.heap.size+1,1,none⟩=some (.int .u8 0):=g1.cell 1 rfl
 have r1:w1.frozen? ⟨w.heap.size+1,1,none⟩=false:=g1.frozen 1
 have q2:w1.cell? ⟨w.heap.size+1,2,none⟩=some (.int .u8 0):=g1.cell 2 rfl
 have r2:w1.frozen? ⟨w.heap.size+1,2,none⟩=false:=g1.frozen 2
 have q3:w1.cell? ⟨w.heap.size+1,3,none⟩=some (.int .u8 0):=g1.cell 3 rfl
 have r3:w1.frozen? ⟨w.heap.size+1,3,none⟩=false:=g1.frozen 3
 have q4:w1.cell? ⟨w.heap.size+1,4,none⟩=some (.int .i32 0):=g1.cell 4 rfl
 have r4:w1.frozen? ⟨w.heap.size+1,4,none⟩=false:=g1.frozen 4
 have hz1:=g1.lt
 have G1:=Lib.hid g1
 have G0:=Lib.hid (((Blk.new w 72 #[.int .u8 0,.int .u8 0,.int .u8 0,.int .u8 0,.int .i32 0]).alloc (.cells #[.int .u8 1,.int .u8 0,.int .u8 0,.int .u8 0,.int .i32 0] 72)).below hb1 (by simp;omega))
 clear hb1 g1
 go_wp2_with fail
 refine (enc_add _).mono ?_
 rintro e w2 ⟨rfl,hb2⟩
 have hz0:=B1.out.size
 have B2:Hid (Below w.heap.size w w2):=((((B1.out.setCell (p:=⟨w.heap.size+1,1,none⟩) (by show w.heap.size≤w.heap.size+1;omega) _).setCell (p:=⟨w.heap.size+1,2,none⟩) (by show w.heap.size≤w.heap.size+1;omega) _).setCell (p:=⟨w.heap.size+1,3,none⟩) (by show w.heap.size≤w.heap.size+1;omega) _).alloc (by simp;omega) _).trans (hb2.mono (by simp;omega))
 have G2:Hid (Blk w2 (w.heap.size+1) 72 #[.int .u8 1,.int .u8 1,.int .u8 2,.int .u8 3,.int .i32 0]):=((((G1.out.set_ 1 _).set_ 2 _).set_ 3 _).alloc _).below hb2 (by simp;omega)
 have G3:Hid (Blk w2 w.heap.size 72 #[.int .u8 0,.int .u8 0,.int .u8 0,.int .u8 0,.int .i32 0]):=((((G0.out.far (p:=⟨w.heap.size+1,1,none⟩) (by show w.heap.size≠w.heap.size+1;omega) _).far (p:=⟨w.heap.size+1,2,none⟩) (by show w.heap.size≠w.heap.size+1;omega) _).far (p:=⟨w.heap.size+1,3,none⟩) (by show w.heap.size≠w.heap.size+1;omega) _).alloc _).below hb2 (by simp;omega)
 clear hb2
 clear q0 r0 q1 r1 q2 r2 q3 r3 q4 r4 G0 G1 B1 hz1 hz0
 have q0:w2.cell? ⟨w.heap.size+1,0,none⟩=some (.int .u8 1):=G2.out.cell 0 rfl
 have p0:w2.cell? ⟨w.heap.size,0,none⟩=some (.int .u8 0):=G3.out.cell 0 rfl
 have f0:w2.frozen? ⟨w.heap.size,0,none⟩=false:=G3.out.frozen 0
 have q1:w2.cell? ⟨w.heap.size+1,1,none⟩=some (.int .u8 1):=G2.out.cell 1 rfl
 have p1:w2.cell? ⟨w.heap.size,1,none⟩=some (.int .u8 0):=G3.out.cell 1 rfl
 have f1:w2.frozen? ⟨w.heap.size,1,none⟩=false:=G3.out.frozen 1
 have q2:w2.cell? ⟨w.heap.size+1,2,none⟩=some (.int .u8 2):=G2.out.cell 2 rfl
 have p2:w2.cell? ⟨w.heap.size,2,none⟩=some (.int .u8 0):=G3.out.cell 2 rfl
 have f2:w2.frozen? ⟨w.heap.size,2,none⟩=false:=G3.out.frozen 2
 have q3:w2.cell? ⟨w.heap.size+1,3,none⟩=some (.int .u8 3):=G2.out.cell 3 rfl
 have p3:w2.cell? ⟨w.heap.size,3,none⟩=some (.int .u8 0):=G3.out.cell 3 rfl
 have f3:w2.frozen? ⟨w.heap.size,3,none⟩=false:=G3.out.frozen 3
 have q4:w2.cell? ⟨w.heap.size+1,4,none⟩=some (.int .i32 0):=G2.out.cell 4 rfl
 have p4:w2.cell? ⟨w.heap.size,4,none⟩=some (.int .i32 0):=G3.out.cell 4 rfl
 have f4:w2.frozen? ⟨w.heap.size,4,none⟩=false:=G3.out.frozen 4
 have hz:=G3.out.lt
 have hz1:=G2.out.lt
 go_wp2
 refine bodyPost_ret (results_ct rfl rfl rfl (((((G3.out.set_ 0 _).set_ 1 _).set_ 2 _).set_ 3 _).set_ 4 _) Tryz.underlying72 rfl (by kernel_rfl)) rfl ?_
 exact ⟨rfl,(((((B2.out.setCell (Nat.le_refl _) _).setCell (Nat.le_refl _) _).setCell (Nat.le_refl _) _).setCell (Nat.le_refl _) _).setCell (Nat.le_refl _) _)⟩
def namesT:List (List UInt8):=[[],[97,100,100],[115,117,98],[109,117,108],[100,105,118],[114,101,109],[97,110,100],[111,114],[120,111,114],[115,104,108],[115,104,114],[115,97,114],[115,108,116],[115,108,116,117],[97,100,100,105],[97,110,100,105],[111,114,105],[120,111,114,105],[115,108,116,105],[108,117,105],[108,119],[108,98],[108,98,117],[115,119],[115,98],[98,101,113],[98,110,101],[98,108,116],[98,108,116,117],[106,97,108],[106,97,108,114],[115,121,115]]
def namesV:Array Value:=(namesT.map fun l=>Value.string ⟨l.toArray⟩).toArray
theorem gNames:Tryz.prog.globalNamed "hibernacle/isa.names" = some 0:=by kernel_rfl
def SpkT (w:World):Prop:=w.var? Tryz.prog "hibernacle/isa.names" = some namesV
theorem SpkT.blk {w:World} (h:SpkT w):∃ t fr,w.heap[0]?=some (.cells namesV t fr):=by
 unfold SpkT World.var? at h
 rw [gNames] at h
 simp only [Option.bind_some] at h
 cases hh:w.heap[0]? with
 | none=>rw [hh] at h;cases h
 | some o=>
  rw [hh] at h
  cases o <;> simp at h
  rename_i c t fr
  exact ⟨t,fr,by rw [h]⟩
theorem SpkT.later {w w':World} (h:SpkT w) (hb:Below w.heap.size w w'):SpkT w':=by
 obtain ⟨t,fr,hg⟩:=h.blk
 have h0:0<w.heap.size:=(Array.getElem?_eq_some_iff.1 hg).1
 have h2:w'.heap[0]?=some (.cells namesV t fr):=by rw [hb.block 0 h0];exact hg
 unfold SpkT World.var?
 rw [gNames]
 simp only [Option.bind_some,h2]
theorem arrSz:(Tryz.prog.info? 139).map (·.size)=some 32:=by kernel_rfl
theorem idx_names0 (w:World):(Instr.index 139 (.agg namesV) (.int .i64 0)).run Tryz.prog w=.ok (.string ⟨#[]⟩) w:=by
 have h2:namesV[0]?=some (.string ⟨#[]⟩):=rfl
 unfold Instr.index
 simp [go_sem,run_underlying Tryz.underlying139,h2]
theorem idx_names1 (w:World):(Instr.index 139 (.agg namesV) (.int .i64 1)).run Tryz.prog w=.ok (.string ⟨#[97,100,100]⟩) w:=by
 have h2:namesV[1]?=some (.string ⟨#[97,100,100]⟩):=rfl
 unfold Instr.index
 simp [go_sem,run_underlying Tryz.underlying139,h2]
set_option maxHeartbeats 1000000 in
theorem op_add (w:World) (hl:SpkT w):Calls Tryz.prog 27 #[.string ⟨#[97,100,100]⟩] w fun e w'=>e=.returned (.tuple #[.int .u8 1,.bool true])∧Below w.heap.size w w':=by
 obtain ⟨t,fr,hg⟩:=hl.blk
 have HG:=Lib.hid hg
 clear hg hl
 go_enter Tryz.func27,Tryz.ntmps27
 go_wp2_with (refine wpList_load_row rfl 139 _ rfl 0 rfl t namesV fr _ HG.out Tryz.underlying139 rfl arrSz ?_)
 go_loop [7] (fun i=>∃ k:Nat,k≤1∧i=.int .i64 k) (fun i=>32-(intOf i).toNat)
 case atStart=>exact ⟨0,by omega,rfl⟩
 case round=>
  obtain ⟨k,hk,rfl⟩:=hrel
  obtain rfl | rfl:k=0∨k=1:=by omega
  ·have hx:=idx_names0
   go_wp2
   go_round
   case rel=>exact ⟨1,by omega,by go_num⟩
   case measure=>simp [intOf]
  ·have hx:=idx_names1
   show _
   go_wp2
   go_ret2
   exact ⟨rfl,Below.refl _ _⟩
open Go.ChangeShapes Go.WideShapes Go.ChangeAt Go.RowKit
theorem cells_of_strs {H:Type} {enc:TypeId × Value→H} {P:Program} {w:World} {base:Nat} {sp:Nat→Bool} {held:Bool} {fuel:Nat} {t e:TypeId} {n:Nat} {cs:List Value} {zs:List (List UInt8)} {p:List MemPlace}
  (ht:P.underlying t=some (.array n e)) (he:P.underlying e=some .string) (hce:P.cellsOf e=1) (hct:P.cellsOf t=n)
  (h:DataW.trod enc P w base sp held fuel t cs=some (.agg (zs.map fun z=>.lit (.string z)),p)):cs=zs.map fun z=>Value.string ⟨z.toArray⟩:=by
 cases fuel with
 | zero=>simp [DataW.trod] at h
 | succ fuel=>
  simp only [DataW.trod,ht,hce,hct,Nat.mul_one] at h
  split at h
  ·rename_i hl
   obtain ⟨xs,hm,hx⟩:=Option.map_eq_some_iff.1 h
   have hxs:xs.map (·.1)=zs.map fun z=>(DataW.lit (.string z):DataW H):=by
    have:=congrArg Prod.fst hx
    simpa using this
   have hxl:xs.length=n:=by simpa using Lib.mapM_length hm
   have hzl:zs.length=n:=by
    have:=congrArg List.length hxs
    simp at this
    omega
   apply List.ext_getElem?
   intro i
   by_cases hi:i<n
   ·obtain ⟨b,hb,hf⟩:=Lib.mapM_at hm i i (by simp [hi])
    obtain ⟨s,hc,rfl,_⟩:=DataW.trod_string he hf
    have h1:cs[i]?=some (.string s):=by
     have:=congrArg (·[0]?) hc
     simpa [List.getElem?_take,List.getElem?_drop] using this
    have h2:(xs.map (·.1))[i]?=some (DataW.lit (.string s.data.toList):DataW H):=by simp [hb]
    rw [hxs] at h2
    simp only [List.getElem?_map,Option.map_eq_some_iff,DataW.lit.injEq,Lit.string.injEq] at h2
    obtain ⟨z',hz',rfl⟩:=h2
    simp [h1,hz']
   ·rw [List.getElem?_eq_none (by omega),List.getElem?_eq_none (by simp;omega)]
  ·cases h
theorem namesG:(Tryz.prog.globals[0]?).map (·.type)=some 139:=by kernel_rfl
theorem namesC:Tryz.prog.cellsOf 139=32:=by kernel_rfl
theorem strC:Tryz.prog.cellsOf 9=1:=by kernel_rfl
theorem laid_of {W:World} (h:laidMetH Tryz.prog Rows.topFilesRow.laid W):SpkT W:=by
 rw [MakeChecks.laidMetH_plain _ _ _ (by kernel_rfl)] at h
 obtain ⟨ps,⟨g0,t0,cs0,f0,p0,q0,hg0,ht0,hv0,hd0,_,_⟩,_⟩:=h
 obtain rfl:=Option.some.inj (gNames.symm.trans hg0)
 obtain rfl:=Option.some.inj (namesG.symm.trans ht0)
 unfold SpkT
 rw [hv0]
 have:=cells_of_strs (zs:=namesT) Tryz.underlying139 Tryz.underlying9 strC namesC hd0
 unfold namesV
 rw [← this]
noncomputable def laidWorld (os:Os):World:=World.laidAll Tryz.prog os Rows.topFilesRow.laid
theorem laid_met (os:Os) (args:Array Value):laidMetH Tryz.prog Rows.topFilesRow.laid ((laidWorld os).forCall (fun _ _=>0) ⟨#[],args,[]⟩).memory:=by
 rw [MakeChecks.laidMetH_plain _ _ _ (by kernel_rfl)]
 exact laidMet_laidAll _ (by kernel_rfl) (by kernel_rfl)
def leN:List UInt8→Nat
 | []=>0
 | b::l=>b.toNat+256 * leN l
theorem leN_lt:∀ l:List UInt8,leN l<256 ^ l.length
 | []=>by simp [leN]
 | b::l=>by have:=leN_lt l;have hb:=b.toNat_lt;simp only [leN,List.length_cons,Nat.pow_succ];omega
theorem leN_snoc:∀ (l:List UInt8) (b:UInt8),leN (l++[b])=leN l+256 ^ l.length * b.toNat
 | [],b=>by simp [leN]
 | c::l,b=>by
  simp only [List.cons_append,leN,leN_snoc l b,List.length_cons,Nat.pow_succ]
  rw [Nat.mul_add,Nat.mul_comm (256 ^ l.length) 256,← Nat.mul_assoc];omega
theorem get_step (a b k:Nat) (ha:a<256 ^ k) (hb:b<256) (hk:k<8):bits .or .u64 (a:Int) (IntKind.u64.wrap (IntKind.u64.wrap (b:Int) * 2 ^ (8 * k)))=((a+256 ^ k * b:Nat):Int):=by
 have e256:(256:Nat) ^ k=2 ^ (8 * k):=by rw [Nat.pow_mul]
 have hp:(2:Nat) ^ (8 * k)≤2 ^ 56:=Nat.pow_le_pow_right (by omega) (by omega)
 rw [e256] at ha ⊢
 have hbp:b * 2 ^ (8 * k)≤255 * 2 ^ 56:=Nat.mul_le_mul (by omega) hp
 have w1:IntKind.u64.wrap (b:Int)=(b:Int):=IntWalk.u64_in _ (by omega)
 have w2:(b:Int) * 2 ^ (8 * k)=((b * 2 ^ (8 * k):Nat):Int):=by simp
 have w3:IntKind.u64.wrap ((b * 2 ^ (8 * k):Nat):Int)=((b * 2 ^ (8 * k):Nat):Int):=IntWalk.u64_in _ (by omega)
 rw [w1,w2,w3,u64_or_nat _ _ (by omega) (by omega),Nat.or_comm,nat_join (8 * k) _ _ (by simp) ha,Nat.add_comm,Nat.mul_comm b]
theorem take_one (s:ByteArray) (k:Nat) (h:k<s.size):s.data.toList.take (k+1)=s.data.toList.take k++[s[k]]:=by
 rw [List.take_succ_eq_append_getElem (by simpa using h)];rfl
theorem get_next (s:ByteArray) (k:Nat) (h:k<s.size) (hk:k<8) :
  bits .or .u64 (leN (s.data.toList.take k):Int) (IntKind.u64.wrap (IntKind.u64.wrap (s[k].toNat:Int) * 2 ^ (8 * k)))=(leN (s.data.toList.take (k+1)):Int):=by
 have hl:(s.data.toList.take k).length=k:=by simp;omega
 have h1:=leN_lt (s.data.toList.take k)
 rw [hl] at h1
 rw [get_step _ _ k h1 (s[k].toNat_lt) hk,take_one s k h,leN_snoc,hl]
set_option maxHeartbeats 400000 in
theorem get_any (s:ByteArray) (w:World) (hs:s.size≤9223372036854775807) :
  Calls Tryz.prog 52 #[.string s] w fun e w'=>e=.returned (.int .u64 (leN (s.data.toList.take 8)))∧w=w':=by
 by_cases hm:8<s.size
 all_goals
  go_enter Tryz.func52,Tryz.ntmps52
  go_wp2
  go_loop [3,8] (fun n i=>∃ k:Nat,k≤min s.size 8∧i=.int .i64 k∧n=.int .u64 (leN (s.data.toList.take k))) (fun _ i=>8-(intOf i).toNat)
  case atStart=>exact ⟨0,Nat.zero_le _,rfl,rfl⟩
  case round=>
   obtain ⟨k,hk,rfl,rfl⟩:=hrel
   by_cases hlt:k<min s.size 8
   ·have hk8:k<8:=by omega
    have hks:k<s.size:=by omega
    have HN:=Lib.hid (get_next s k hks hk8)
    go_wp2
    go_round
    case rel=>exact ⟨k+1,by omega,by go_num,by rw [HN.out]⟩
    case measure=>simp [intOf];omega
   ·go_wp2
    go_ret
    refine ⟨ret_int ?_,rfl⟩
    have hkk:k=min s.size 8:=by omega
    rw [hkk]
    have:s.data.toList.take (min s.size 8)=s.data.toList.take 8:=by
     rw [← List.take_length (l:=s.data.toList),List.take_take,List.take_take];simp [Nat.min_comm]
    rw [this]
def bt (n j:Nat):Nat:=n / 256 ^ j % 256
def putL (n k:Nat):List UInt8:=(List.range k).map fun j=>UInt8.ofNat (bt n j)
theorem putL_length (n k:Nat):(putL n k).length=k:=by simp [putL]
theorem bt_succ (n j:Nat):bt n (j+1)=bt (n / 256) j:=by unfold bt;rw [Nat.pow_succ,Nat.mul_comm,Nat.div_div_eq_div_mul]
theorem putL_succ (n k:Nat):putL n (k+1)=UInt8.ofNat (n % 256)::putL (n / 256) k:=by
 unfold putL
 rw [List.range_succ_eq_map]
 simp only [List.map_cons,List.map_map]
 congr 1
 ·simp [bt]
 ·apply List.map_congr_left;intro j _;simp [bt_succ]
theorem leN_putL:∀ (k n:Nat),leN (putL n k)=n % 256 ^ k
 | 0,n=>by simp [putL,leN,Nat.mod_one]
 | k+1,n=>by
  rw [putL_succ]
  simp only [leN,leN_putL k]
  have:(UInt8.ofNat (n % 256)).toNat=n % 256:=by rw [UInt8.toNat_ofNat'];omega
  rw [this,Nat.pow_succ,Nat.mul_comm (256 ^ k) 256,Nat.mod_mul]
theorem putL_leN:∀ l:List UInt8,putL (leN l) l.length=l
 | []=>rfl
 | b::l=>by
  have hb:=b.toNat_lt
  rw [List.length_cons,putL_succ]
  simp only [leN]
  rw [show (b.toNat+256 * leN l) % 256=b.toNat by omega,show (b.toNat+256 * leN l) / 256=leN l by omega,putL_leN l]
  simp
def putCells (n k:Nat):List Value:=(List.range 8).map fun j=>Value.int .u8 (if j<k then (bt n j:Nat) else 0:Int)
theorem putCells_set (n k:Nat) (hk:k<8):(putCells n k).toArray.setIfInBounds k (.int .u8 (bt n k:Nat))=(putCells n (k+1)).toArray:=by
 rw [List.setIfInBounds_toArray]
 congr 1
 apply List.ext_getElem
 ·simp [putCells]
 ·intro i h1 h2
  rw [List.getElem_set]
  by_cases e:k=i
  ·subst e;simp [putCells]
  ·simp only [e,if_false,putCells,List.getElem_map,List.getElem_range]
   by_cases h:i<k
   ·simp [h,show i<k+1 by omega]
   ·simp [h,show ¬ i<k+1 by omega]
theorem putCells_get (n k j:Nat) (hj:j<8):(putCells n k).toArray[j]?=some (.int .u8 (if j<k then (bt n j:Nat) else 0:Int)):=by
 simp [putCells,hj]
theorem put_byte (n k:Nat) (hn:n<18446744073709551616) (hk:k<8):((n:Int) / 2 ^ (8 * k)) % 256=(bt n k:Nat):=by
 unfold bt
 have e256:(256:Nat) ^ k=2 ^ (8 * k):=by rw [Nat.pow_mul]
 rw [e256];simp
theorem strOfNums_put (n j:Nat):strOfNums ((List.range j).map fun i=>((bt n i:Nat):Int))=⟨(putL n j).toArray⟩:=by
 unfold strOfNums putL
 rw [List.map_map]
 have:((fun n=>UInt8.ofNat n.toNat)∘fun i=>((bt n i:Nat):Int))=fun j=>UInt8.ofNat (bt n j):=by funext i;simp
 rw [this]
set_option maxHeartbeats 400000 in
theorem put_any (n k:Nat) (w:World) (hn:n<18446744073709551616) (hk:k≤8) :
  Calls Tryz.prog 93 #[.int .u64 n,.int .i64 k] w fun e w'=>e=.returned (.string ⟨(putL n k).toArray⟩)∧Below w.heap.size w w':=by
 have hmx:((k:Int)<0)=False:=by simp
 go_enter Tryz.func93,Tryz.ntmps93
 go_wp2
 go_loopw [6,11] (fun _ i wr=>∃ j:Nat,j≤k∧i=.int .i64 j∧Hid (Blk wr w.heap.size 238 (putCells n j).toArray)∧Hid (Below w.heap.size w wr)) (fun _ i _=>k-(intOf i).toNat)
 case atStart=>exact ⟨0,Nat.zero_le _,rfl,Blk.new w _ _,(Below.refl _ _).alloc (Nat.le_refl _) _⟩
 case round=>
  obtain ⟨j,hj,rfl,G,B⟩:=hrel
  by_cases hlt:j<k
  ·have hj8:j<8:=by omega
   have hb:=put_byte n j hn hj8
   have HB:=Lib.hid hb
   have c1:∃ x,wr.cell? ⟨w.heap.size,j,none⟩=some x:=⟨_,G.out.cell j (putCells_get n j j hj8)⟩
   obtain ⟨x,c1⟩:=c1
   have c2:=G.out.frozen j
   have i1:(0:Int)≤(j:Int):=by omega
   have i2:(j:Int)<8:=by omega
   clear hb
   go_wp2
   go_roundw
   case rel=>exact ⟨j+1,by omega,by go_num,by rw [HB.out,← putCells_set n j hj8];exact G.out.set_ j _,B.out.setCell (Nat.le_refl _) _⟩
   case measure=>simp [intOf];omega
  ·have hjk:j=k:=by omega
   subst hjk
   have hcv:(convert 44 9 (.slice (some ⟨w.heap.size,0,none⟩) j 8)).run Tryz.prog wr=.ok (.string ⟨(putL n j).toArray⟩) wr:=by
    have:=run_convert_bytes_arg (P:=Tryz.prog) wr 44 5 Tryz.underlying44 Tryz.underlying5 w.heap.size 0 j 8 ((List.range j).map fun i=>((bt n i:Nat):Int)) (by simp) (fun i hi=>by
     rw [Nat.zero_add]
     refine G.out.cell i ?_
     rw [putCells_get n j i (by omega)]
     simp [hi]) 9 Tryz.underlying9
    rw [this,strOfNums_put]
   generalize hst:(⟨(putL n j).toArray⟩:ByteArray)=st at hcv
   have HST:=Lib.hid hst
   clear hst
   have i2:(j:Int)≤8:=by omega
   have hlt':¬ (j:Int)<(j:Int):=by omega
   clear hn hmx hj hlt
   go_wp2
   go_ret
   exact ⟨by rw [HST.out];rfl,B.out⟩
def bitL (l:List UInt8) (i:Nat):Bool:=(l.getD (i / 8) 0).toNat.testBit (i % 8)
def turnL (l:List UInt8) (i:Nat):List UInt8:=l.set (i / 8) (l.getD (i / 8) 0 ^^^ UInt8.ofNat (2 ^ (i % 8)))
theorem turnL_length (l:List UInt8) (i:Nat):(turnL l i).length=l.length:=by simp [turnL]
theorem two_pow_lt (i:Nat):2 ^ (i % 8)<256:=by
 have:2 ^ (i % 8)≤2 ^ 7:=Nat.pow_le_pow_right (by omega) (by omega)
 omega
theorem toNat_two_pow (i:Nat):(UInt8.ofNat (2 ^ (i % 8))).toNat=2 ^ (i % 8):=by
 rw [UInt8.toNat_ofNat'];exact Nat.mod_eq_of_lt (two_pow_lt i)
theorem getD_set {α:Type} (l:List α) (i j:Nat) (v d:α) (h:i<l.length):(l.set i v).getD j d=if i=j then v else l.getD j d:=by
 simp only [List.getD,List.getElem?_set]
 split <;> simp_all
theorem bitL_turn (l:List UInt8) (i j:Nat) (h:i / 8<l.length):bitL (turnL l i) j=(bitL l j != decide (i=j)):=by
 unfold bitL turnL
 rw [getD_set _ _ _ _ _ h]
 by_cases e:i / 8=j / 8
 ·rw [if_pos e,UInt8.toNat_xor,Nat.testBit_xor,toNat_two_pow,Nat.testBit_two_pow,← e]
  by_cases e2:i % 8=j % 8
  ·have:i=j:=by omega
   simp [this]
  ·have:i≠j:=by rintro rfl;exact e2 rfl
   simp [e2,this]
 ·have:i≠j:=by rintro rfl;exact e rfl
  rw [if_neg e];simp [this]
def cntL (l:List UInt8) (n:Nat):Nat:=((List.range n).filter (bitL l ·)).length
theorem cntL_succ (l:List UInt8) (n:Nat):cntL l (n+1)=cntL l n+(if bitL l n then 1 else 0):=by
 unfold cntL
 rw [List.range_succ,List.filter_append,List.length_append]
 cases h:bitL l n <;> simp [List.filter_cons,h]
theorem cntL_le (l:List UInt8) (n:Nat):cntL l n≤n:=by
 unfold cntL
 have:=List.length_filter_le (fun i=>bitL l i) (List.range n)
 simpa using this
theorem cntL_turn (l:List UInt8) (i:Nat) (h:i / 8<l.length):∀ n,cntL (turnL l i) n=if i<n then (if bitL l i then cntL l n-1 else cntL l n+1) else cntL l n:=by
 intro n
 induction n with
 | zero=>simp [cntL]
 | succ n ih=>
  rw [cntL_succ,cntL_succ,ih,bitL_turn l i n h]
  by_cases e:i=n
  ·subst e
   have h0:¬ i<i:=Nat.lt_irrefl _
   have h1:i<i+1:=Nat.lt_succ_self _
   simp only [h0,h1,if_false,if_true,decide_true]
   cases bitL l i <;> simp
  ·have h2:(i=n)=False:=by simpa using e
   by_cases hl:i<n
   ·have h1:i<n+1:=by omega
    simp only [hl,h1,if_true,h2,decide_false,Bool.bne_false]
    cases hb:bitL l i with
    | false=>
     simp only [Bool.false_eq_true,if_false]
     omega
    | true=>
     have h1:1≤cntL l n:=by
      unfold cntL
      have:i ∈ (List.range n).filter (bitL l ·):=by simp [hl,hb]
      exact List.length_pos_of_mem this
     simp only [if_true]
     omega
   ·have h1:¬ i<n+1:=by omega
    simp only [hl,h1,if_false,h2,decide_false,Bool.bne_false]
theorem cntL_clear (l:List UInt8) (n m:Nat) (hnm:n≤m) (h:∀ i,n≤i→i<m→bitL l i=false):cntL l m=cntL l n:=by
 induction m with
 | zero => obtain rfl:n=0:=by omega
           rfl
 | succ m ih=>
  by_cases e:n=m+1
  ·rw [e]
  ·rw [cntL_succ,h m (by omega) (by omega),ih (by omega) (fun i a b=>h i a (by omega))];simp
def pop8 (b:UInt8):Nat:=((List.range 8).filter fun i=>b.toNat.testBit i).length
theorem cntL_bytes:∀ l:List UInt8,cntL l (8 * l.length)=(l.map pop8).sum
 | []=>rfl
 | b::l=>by
  have ih:=cntL_bytes l
  simp only [List.map_cons,List.sum_cons,← ih,List.length_cons]
  rw [show 8 * (l.length+1)=8+8 * l.length by omega]
  have e1:(List.range 8).filter (bitL (b::l) ·)=(List.range 8).filter fun i=>b.toNat.testBit i:=List.filter_congr fun i hi=>by
   simp only [List.mem_range] at hi
   unfold bitL
   rw [show i / 8=0 by omega,show i % 8=i by omega];rfl
  have e2:(List.range (8 * l.length)).filter ((bitL (b::l) ·)∘(8+·))=(List.range (8 * l.length)).filter (bitL l ·):=List.filter_congr fun i hi=>by
   simp only [Function.comp]
   unfold bitL
   rw [show (8+i) / 8=i / 8+1 by omega,show (8+i) % 8=i % 8 by omega];rfl
  unfold cntL pop8
  rw [List.range_add,List.filter_append,List.length_append,List.filter_map,List.length_map,e1,e2]
def planE (b m:Int):Int:=if b<16∨223<b∨m<4∨64<m then 2 else if b≤3+(m+1) / 2 then 10 else 0
def dataN (m:Nat):Nat:=3+(m+1) / 2
theorem planE_ok {b m:Int} (h:planE b m=0):16≤b∧b≤223∧4≤m∧m≤64∧3+(m+1) / 2<b:=by
 unfold planE at h
 split at h
 ·simp at h
 ·split at h
  ·simp at h
  ·omega
theorem planE_iff {b m:Nat}:planE b m=0↔16≤b∧b≤223∧4≤m∧m≤64∧dataN m<b:=by
 constructor
 ·intro h
  have:=planE_ok h
  unfold dataN
  omega
 ·intro h
  unfold dataN at h
  unfold planE
  rw [if_neg (by omega),if_neg (by omega)]
def zerosB (n:Nat):ByteArray:=⟨(List.replicate n 0).toArray⟩
theorem zerosB_size (n:Nat):(zerosB n).size=n:=by simp [zerosB,ByteArray.size]
theorem zerosB_list (n:Nat):(zerosB n).data.toList=List.replicate n 0:=by simp [zerosB]
def headL (b m:Nat):List UInt8:=[104,105,98,49]++putL b 2++putL m 2++List.replicate 120 0
def headB (b m:Nat):ByteArray:=⟨(headL b m).toArray⟩
theorem headL_length (b m:Nat):(headL b m).length=128:=by simp [headL,putL_length]
theorem headB_size (b m:Nat):(headB b m).size=128:=by
 show (headL b m).toArray.size=128
 rw [List.size_toArray,headL_length]
def blkL (xs:List ByteArray) (i:Nat):List UInt8:=(xs.getD i ⟨#[]⟩).data.toList
def bitsOk (l:List UInt8) (d b:Nat):Bool:=(List.range 1024).all fun i=>(!decide (i<d) || bitL l i) && (!decide (b≤i) || !bitL l i)
def inoN (xs:List ByteArray):Nat:=leN (((blkL xs 0).drop 6).take 2)
def IsVol (xs:List ByteArray) (m:Nat):Prop:=(∀ s ∈ xs,s.size=128)∧planE xs.length m=0∧xs.getD 0 ⟨#[]⟩=headB xs.length m∧bitsOk (blkL xs 2) (dataN m) xs.length=true
instance (xs:List ByteArray) (m:Nat):Decidable (IsVol xs m):=by unfold IsVol;infer_instance
def ofR (xs:List ByteArray):Option Nat:=if IsVol xs (inoN xs) then some (inoN xs) else none
theorem bitsOk_iff {l:List UInt8} {d b:Nat}:bitsOk l d b=true↔∀ i,i<1024→(i<d→bitL l i=true)∧(b≤i→bitL l i=false):=by
 unfold bitsOk
 rw [List.all_eq_true]
 simp only [List.mem_range,Bool.and_eq_true,Bool.or_eq_true,Bool.not_eq_true',decide_eq_false_iff_not]
 constructor
 ·intro h i hi
  obtain ⟨a,c⟩:=h i hi
  exact ⟨fun x=>a.resolve_left (by simpa using x),fun x=>c.resolve_left (by simpa using x)⟩
 ·intro h i hi
  obtain ⟨a,c⟩:=h i hi
  refine ⟨?_,?_⟩
  ·by_cases x:i<d
   ·exact .inr (a x)
   ·exact .inl x
  ·by_cases x:b≤i
   ·exact .inr (c x)
   ·exact .inl x
theorem head_ino (b m:Nat) (hm:m≤64):leN (((headL b m).drop 6).take 2)=m:=by
 have e:((headL b m).drop 6).take 2=putL m 2:=by
  have h1:(putL b 2).length=2:=putL_length b 2
  have h2:(putL m 2).length=2:=putL_length m 2
  unfold headL
  rw [List.append_assoc,List.append_assoc,← List.append_assoc,List.drop_left' (by simp [h1]),List.take_left' h2]
 rw [e,leN_putL]
 omega
theorem head_blocks (b m:Nat) (hb:b≤65535):leN (((headL b m).drop 4).take 2)=b:=by
 have e:((headL b m).drop 4).take 2=putL b 2:=by
  have h1:(putL b 2).length=2:=putL_length b 2
  unfold headL
  rw [List.append_assoc,List.append_assoc,List.drop_left' (by simp),List.take_left' h1]
 rw [e,leN_putL]
 omega
theorem ofR_some {xs:List ByteArray} {m:Nat}:ofR xs=some m↔IsVol xs m:=by
 unfold ofR
 constructor
 ·intro h
  split at h
  ·rename_i hv
   injection h with h
   rw [← h];exact hv
  ·cases h
 ·intro h
  have hp:=planE_iff.1 h.2.1
  have e:inoN xs=m:=by
   unfold inoN blkL
   rw [h.2.2.1]
   show leN (((headL xs.length m).toArray.toList.drop 6).take 2)=m
   rw [List.toList_toArray,head_ino _ _ hp.2.2.2.1]
  rw [e,if_pos h]
theorem ofR_none {xs:List ByteArray}:ofR xs=none↔¬ IsVol xs (inoN xs):=by
 unfold ofR
 split <;> simp_all
theorem blkL_set (xs:List ByteArray) (i j:Nat) (s:ByteArray) (h:i<xs.length):blkL (xs.set i s) j=if i=j then s.data.toList else blkL xs j:=by
 unfold blkL
 rw [getD_set _ _ _ _ _ h]
 split <;> rfl
theorem getD_set' (xs:List ByteArray) (i j:Nat) (s:ByteArray) (h:i<xs.length):(xs.set i s).getD j ⟨#[]⟩=if i=j then s else xs.getD j ⟨#[]⟩:=getD_set _ _ _ _ _ h
def turnB (s:ByteArray) (i:Nat):ByteArray:=⟨(turnL s.data.toList i).toArray⟩
theorem turnB_list (s:ByteArray) (i:Nat):(turnB s i).data.toList=turnL s.data.toList i:=by simp [turnB]
theorem turnB_size (s:ByteArray) (i:Nat):(turnB s i).size=s.size:=by
 show (turnL s.data.toList i).toArray.size=s.data.size
 rw [List.size_toArray,turnL_length];simp
def turnV (xs:List ByteArray) (i:Nat):List ByteArray:=xs.set 2 (turnB (xs.getD 2 ⟨#[]⟩) i)
theorem turnV_length (xs:List ByteArray) (i:Nat):(turnV xs i).length=xs.length:=by simp [turnV]
theorem turnV_map {xs:List ByteArray} {i:Nat} (h:2<xs.length):blkL (turnV xs i) 2=turnL (blkL xs 2) i:=by
 unfold turnV
 rw [blkL_set _ _ _ _ h,if_pos rfl,turnB_list];rfl
theorem IsVol.len {xs:List ByteArray} {m:Nat} (h:IsVol xs m):16≤xs.length∧xs.length≤223∧4≤m∧m≤64∧dataN m<xs.length∧5≤dataN m∧dataN m≤35:=by
 have:=planE_iff.1 h.2.1
 have e:dataN m=3+(m+1) / 2:=rfl
 omega
theorem IsVol.size {xs:List ByteArray} {m:Nat} (h:IsVol xs m) (i:Nat) (hi:i<xs.length):(xs.getD i ⟨#[]⟩).size=128:=by
 apply h.1
 simp only [List.getD,List.getElem?_eq_getElem hi,Option.getD_some]
 exact List.getElem_mem hi
theorem IsVol.blk {xs:List ByteArray} {m:Nat} (h:IsVol xs m) (i:Nat) (hi:i<xs.length):(blkL xs i).length=128:=by
 have:=h.size i hi
 unfold blkL
 rw [Array.length_toList];exact this
theorem IsVol.set {xs:List ByteArray} {m i:Nat} {s:ByteArray} (h:IsVol xs m) (h3:3≤i) (hs:s.size=128):IsVol (xs.set i s) m:=by
 have hl:=h.len
 by_cases hi:i<xs.length
 ·refine ⟨fun t ht=>?_,by rw [List.length_set];exact h.2.1,?_,?_⟩
  ·rcases List.mem_or_eq_of_mem_set ht with a | a
   ·exact h.1 t a
   ·rw [a];exact hs
  ·rw [List.length_set,getD_set' _ _ _ _ hi,if_neg (by omega)];exact h.2.2.1
  ·rw [List.length_set,blkL_set _ _ _ _ hi,if_neg (by omega)];exact h.2.2.2
 ·rw [List.set_eq_of_length_le (by omega)];exact h
theorem IsVol.turn {xs:List ByteArray} {m i:Nat} (h:IsVol xs m) (h1:dataN m≤i) (h2:i<xs.length):IsVol (turnV xs i) m:=by
 have hl:=h.len
 have hb:=h.blk 2 (by omega)
 refine ⟨fun t ht=>?_,by rw [turnV_length];exact h.2.1,?_,?_⟩
 ·rcases List.mem_or_eq_of_mem_set ht with a | a
  ·exact h.1 t a
  ·rw [a,turnB_size];exact h.size 2 (by omega)
 ·rw [turnV_length]
  unfold turnV
  rw [getD_set' _ _ _ _ (by omega),if_neg (by omega)];exact h.2.2.1
 ·rw [turnV_length,turnV_map (by omega),bitsOk_iff]
  have:=bitsOk_iff.1 h.2.2.2
  intro j hj
  rw [bitL_turn _ _ _ (by omega)]
  obtain ⟨a,b⟩:=this j hj
  refine ⟨fun x=>?_,fun x=>?_⟩
  ·rw [a x];simp;omega
  ·rw [b x];simp;omega
def freeR (xs:List ByteArray) (m:Nat):Option Nat:=(List.range' (dataN m) (xs.length-dataN m)).find? fun i=>!bitL (blkL xs 2) i
theorem freeR_some {xs:List ByteArray} {m i:Nat} (hm:dataN m≤xs.length):freeR xs m=some i↔dataN m≤i∧i<xs.length∧bitL (blkL xs 2) i=false∧∀ j,dataN m≤j→j<i→bitL (blkL xs 2) j=true:=by
 unfold freeR
 rw [List.find?_range'_eq_some]
 simp only [Bool.not_eq_true',List.mem_range'_1,Bool.not_eq_false']
 constructor
 ·rintro ⟨a,⟨b,c⟩,d⟩
  exact ⟨b,by omega,a,d⟩
 ·rintro ⟨b,c,a,d⟩
  exact ⟨a,⟨b,by omega⟩,d⟩
theorem freeR_none {xs:List ByteArray} {m:Nat} (hm:dataN m≤xs.length):freeR xs m=none↔∀ j,dataN m≤j→j<xs.length→bitL (blkL xs 2) j=true:=by
 unfold freeR
 rw [List.find?_eq_none]
 simp only [Bool.not_eq_true',List.mem_range'_1,Bool.not_eq_false']
 constructor
 ·intro h j a b;simpa using h j ⟨a,by omega⟩
 ·intro h j ⟨a,b⟩;simpa using h j a (by omega)
def takeV (xs:List ByteArray) (i:Nat):List ByteArray:=(turnV xs i).set i (zerosB 128)
theorem IsVol.take {xs:List ByteArray} {m i:Nat} (h:IsVol xs m) (h1:dataN m≤i) (h2:i<xs.length):IsVol (takeV xs i) m:=
 (h.turn h1 h2).set (by have:=h.len;omega) (zerosB_size 128)
theorem takeV_length (xs:List ByteArray) (i:Nat):(takeV xs i).length=xs.length:=by simp [takeV,turnV_length]
theorem takeV_map {xs:List ByteArray} {i:Nat} (h:2<i) (h2:i<xs.length):blkL (takeV xs i) 2=turnL (blkL xs 2) i:=by
 unfold takeV
 rw [blkL_set _ _ _ _ (by rw [turnV_length];exact h2),if_neg (by omega),turnV_map (by omega)]
def roomR (xs:List ByteArray):Nat:=match ofR xs with
 | some _=>xs.length-cntL (blkL xs 2) xs.length
 | none=>0
def usedR (xs:List ByteArray) (i:Int):Bool:=match ofR xs with
 | some _=>decide (0≤i∧i<xs.length) && bitL (blkL xs 2) i.toNat
 | none=>false
def orL (l:List UInt8) (i:Nat):List UInt8:=l.set (i / 8) (l.getD (i / 8) 0 ||| UInt8.ofNat (2 ^ (i % 8)))
theorem orL_length (l:List UInt8) (i:Nat):(orL l i).length=l.length:=by simp [orL]
theorem bitL_or (l:List UInt8) (i j:Nat) (h:i / 8<l.length):bitL (orL l i) j=(bitL l j || decide (i=j)):=by
 unfold bitL orL
 rw [getD_set _ _ _ _ _ h]
 by_cases e:i / 8=j / 8
 ·rw [if_pos e,UInt8.toNat_or,Nat.testBit_or,toNat_two_pow,Nat.testBit_two_pow,← e]
  by_cases e2:i % 8=j % 8
  ·have:i=j:=by omega
   simp [this]
  ·have:i≠j:=by rintro rfl;exact e2 rfl
   simp [e2,this]
 ·have:i≠j:=by rintro rfl;exact e rfl
  rw [if_neg e];simp [this]
def mapN (d:Nat):List UInt8:=(List.range d).foldl orL (List.replicate 128 0)
theorem mapN_succ (d:Nat):mapN (d+1)=orL (mapN d) d:=by unfold mapN;rw [List.range_succ,List.foldl_append];rfl
theorem mapN_length (d:Nat):(mapN d).length=128:=by
 induction d with
 | zero=>simp [mapN]
 | succ d ih=>rw [mapN_succ,orL_length,ih]
theorem bitL_zero (n i:Nat):bitL (List.replicate n 0) i=false:=by
 unfold bitL
 have:(List.replicate n (0:UInt8)).getD (i / 8) 0=0:=by
  simp only [List.getD,List.getElem?_replicate]
  split <;> rfl
 rw [this];simp
theorem bitL_map (d i:Nat) (h:d≤1024):bitL (mapN d) i=decide (i<d):=by
 induction d with
 | zero=>simpa [mapN] using bitL_zero 128 i
 | succ d ih=>
  rw [mapN_succ,bitL_or _ _ _ (by rw [mapN_length];omega),ih (by omega)]
  by_cases e:d=i
  ·subst e;simp
  ·by_cases h2:i<d
   ·simp [h2,show i<d+1 by omega]
   ·simp [h2,e,show ¬ i<d+1 by omega]
def mapB (d:Nat):ByteArray:=⟨(mapN d).toArray⟩
theorem mapB_list (d:Nat):(mapB d).data.toList=mapN d:=by simp [mapB]
theorem mapB_size (d:Nat):(mapB d).size=128:=by
 show (mapN d).toArray.size=128
 rw [List.size_toArray,mapN_length]
def fmtV (b m:Nat):List ByteArray:=((List.replicate b (zerosB 128)).set 0 (headB b m)).set 2 (mapB (dataN m))
theorem fmtV_length (b m:Nat):(fmtV b m).length=b:=by simp [fmtV]
theorem fmtV_get (b m i:Nat) (hb:16≤b):(fmtV b m).getD i ⟨#[]⟩=if i=2 then mapB (dataN m) else if i=0 then headB b m else if i<b then zerosB 128 else ⟨#[]⟩:=by
 unfold fmtV
 rw [getD_set _ _ _ _ _ (by simp;omega),getD_set _ _ _ _ _ (by simp;omega)]
 by_cases h2:i=2
 ·simp [h2]
 ·by_cases h0:i=0
  ·simp [h0]
  ·rw [if_neg (by omega),if_neg (by omega),if_neg h2,if_neg h0]
   simp only [List.getD,List.getElem?_replicate]
   split <;> rfl
theorem fmtV_vol {b m:Nat} (h:planE b m=0):IsVol (fmtV b m) m:=by
 have hp:=planE_iff.1 h
 have hd:dataN m=3+(m+1) / 2:=rfl
 refine ⟨fun s hs=>?_,by rw [fmtV_length];exact h,?_,?_⟩
 ·rcases List.mem_or_eq_of_mem_set hs with hs | hs
  ·rcases List.mem_or_eq_of_mem_set hs with hs | hs
   ·rw [List.eq_of_mem_replicate hs,zerosB_size]
   ·rw [hs,headB_size]
  ·rw [hs,mapB_size]
 ·rw [fmtV_length,fmtV_get _ _ _ (by omega),if_neg (by omega),if_pos rfl]
 ·rw [fmtV_length,bitsOk_iff]
  unfold blkL
  rw [fmtV_get _ _ _ (by omega),if_pos rfl,mapB_list]
  intro i hi
  rw [bitL_map _ _ (by omega)]
  constructor
  ·intro h;simpa using h
  ·intro h;simp;omega
theorem cnt_map (d n:Nat) (hd:d≤1024) (h:d≤n):cntL (mapN d) n=d:=by
 rw [cntL_clear _ d n h (fun i a b=>by rw [bitL_map _ _ hd];simp;omega)]
 unfold cntL
 rw [List.filter_eq_self.2 (fun i hi=>by rw [bitL_map _ _ hd];simpa using hi),List.length_range]
theorem fmtV_room {b m:Nat} (h:planE b m=0):roomR (fmtV b m)=b-dataN m:=by
 have hp:=planE_iff.1 h
 have hd:dataN m=3+(m+1) / 2:=rfl
 unfold roomR
 rw [ofR_some.2 (fmtV_vol h)]
 dsimp only
 rw [fmtV_length]
 unfold blkL
 rw [fmtV_get _ _ _ (by omega),if_pos rfl,mapB_list,cnt_map _ _ (by omega) (by omega)]
theorem room_vol {xs:List ByteArray} {m:Nat} (hv:IsVol xs m):roomR xs=xs.length-cntL (blkL xs 2) xs.length:=by
 unfold roomR;rw [ofR_some.2 hv]
theorem cntL_pos {l:List UInt8} {i n:Nat} (h:bitL l i=true) (hi:i<n):1≤cntL l n:=by
 unfold cntL
 exact List.length_pos_of_mem (List.mem_filter.2 ⟨List.mem_range.2 hi,h⟩)
theorem cntL_all {l:List UInt8} {n:Nat} (h:∀ i,i<n→bitL l i=true):cntL l n=n:=by
 unfold cntL
 rw [List.filter_eq_self.2 (fun i hi=>h i (List.mem_range.1 hi)),List.length_range]
theorem room_take {xs:List ByteArray} {m i:Nat} (hv:IsVol xs m) (hf:freeR xs m=some i):roomR (takeV xs i)+1=roomR xs:=by
 have hl:=hv.len
 obtain ⟨h1,h2,h3,h4⟩:=(freeR_some (by omega)).1 hf
 have hb:i / 8<(blkL xs 2).length:=by rw [hv.blk 2 (by omega)];omega
 have hc:=cntL_turn (blkL xs 2) i hb xs.length
 rw [if_pos h2,h3,if_neg (by simp)] at hc
 have hle:=cntL_le (turnL (blkL xs 2) i) xs.length
 rw [room_vol hv,room_vol (hv.take h1 h2),takeV_length,takeV_map (by omega) h2,hc]
 omega
theorem room_give {xs:List ByteArray} {m i:Nat} (hv:IsVol xs m) (h1:dataN m≤i) (h2:i<xs.length) (h3:bitL (blkL xs 2) i=true):roomR (turnV xs i)=roomR xs+1:=by
 have hl:=hv.len
 have hb:i / 8<(blkL xs 2).length:=by rw [hv.blk 2 (by omega)];omega
 have hc:=cntL_turn (blkL xs 2) i hb xs.length
 rw [if_pos h2,h3,if_pos rfl] at hc
 have hle:=cntL_le (blkL xs 2) xs.length
 have hp:=cntL_pos h3 h2
 rw [room_vol hv,room_vol (hv.turn h1 h2),turnV_length,turnV_map (by omega),hc]
 omega
theorem room_full {xs:List ByteArray} {m:Nat} (hv:IsVol xs m) (hf:freeR xs m=none):roomR xs=0:=by
 have hl:=hv.len
 have h:=(freeR_none (by omega)).1 hf
 rw [room_vol hv,cntL_all (fun i hi=>?_)]
 ·omega
 ·by_cases hd:dataN m≤i
  ·exact h i hd hi
  ·exact ((bitsOk_iff.1 hv.2.2.2) i (by omega)).1 (by omega)
theorem bit_take {xs:List ByteArray} {m i j:Nat} (hv:IsVol xs m) (hf:freeR xs m=some i):bitL (blkL (takeV xs i) 2) j=(bitL (blkL xs 2) j || decide (j=i)):=by
 have hl:=hv.len
 obtain ⟨h1,h2,h3,h4⟩:=(freeR_some (by omega)).1 hf
 have hb:i / 8<(blkL xs 2).length:=by rw [hv.blk 2 (by omega)];omega
 rw [takeV_map (by omega) h2,bitL_turn _ _ _ hb]
 by_cases e:j=i
 ·subst e;simp [h3]
 ·have e2:¬ i=j:=fun h=>e h.symm
  simp [e,e2]
end Go.Proofs.YtdldlendppkknaaGreatDoor
