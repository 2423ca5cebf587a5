/-
  Contracts and plain laws: AttC, Shelf2, Search, DirD.
-/
import Derived.Shelf.Small.Strs
import Derived.Shelf.Small.Wraps
import Derived.Shelf.Strings.LastIndex
import Derived.Shelf.Strings.Prefix
import Derived.Test.YtdldlendppkknaaGreatDoorProg
import Derived.Shelf.SlSorted.Search
import Derived.Test.YtdldlendppkknaaGreatDoorPackF19
namespace Go.Proofs.YtdldlendppkknaaGreatDoor
open Go.RowKit
set_option linter.unusedVariables false
set_option linter.unusedSimpArgs false
set_option maxRecDepth 100000
theorem and_127 : ∀ c : Nat, c < 128 → bits BinOp.and IntKind.u8 (c : Int) 127 = (c : Int) := by decide
theorem or_0 : ∀ c : Nat, c < 128 → bits BinOp.or IntKind.i64 0 (c : Int) = (c : Int) := by decide
theorem wrap_128 (c : Nat) (h : c < 128) : wrap64 (c : Int) = (c : Int) := by
 unfold wrap64
 omega
set_option maxHeartbeats 400000 in
theorem length_any (s : ByteArray) (c : Nat) (w : World) (hs : s.size ≤ 140737488355328) (h0 : 0 < s.size) (hc : ∀ h : 0 < s.size, (s[0].toNat) = c) (h7 : c < 128) :
  Calls Tryz.prog 218 #[.string s] w fun e w' => e = .returned (.tuple #[.int .i64 c, .int .i64 1, .int .i64 0]) ∧ w' = w := by
 have o1 := hc h0
 have i0 : (0 : Int) < (s.size : Int) := by omega
 have n1 : ¬ (128 : Int) ≤ (c : Int) := by omega
 have a1 := and_127 c h7
 have a2 := or_0 c h7
 have a3 := wrap_128 c h7
 clear hc
 rcases Nat.eq_zero_or_pos c with rfl | hp
 ·have z1 : bits BinOp.and IntKind.u8 0 127 = 0 := by decide
  have z2 : bits BinOp.or IntKind.i64 0 0 = 0 := by decide
  have z3 : wrap64 0 = 0 := wrap_128 0 (by decide)
  go_enter Tryz.func218, Tryz.ntmps218
  go_wp2
  go_loopw [5, 10] (fun n i wr => n = .int .i64 0 ∧ i = .int .i64 0 ∧ w = wr) (fun _ _ _ => 0)
  case atStart => exact ⟨rfl, rfl, rfl⟩
  case round =>
   obtain ⟨rfl, rfl, rfl⟩ := hrel
   go_wp2
   go_ret3
   exact ⟨rfl, rfl⟩
 ·have nz : ((c : Int) == 0) = false := by simpa using (by omega : ¬ (c : Int) = 0)
  clear hp
  go_enter Tryz.func218, Tryz.ntmps218
  go_wp2
  go_loopw [5, 10] (fun n i wr => n = .int .i64 0 ∧ i = .int .i64 0 ∧ w = wr) (fun _ _ _ => 0)
  case atStart => exact ⟨rfl, rfl, rfl⟩
  case round =>
   obtain ⟨rfl, rfl, rfl⟩ := hrel
   go_wp2
   go_ret3
   exact ⟨rfl, rfl⟩
theorem head_byte {s : ByteArray} {c : UInt8} {r : List UInt8} (h : s.data.toList = c :: r) (h0 : 0 < s.size) : s[0].toNat = c.toNat := by
 have : s.data.toList[0]? = some c := by rw [h]; rfl
 have hd : s.data.size = s.size := rfl
 rw [Array.getElem?_toList, Array.getElem?_eq_getElem (by omega)] at this
 have e : s.data[0] = c := Option.some.inj this
 show (s.data[0]).toNat = c.toNat
 rw [e]
set_option maxHeartbeats 4000000 in
theorem texts_any (s : ByteArray) (ts : List ByteArray) (w : World) (hs : s.data.toList = rowT ts) (hl : ts.length ≤ 1000) (hn : ∀ t ∈ ts, t.size ≤ 127) :
  Calls Tryz.prog 184 #[.string s] w (RowCode ts 0 w) := by
 obtain ⟨i0, q1, q2, q3, q4⟩ := info_parts str_info
 have I0 := Lib.hid (And.intro q1 (And.intro q2 (And.intro q3 q4)))
 have HL : Hid (ts.length ≤ 1000) := hl
 have HN := Lib.hid hn
 have HB0 : Hid (s.data.toList = rowT (ts.drop 0)) := hs
 have O0 : Hid (w.ownsRow w.heap.size 9 1 (.slice none 0 0) 0 ((ts.take 0).map .string)) := World.ownsRow_nil _ _ _ _
 have HBL := Lib.hid (Below.refl w.heap.size w)
 clear q1 q2 q3 q4 hs hn hl
 go_enter Tryz.func184, Tryz.ntmps184
 go_wp2
 go_loopw [0, 4] (fun t v wr => ∃ (k : Nat) (s : ByteArray), k ≤ ts.length ∧ t = .string s ∧ Hid (s.data.toList = rowT (ts.drop k)) ∧ Hid (wr.ownsRow w.heap.size 9 1 v k ((ts.take k).map .string)) ∧ Hid (Below w.heap.size w wr)) (fun t _ _ => strSz t)
 case atStart => exact ⟨0, s, Nat.zero_le _, rfl, HB0, O0, HBL⟩
 case round =>
  clear HB0 O0 HBL
  obtain ⟨k, s, hk, rfl, HS, O, B⟩ := hrel
  by_cases hlt : k < ts.length
  ·have hdr : ts.drop k = ts[k] :: ts.drop (k + 1) := List.drop_eq_getElem_cons hlt
   have h1 := HN.out _ (List.getElem_mem hlt)
   have hs := HS.out
   have htk : (ts.take k).map Value.string ++ [Value.string ts[k]] = (ts.take (k + 1)).map .string := by rw [List.take_succ_eq_append_getElem hlt, List.map_append]; rfl
   rw [hdr, rowT_cons] at hs
   generalize ts[k] = x at *
   have hsz : s.size = 1 + x.size + (rowT (ts.drop (k + 1))).length := by
    rw [← dsize, hs, List.length_cons, List.length_append, dsize]; omega
   have hc : ∀ h : 0 < s.size, s[0].toNat = x.size := fun h => by rw [head_byte hs h]; simp; omega
   have hrt : (rowT (ts.drop (k + 1))).length ≤ 128000 := by
    have := rowT_le (ts.drop (k + 1)) fun t ht => HN.out t (List.mem_of_mem_drop ht)
    rw [List.length_drop] at this
    have := HL.out
    omega
   have CL := Lib.hid (fun w => length_any s x.size w (by omega) (by omega) hc (by omega))
   have HTK := Lib.hid htk
   obtain ⟨s1, hs1⟩ : ∃ s1, s.extract 1 s.size = s1 := ⟨_, rfl⟩
   have d1 : s1.data.toList = x.data.toList ++ rowT (ts.drop (k + 1)) := by
    rw [← hs1, ext_list, hs]
    rw [List.drop_succ_cons, List.drop_zero, List.take_of_length_le (by rw [List.length_append, dsize]; omega)]
   have z1 : s1.size = x.size + (rowT (ts.drop (k + 1))).length := by rw [← dsize, d1, List.length_append, dsize]
   have e0 : s1.extract 0 x.size = x := by
    apply WideShapes.bytes_inj
    rw [ext_list, d1, List.drop_zero, Nat.sub_zero, List.take_left' (dsize x)]
   obtain ⟨s2, hs2⟩ : ∃ s2, s1.extract x.size s1.size = s2 := ⟨_, rfl⟩
   have d2 : Hid (s2.data.toList = rowT (ts.drop (k + 1))) := by
    show _ = _
    rw [← hs2, ext_list, d1, List.drop_left' (dsize x), List.take_of_length_le (by omega)]
   have HZ : Hid (s2.size < s.size) := by show _ < _; rw [← dsize s2, d2.out]; omega
   have i1 : (0 : Int) < (s.size : Int) := by omega
   have i2 : (1 : Int) ≤ (s.size : Int) := by omega
   have i3 : ¬ (s1.size : Int) < (x.size : Int) := by omega
   have i4 : (x.size : Int) ≤ (s1.size : Int) := by omega
   have HM7 : Hid (k + 1 ≤ maxLen) := by show _ ≤ _; have := HL.out; unfold maxLen; omega
   have HY7 : Hid ((k + 1) * 16 ≤ 140737488355328) := by show _ ≤ _; have := HL.out; omega
   have O7 : Hid ((wr.alloc (.cells #[.string x] 9)).ownsRow w.heap.size 9 1 _ k ((ts.take k).map .string)) := World.ownsRow.alloc O.out _
   have B7 := Lib.hid (B.out.alloc B.out.size (.cells #[.string x] 9))
   have HC7 : Hid (∀ j u, [Value.string x][j]? = some u → (wr.alloc (.cells #[.string x] 9)).cell? ((⟨wr.heap.size, 0, none⟩ : Addr).add j) = some u) := fun j u hu => by
    have hB := Blk.new wr 9 #[.string x]
    rw [add_zero_addr, Nat.zero_add]
    exact hB.cell j (by simpa using hu)
   have H17 : Hid (∀ u ∈ [Value.string x], u.oneCell' = true) := fun u hu => by
    rcases List.mem_cons.1 hu with rfl | hu
    ·rfl
    ·cases hu
   clear hs hsz hc hrt htk d1 h1 hdr z1
   go_wp2_with fail
   refine (CL.out _).mono ?_
   rintro e' w2 ⟨rfl, rfl⟩
   clear CL
   go_wp2_with (at_builtin; refine wpList_append_own _ rfl (.tmp 27) (.tmp 31) 24 rfl w.heap.size 9 i0 (.string ⟨#[]⟩) 1 16 Tryz.underlying24 I0.out.1 I0.out.2.1 I0.out.2.2.1 I0.out.2.2.2 rfl (by decide) _ k ((ts.take k).map .string) rfl O7.out ⟨w2.heap.size, 0, none⟩ 1 1 [.string x] rfl rfl HC7.out H17.out HM7.out HY7.out B7.out.size ?_; intro v9 w9 own hg hv; have O9 : Hid (w9.ownsRow w.heap.size 9 1 v9 (k + 1) ((ts.take (k + 1)).map .string)) := HTK.out ▸ own; have B9 := Lib.hid (B7.out.grown hg B7.out.size (fun j e => (O7.out.lt j e).1)); clear own hg hv)
   go_roundw
   case rel => exact ⟨k + 1, _, by omega, rfl, d2, O9, B9⟩
   case measure => exact HZ.out
  ·obtain rfl : k = ts.length := by omega
   have hz : s.size = 0 := by rw [← dsize, HS.out, List.drop_length]; rfl
   have i1 : ¬ (0 : Int) < (s.size : Int) := by omega
   have HT : Hid (ts.take ts.length = ts) := List.take_length
   rw [HT.out] at O
   go_wp2
   go_ret2
   exact ⟨⟨_, rfl, O.out⟩, B.out⟩
end Go.Proofs.YtdldlendppkknaaGreatDoor
namespace Go.Proofs
open Go.Shelf
def Tryz.lays106_ren : Go.Shelf.Ren := ⟨fun | 106 => 112 | 213 => 180 | 265 => 216 | n => n, fun | 9 => 9 | 3 => 3 | n => n, fun | n => n⟩
theorem Tryz.lays106 : Go.Proofs.Lays.n106 Tryz.prog Tryz.lays106_ren := {
 mixed := by kernel_rfl
 f106 := Tryz.func112.trans (congrArg some (by kernel_rfl))
 f213 := Tryz.func180.trans (congrArg some (by kernel_rfl))
 f265 := Tryz.func216.trans (congrArg some (by kernel_rfl))
 t3 := Tryz.underlying3
 a3 := Tryz.isAgg3
 z3 := Tryz.sizeOf3
 v3 := Tryz.zeroValue3
 t9 := Tryz.underlying9
 a9 := Tryz.isAgg9
 z9 := Tryz.sizeOf9
 v9 := Tryz.zeroValue9 }
open Go.RowKit in
theorem Tryz.strings_Compare (a b : ByteArray) (w : World) :
  Calls Tryz.prog 112 #[.string a, .string b] w fun e w' => e = .returned (.int .i64 (Lib.compareBytes a.data.toList b.data.toList)) ∧ w' = w := Any.strings_Compare Tryz.lays106 a b w
def Tryz.lays137_ren : Go.Shelf.Ren := ⟨fun | 137 => 97 | 217 => 166 | 266 => 201 | n => n, fun | 9 => 9 | 5 => 5 | 3 => 3 | n => n, fun | n => n⟩
theorem Tryz.lays137 : Go.Proofs.Lays.n137 Tryz.prog Tryz.lays137_ren := {
 mixed := by kernel_rfl
 f137 := Tryz.func97.trans (congrArg some (by kernel_rfl))
 f217 := Tryz.func166.trans (congrArg some (by kernel_rfl))
 f266 := Tryz.func201.trans (congrArg some (by kernel_rfl))
 t3 := Tryz.underlying3
 a3 := Tryz.isAgg3
 z3 := Tryz.sizeOf3
 v3 := Tryz.zeroValue3
 t5 := Tryz.underlying5
 a5 := Tryz.isAgg5
 z5 := Tryz.sizeOf5
 v5 := Tryz.zeroValue5
 t9 := Tryz.underlying9
 a9 := Tryz.isAgg9
 z9 := Tryz.sizeOf9
 v9 := Tryz.zeroValue9 }
open Go.RowKit in
theorem Tryz.strings_IndexByte (s : ByteArray) (c : Int) (w : World) :
  Calls Tryz.prog 97 #[.string s, .int .u8 c] w fun e w' => e = .returned (.int .i64 (Lib.indexByte s.data.toList c.toNat.toUInt8)) ∧ w' = w := Any.strings_IndexByte Tryz.lays137 s c w
def Tryz.lays149_ren : Go.Shelf.Ren := ⟨fun | 149 => 124 | 222 => 186 | n => n, fun | 9 => 9 | 5 => 5 | 3 => 3 | 4 => 4 | n => n, fun | n => n⟩
theorem Tryz.lays149 : Go.Proofs.Lays.n149 Tryz.prog Tryz.lays149_ren := {
 mixed := by kernel_rfl
 f149 := Tryz.func124.trans (congrArg some (by kernel_rfl))
 f222 := Tryz.func186.trans (congrArg some (by kernel_rfl))
 t3 := Tryz.underlying3
 a3 := Tryz.isAgg3
 z3 := Tryz.sizeOf3
 v3 := Tryz.zeroValue3
 t4 := Tryz.underlying4
 a4 := Tryz.isAgg4
 z4 := Tryz.sizeOf4
 v4 := Tryz.zeroValue4
 t5 := Tryz.underlying5
 a5 := Tryz.isAgg5
 z5 := Tryz.sizeOf5
 v5 := Tryz.zeroValue5
 t9 := Tryz.underlying9
 a9 := Tryz.isAgg9
 z9 := Tryz.sizeOf9
 v9 := Tryz.zeroValue9 }
open Go.RowKit Go.Lib in
theorem Tryz.strings_LastIndexByte (s : ByteArray) (c : Int) (hs : s.size < 4611686018427387904) (w : World) :
  Calls Tryz.prog 124 #[.string s, .int .u8 c] w fun e w' => e = .returned (.int .i64 (Lib.lastIndexByte s c)) ∧ w' = w := Any.strings_LastIndexByte Tryz.lays149 s c hs w
def Tryz.lays99_ren : Go.Shelf.Ren := ⟨fun | 99 => 89 | 206 => 163 | n => n, fun | 9 => 9 | 4 => 4 | 3 => 3 | n => n, fun | n => n⟩
theorem Tryz.lays99 : Go.Proofs.Lays.n99 Tryz.prog Tryz.lays99_ren := {
 mixed := by kernel_rfl
 f99 := Tryz.func89.trans (congrArg some (by kernel_rfl))
 f206 := Tryz.func163.trans (congrArg some (by kernel_rfl))
 t3 := Tryz.underlying3
 a3 := Tryz.isAgg3
 z3 := Tryz.sizeOf3
 v3 := Tryz.zeroValue3
 t4 := Tryz.underlying4
 a4 := Tryz.isAgg4
 z4 := Tryz.sizeOf4
 v4 := Tryz.zeroValue4
 t9 := Tryz.underlying9
 a9 := Tryz.isAgg9
 z9 := Tryz.sizeOf9
 v9 := Tryz.zeroValue9 }
open Go.RowKit Go.Lib in
theorem Tryz.strings_HasPrefix (s p : ByteArray) (w : World) :
  Calls Tryz.prog 89 #[.string s, .string p] w fun e w' => e = .returned (.bool (Lib.hasPrefix s.data.toList p.data.toList)) ∧ w' = w := Any.strings_HasPrefix Tryz.lays99 s p w
def Tryz.lays101_ren : Go.Shelf.Ren := ⟨fun | 101 => 96 | 208 => 165 | 206 => 163 | n => n, fun | 9 => 9 | 4 => 4 | 3 => 3 | n => n, fun | n => n⟩
theorem Tryz.lays101 : Go.Proofs.Lays.n101 Tryz.prog Tryz.lays101_ren := {
 mixed := by kernel_rfl
 f101 := Tryz.func96.trans (congrArg some (by kernel_rfl))
 f206 := Tryz.func163.trans (congrArg some (by kernel_rfl))
 f208 := Tryz.func165.trans (congrArg some (by kernel_rfl))
 t3 := Tryz.underlying3
 a3 := Tryz.isAgg3
 z3 := Tryz.sizeOf3
 v3 := Tryz.zeroValue3
 t4 := Tryz.underlying4
 a4 := Tryz.isAgg4
 z4 := Tryz.sizeOf4
 v4 := Tryz.zeroValue4
 t9 := Tryz.underlying9
 a9 := Tryz.isAgg9
 z9 := Tryz.sizeOf9
 v9 := Tryz.zeroValue9 }
open Go.RowKit Go.Lib in
theorem Tryz.strings_TrimPrefix (s p : ByteArray) (w : World) :
  Calls Tryz.prog 96 #[.string s, .string p] w fun e w' => e = .returned (.string ⟨(Lib.trimPrefix s.data.toList p.data.toList).toArray⟩) ∧ w' = w := Any.strings_TrimPrefix Tryz.lays101 s p w
open Go.Shelf Go.RowKit Go.Lib Go.Sort
def Tryz.laysSearch_ren : Go.Shelf.Ren := ⟨fun | 16 => 167 | n => n, fun | 3 => 3 | 4 => 4 | 35 => 118 | 38 => 82 | n => n, fun | n => n⟩
theorem Tryz.laysSearch : SlLaysO.n16 Tryz.prog Tryz.laysSearch_ren := {
 mixed := by kernel_rfl
 f16 := Tryz.func167.trans (congrArg some (by kernel_rfl))
 t3 := Tryz.underlying3
 a3 := Tryz.isAgg3
 z3 := Tryz.sizeOf3
 v3 := Tryz.zeroValue3
 t4 := Tryz.underlying4
 a4 := Tryz.isAgg4
 z4 := Tryz.sizeOf4
 v4 := Tryz.zeroValue4
 t35 := Tryz.underlying118
 a35 := Tryz.isAgg118
 z35 := Tryz.sizeOf118
 v35 := Tryz.zeroValue118
 t38 := Tryz.underlying82
 a38 := Tryz.isAgg82
 z38 := Tryz.sizeOf82
 v38 := Tryz.zeroValue82 }
theorem Tryz.sort_Search (g : FuncId) (cb : Array Value) (n : Nat) (p : Nat → Bool) (w : World) (eg : ∀ args w, (callFunc g args).run Tryz.prog w = .ok (.enter g args) w) (hsz : n < 4611686018427387904)
  (hf : ∀ (m : Nat) (os : Array Obj) (i : Nat), i < n → Calls Tryz.prog g (#[.int .i64 i] ++ cb) (grow (w.drewN m) os) fun e w' => e = .returned (.bool (p i)) ∧ ∃ q os', w' = grow ((grow (w.drewN m) os).drewN q) os')
  (hmono : ∀ a b, a ≤ b → b < n → p a = true → p b = true) :
  Calls Tryz.prog 167 #[.int .i64 n, .func (.func g) #[] cb] w fun e w' => e = .returned (.int .i64 ((List.range n).countP (fun i => !p i) : Nat)) ∧ ∃ q os, w' = grow (w.drewN q) os := Any.sort_Search Tryz.laysSearch g cb n p w eg hsz hf hmono
end Go.Proofs
namespace Go.Proofs.YtdldlendppkknaaGreatDoor
open Go.RowKit Go.Sort Go.Shelf
set_option linter.unusedVariables false
set_option linter.unusedSimpArgs false
set_option maxRecDepth 100000
theorem below_grow {B : Nat} {w : World} (q : Nat) (os : Array Obj) (h : B ≤ w.heap.size) : Below B w (grow (w.drewN q) os) :=
 ⟨rfl, rfl, rfl, by simp [grow, World.drewN], fun k hk => by
  have : k < (w.drewN q).heap.size := Nat.lt_of_lt_of_le hk h
  exact heap_grow_old _ _ this⟩
theorem count_at (l : List EntV) (nm : ByteArray) : ((List.range l.length).countP fun i => ltB (l.getD i ⟨⟨#[]⟩, 0⟩).name nm) = atE l nm := by
 have e : l = (List.range l.length).map fun i => l.getD i ⟨⟨#[]⟩, 0⟩ := by
  apply List.ext_getElem?
  intro i
  by_cases hi : i < l.length
  ·rw [List.getElem?_map, List.getElem?_range hi, Option.map_some, List.getD_eq_getElem?_getD, List.getElem?_eq_getElem hi]; rfl
  ·rw [List.getElem?_eq_none (by omega), List.getElem?_eq_none (by simp; omega)]
 unfold atE
 conv => rhs; rw [e, List.countP_map]
 rfl
set_option maxHeartbeats 2000000 in
theorem closure_any (ba bx b o n c : Nat) (s nm : ByteArray) (i : Nat) (w : World) (hi : i < n) (h1 : w.cell? ⟨ba, 0, none⟩ = some (.slice (some ⟨b, o, none⟩) n c)) (h2 : w.cell? ⟨bx, 0, none⟩ = some (.string nm)) (h3 : w.cell? ⟨b, o + i * 2, none⟩ = some (.string s)) :
  Calls Tryz.prog 168 (#[.int .i64 i] ++ #[.pointer (some ⟨ba, 0, none⟩), .pointer (some ⟨bx, 0, none⟩)]) w fun e w' => e = .returned (.bool (!ltB s nm)) ∧ ∃ q, w' = w.drewN q := by
 have i1 : (i : Int) < (n : Int) := by omega
 have i2 : (0 : Int) ≤ (i : Int) := by omega
 cases hl : ltB s nm with
 | false =>
  have l1 : Op.bytesLess s.toList nm.toList = false := (less_walk s nm).trans hl
  clear hl
  go_enter Tryz.func168, Tryz.ntmps168
  go_wp2
  go_quiet (fail)
  go_wp2
  go_ret
  exact ⟨ret_bool (by simp), _, rfl⟩
 | true =>
  have l1 : Op.bytesLess s.toList nm.toList = true := (less_walk s nm).trans hl
  clear hl
  go_enter Tryz.func168, Tryz.ntmps168
  go_wp2
  go_quiet (fail)
  go_wp2
  go_ret
  exact ⟨ret_bool (by simp), _, rfl⟩
set_option maxHeartbeats 4000000 in
theorem search_any (A : Option Addr) (c : Nat) (l : List EntV) (nm : ByteArray) (w : World) (hl : l.length ≤ 280) (hr : l.Pairwise fun x y => ltB x.name y.name = true) (h : EntsAt w w.heap.size A l) :
  Calls Tryz.prog 98 #[.slice A l.length c, .string nm] w fun e w' => e = .returned (.tuple #[.int .i64 (atE l nm : Nat), .bool (hasE l nm)]) ∧ Below w.heap.size w w' := by
 obtain ⟨W0, hW0⟩ : ∃ W0, W0 = (w.alloc (.cells #[.slice A l.length c] 123)).alloc (.cells #[.string nm] 9) := ⟨_, rfl⟩
 have hsize : W0.heap.size = w.heap.size + 1 + 1 := by rw [hW0]; simp
 have hB0 : Below w.heap.size w W0 := by rw [hW0]; exact ((Below.refl _ w).alloc (Nat.le_refl _) _).alloc (by simp) _
 have ca : W0.cell? ⟨w.heap.size, 0, none⟩ = some (.slice A l.length c) := by
  rw [hW0]
  have b := Blk.new w 123 #[.slice A l.length c]
  exact (b.below ((Below.refl _ _).alloc (Nat.le_refl _) _) b.lt).cell 0 rfl
 have cx : W0.cell? ⟨w.heap.size + 1, 0, none⟩ = some (.string nm) := by
  rw [hW0]
  have := (Blk.new (w.alloc (.cells #[.slice A l.length c] 123)) 9 #[.string nm]).cell 0 rfl
  rwa [World.size_alloc] at this
 have eg : ∀ args w, (callFunc 168 args).run Tryz.prog w = .ok (.enter 168 args) w := enters_of Tryz.func168 (by kernel_rfl) rfl
 have hcell : ∀ i (hi : i < l.length), ∃ b o, A = some ⟨b, o, none⟩ ∧ b < w.heap.size ∧ w.cell? ⟨b, o + i * 2, none⟩ = some (.string (l.getD i ⟨⟨#[]⟩, 0⟩).name) := fun i hi => by
  obtain ⟨b, o, hA, hb, hc⟩ := h.get hi
  refine ⟨b, o, hA, hb, ?_⟩
  rw [List.getD_eq_getElem?_getD, List.getElem?_eq_getElem hi]
  exact hc 0 _ rfl
 have hS := Tryz.sort_Search 168 #[.pointer (some ⟨w.heap.size, 0, none⟩), .pointer (some ⟨w.heap.size + 1, 0, none⟩)] l.length (fun i => !ltB (l.getD i ⟨⟨#[]⟩, 0⟩).name nm) W0 eg (by omega)
  (fun m os i hi => by
   obtain ⟨b, o, rfl, hb, hc⟩ := hcell i hi
   have hg := below_grow m os (Nat.le_refl W0.heap.size)
   exact (closure_any w.heap.size (w.heap.size + 1) b o l.length c _ nm i _ hi (hg.cell (by simp [hsize]; omega) |>.trans ca) (hg.cell (by simp [hsize]) |>.trans cx) ((hB0.trans (hg.mono hB0.size)).cell hb |>.trans hc)).mono fun _ _ ⟨he, q, hq⟩ => ⟨he, q, #[], by rw [hq, grow_empty]⟩)
  (fun a b hab hb h => by
   have ha : a < l.length := by omega
   have ga : l.getD a ⟨⟨#[]⟩, 0⟩ = l[a] := by rw [List.getD_eq_getElem?_getD, List.getElem?_eq_getElem ha]; rfl
   have gb : l.getD b ⟨⟨#[]⟩, 0⟩ = l[b] := by rw [List.getD_eq_getElem?_getD, List.getElem?_eq_getElem hb]; rfl
   rw [ga, at_below hr a ha] at h
   rw [gb, at_below hr b hb]
   simp at h ⊢
   omega)
 simp only [Bool.not_not] at hS
 rw [count_at] at hS
 have hat := atE_le l nm
 have hhas := at_has (nm := nm) hr
 generalize hk : atE l nm = k at *
 have HS := Lib.hid hS
 have HW := Lib.hid hW0
 have HB0 := Lib.hid hB0
 have HB1 := Lib.hid (fun q os => hB0.trans ((below_grow q os (Nat.le_refl W0.heap.size)).mono hB0.size))
 have CA := Lib.hid (fun q os => ((below_grow q os (Nat.le_refl W0.heap.size)).cell (p := ⟨w.heap.size, 0, none⟩) (by simp [hsize]; omega)).trans ca)
 have CX := Lib.hid (fun q os => ((below_grow q os (Nat.le_refl W0.heap.size)).cell (p := ⟨w.heap.size + 1, 0, none⟩) (by simp [hsize])).trans cx)
 by_cases hlt : k < l.length
 ·obtain ⟨b, o, rfl, hb, hc⟩ := hcell k hlt
  have gk : l.getD k ⟨⟨#[]⟩, 0⟩ = l[k] := by rw [List.getD_eq_getElem?_getD, List.getElem?_eq_getElem hlt]; rfl
  rw [gk] at hc
  have HC := Lib.hid (fun q os => ((HB1.out q os).cell (p := ⟨b, o + k * 2, none⟩) hb).trans hc)
  have HH : Hid (hasE l nm = decide (l[k].name = nm)) := by
   show _ = _
   rw [Bool.eq_iff_iff, hhas, decide_eq_true_iff]
   exact ⟨fun ⟨_, h⟩ => h, fun h => ⟨hlt, h⟩⟩
  generalize hasE l nm = r at *
  generalize l[k].name = s at *
  have k1 : (k : Int) < (l.length : Int) := by omega
  have k2 : (0 : Int) ≤ (k : Int) := by omega
  have k3 : decide ((k : Int) < (l.length : Int)) = true := decide_eq_true k1
  have k4 : decide (k < l.length) = true := decide_eq_true hlt
  clear hS hW0 hB0 ca cx hcell hk hhas hc gk h hr eg hsize
  by_cases he : s = nm
  ·have e1 : (s.toList == nm.toList) = true := by rw [he]; simp
   have e2 : r = true := by rw [HH.out, he]; simp
   subst e2
   clear HH he
   go_enter Tryz.func98, Tryz.ntmps98
   go_wp2_with (go_at_call 167; rw [← HW.out]; refine HS.out.mono ?_; rintro e w' ⟨rfl, q, os, rfl⟩; have B1 := Lib.hid (HB1.out q os); have ca := CA.out q os; have cx := CX.out q os; have hc := HC.out q os; generalize grow _ _ = w1 at *)
   go_quiet (fail)
   go_wp2
   go_ret2
   exact ⟨rfl, below_drewN B1.out _⟩
  ·have e1 : (s.toList == nm.toList) = false := by simpa using str_ne he
   have e2 : r = false := by rw [HH.out]; simp [he]
   subst e2
   clear HH he
   go_enter Tryz.func98, Tryz.ntmps98
   go_wp2_with (go_at_call 167; rw [← HW.out]; refine HS.out.mono ?_; rintro e w' ⟨rfl, q, os, rfl⟩; have B1 := Lib.hid (HB1.out q os); have ca := CA.out q os; have cx := CX.out q os; have hc := HC.out q os; generalize grow _ _ = w1 at *)
   go_quiet (fail)
   go_wp2
   go_ret2
   exact ⟨rfl, below_drewN B1.out _⟩
 ·have HH : hasE l nm = false := by
   cases h : hasE l nm with
   | false => rfl
   | true => exact absurd (hhas.1 h).1 hlt
  rw [HH]
  have k1 : ¬ (k : Int) < (l.length : Int) := by omega
  have k3 : decide ((k : Int) < (l.length : Int)) = false := decide_eq_false k1
  have k4 : decide (k < l.length) = false := decide_eq_false hlt
  clear hS hW0 hB0 ca cx hcell hk hhas h hr eg hsize HH
  go_enter Tryz.func98, Tryz.ntmps98
  go_wp2_with (go_at_call 167; rw [← HW.out]; refine HS.out.mono ?_; rintro e w' ⟨rfl, q, os, rfl⟩; have B1 := Lib.hid (HB1.out q os); have ca := CA.out q os; have cx := CX.out q os; generalize grow _ _ = w1 at *)
  go_quiet (fail)
  go_wp2
  go_ret2
  exact ⟨rfl, below_drewN B1.out _⟩
end Go.Proofs.YtdldlendppkknaaGreatDoor
