/-
  Contracts and plain laws: AttE, AttF, AttG, AttI, AttK.
-/
import Derived.Shelf.SlicesQ.IndexFunc
import Derived.Shelf.SlSortCmp.WholeK
import Derived.Test.YtdldlendppkknaaGreatDoorPackR19
import Derived.Test.YtdldlendppkknaaGreatDoorPackR24
namespace Go.Proofs.YtdldlendppkknaaGreatDoor
open Go.RowKit
set_option linter.unusedVariables false
set_option linter.unusedSimpArgs false
set_option maxRecDepth 100000
theorem att_at {w : World} {B : Nat} {A : Option Addr} {l : List AttV} (h : RowAt w B A (attC l)) {k : Nat} (hk : k < l.length) :
  ∃ b o, A = some ⟨b, o, none⟩ ∧ b < B ∧ w.rangeAt b (o + k * 2) [.string l[k].name, .string l[k].value] := by
 obtain ⟨b, o, hA, hb, hc⟩ := RowAt.at_ h (by rw [attC_len]; omega)
 have g := attC_get hk
 refine ⟨b, o, hA, hb, fun j u hu => ?_⟩
 match j, hu with
 | 0, hu => cases hu; rw [Nat.add_zero]; exact hc _ _ g.1
 | 1, hu => cases hu; rw [Nat.add_assoc]; exact hc _ _ g.2
 | j + 2, hu => simp at hu
theorem texts_snoc {l : List AttV} {k : Nat} (hk : k < l.length) : (textsA (l.take k)).map Value.string ++ [.string l[k].name, .string l[k].value] = (textsA (l.take (k + 1))).map Value.string := by
 rw [List.take_succ_eq_append_getElem hk, textsA_app, List.map_append]
 rfl
set_option maxHeartbeats 4000000 in
theorem row_any (A : Option Addr) (c : Nat) (l : List AttV) (w : World) (hl : l.length ≤ 400) (hn : ∀ t ∈ textsA l, t.size ≤ 127) (h : RowAt w w.heap.size A (attC l)) :
  Calls Tryz.prog 113 #[.slice A l.length c] w fun e w' => e = .returned (.string ⟨(rowA l).toArray⟩) ∧ Below w.heap.size w w' := by
 obtain ⟨i0, q1, q2, q3, q4⟩ := info_parts str_info
 have I0 := Lib.hid (And.intro q1 (And.intro q2 (And.intro q3 q4)))
 have HL : Hid (l.length ≤ 400) := hl
 have R0 := Lib.hid h
 have CR := Lib.hid (fun A c w h => nrow_any A c (textsA l) w (by rw [textsA_len]; omega) hn h)
 have O0 : Hid (w.ownsRow w.heap.size 9 1 (.slice none 0 0) (2 * 0) ((textsA (l.take 0)).map .string)) := World.ownsRow_nil _ _ _ _
 have HBL := Lib.hid (Below.refl w.heap.size w)
 clear q1 q2 q3 q4 hn hl h
 go_enter Tryz.func113, Tryz.ntmps113
 go_wp2
 go_loopw [3, 5, 8] (fun v _ i wr => ∃ k : Nat, k ≤ l.length ∧ i = .int .i64 (k : Int) ∧ Hid (wr.ownsRow w.heap.size 9 1 v (2 * k) ((textsA (l.take k)).map .string)) ∧ Hid (Below w.heap.size w wr)) (fun _ _ i _ => l.length - (intOf i).toNat)
 case atStart => exact ⟨0, Nat.zero_le _, rfl, O0, HBL⟩
 case round =>
  clear O0 HBL
  obtain ⟨k, hk, rfl, O, B⟩ := hrel
  by_cases hlt : k < l.length
  ·obtain ⟨bA, oA, rfl, hbA, hrA⟩ := att_at (RowAt.below R0.out B.out) hlt
   have HTK := Lib.hid (texts_snoc hlt)
   generalize l[k] = x at *
   obtain ⟨nm, vl⟩ := x
   dsimp only at HTK
   have HR : Hid (wr.rangeAt bA (oA + k * 2) [.string nm, .string vl]) := hrA
   have O5 : Hid (((wr.alloc (.cells #[.string nm, .string vl] 104)).alloc (.cells #[.string nm, .string vl] 9)).ownsRow w.heap.size 9 1 _ (2 * k) ((textsA (l.take k)).map .string)) := World.ownsRow.alloc (World.ownsRow.alloc O.out _) _
   have B4 := Lib.hid (B.out.alloc B.out.size (.cells #[.string nm, .string vl] 104))
   have B5 := Lib.hid (B4.out.alloc B4.out.size (.cells #[.string nm, .string vl] 9))
   have HC7 : Hid (∀ j u, [Value.string nm, Value.string vl][j]? = some u → ((wr.alloc (.cells #[.string nm, .string vl] 104)).alloc (.cells #[.string nm, .string vl] 9)).cell? ((⟨wr.heap.size + 1, 0, none⟩ : Addr).add j) = some u) := fun j u hu => by
    have hB := Blk.new (wr.alloc (.cells #[.string nm, .string vl] 104)) 9 #[.string nm, .string vl]
    simp only [World.size_alloc] at hB
    rw [add_zero_addr, Nat.zero_add]
    exact hB.cell j (by simpa using hu)
   have H17 : Hid (∀ u ∈ [Value.string nm, Value.string vl], u.oneCell' = true) := fun u hu => by
    rcases List.mem_cons.1 hu with rfl | hu
    ·rfl
    ·rcases List.mem_cons.1 hu with rfl | hu
     ·rfl
     ·cases hu
   have HM7 : Hid (2 * k + 2 ≤ maxLen) := by show _ ≤ _; have := HL.out; unfold maxLen; omega
   have HY7 : Hid ((2 * k + 2) * 16 ≤ 140737488355328) := by show _ ≤ _; have := HL.out; omega
   have i2 : (k : Int) < (l.length : Int) := by omega
   have i3 : (0 : Int) ≤ (k : Int) := by omega
   have hll := HL.out
   have ws : IntKind.i64.wrap ((k : Int) + 1) = (k : Int) + 1 := IntWalk.i64_in _ (by omega)
   clear hrA
   go_wp2_with (first
    | (refine wpList_load_mid rfl 104 (.tmp 10) rfl bA (oA + k * 2) rfl _ _ HR.out Tryz.underlying104 rfl (by kernel_rfl) ?_; go_frame)
    | (at_builtin; refine wpList_append_own _ rfl (.tmp 12) (.tmp 17) 24 rfl w.heap.size 9 i0 (.string ⟨#[]⟩) 1 16 Tryz.underlying24 I0.out.1 I0.out.2.1 I0.out.2.2.1 I0.out.2.2.2 rfl (by decide) _ (2 * k) ((textsA (l.take k)).map .string) rfl O5.out ⟨wr.heap.size + 1, 0, none⟩ 2 2 [.string nm, .string vl] rfl rfl HC7.out H17.out HM7.out HY7.out B5.out.size ?_; intro v9 w9 own hg hv; have O9 : Hid (w9.ownsRow w.heap.size 9 1 v9 (2 * (k + 1)) ((textsA (l.take (k + 1))).map .string)) := HTK.out ▸ own; have B9 := Lib.hid (B5.out.grown hg B5.out.size (fun j e => (O5.out.lt j e).1)); clear own hg hv))
   go_roundw
   case rel => exact ⟨k + 1, by omega, by go_num, O9, B9⟩
   case measure => simp [intOf]; omega
  ·obtain rfl : k = l.length := by omega
   have HT : Hid (l.take l.length = l) := List.take_length
   rw [HT.out] at O
   have O1 : OwnRow (textsA l) w u3 wr := by unfold OwnRow; rw [textsA_len]; exact O.out
   obtain ⟨A1, c1, rfl, hrow⟩ := OwnRow.read O1
   have R1 := Lib.hid hrow
   clear hrow O1
   go_wp2_with fail
   refine (CR.out _ _ _ R1.out).mono ?_
   rintro e w7 ⟨rfl, hb7⟩
   have B7 := Lib.hid (B.out.trans (hb7.mono B.out.size))
   clear hb7
   go_wp2
   go_ret
   exact ⟨rfl, B7.out⟩
set_option maxHeartbeats 4000000 in
theorem changed_any (A : Option Addr) (c : Nat) (xs : List ByteArray) (i : Nat) (r : ByteArray) (w : World) (hx : xs.length ≤ 1000000) (hi : i < xs.length) (hr : r.size ≤ 126) (h : RowAt w w.heap.size A (xs.map .string)) :
  Calls Tryz.prog 114 #[.slice A xs.length c, .int .i64 (i : Int), .string r] w fun e w' => (∃ v, e = .returned v ∧ OwnRow (xs.set i ⟨(blockL r.data.toList).toArray⟩) w v w') ∧ Below w.heap.size w w' := by
 obtain ⟨j0, q1, q2, q3, q4⟩ := info_parts str_info
 have J0 := Lib.hid (And.intro q1 (And.intro q2 (And.intro q3 q4)))
 obtain ⟨bb, oo, rfl, hbb, hcc⟩ := RowAt.at_ h (by rw [List.length_map]; omega)
 have HC : Hid (∀ j u, (xs.map Value.string)[j]? = some u → w.cell? ((⟨bb, oo, none⟩ : Addr).add j) = some u) := fun j u hu => by
  have : (⟨bb, oo, none⟩ : Addr).add j = ⟨bb, oo + j, none⟩ := by unfold Addr.add; split <;> simp_all
  rw [this]; exact hcc j u hu
 have H1 := Lib.hid (str_cells xs)
 have HM : Hid (0 + xs.length ≤ maxLen) := by show _ ≤ _; unfold maxLen; omega
 have HY : Hid ((0 + xs.length) * 16 ≤ 140737488355328) := by show _ ≤ _; omega
 have CB := Lib.hid (fun w => ablock_any r w hr)
 have i1 : (i : Int) < (xs.length : Int) := by omega
 have i2 : (0 : Int) ≤ (i : Int) := by omega
 have HI : Hid (i < xs.length) := hi
 have hzW : w.heap.size ≤ w.heap.size := Nat.le_refl _
 have HZ : Hid (0 < xs.length) := by show _ < _; omega
 generalize (⟨(blockL r.data.toList).toArray⟩ : ByteArray) = s at *
 clear q1 q2 q3 q4 h hcc hbb hr hx
 go_enter Tryz.func114, Tryz.ntmps114
 go_wp2_with (at_builtin; refine wpList_append_own _ rfl (.const (.slice none 0 0)) (.tmp 8) 24 rfl w.heap.size 9 j0 (.string ⟨#[]⟩) 1 16 Tryz.underlying24 J0.out.1 J0.out.2.1 J0.out.2.2.1 J0.out.2.2.2 rfl (by decide) _ 0 [] rfl (World.ownsRow_nil _ _ _ _) ⟨bb, oo, none⟩ xs.length c (xs.map .string) rfl (by rw [List.length_map, Nat.mul_one]) HC.out H1.out HM.out HY.out hzW ?_; intro v9 W2 own hg hv9; rw [Nat.zero_add, List.nil_append] at own; have hg0 : World.grownBy _ W2 none := hg; obtain ⟨gr, cr, rfl⟩ := Go.Joins.ownsRow_form own HZ.out; have OR := Lib.hid own; have B4 := Lib.hid ((Below.refl w.heap.size w).grown hg0 (Nat.le_refl _) (by intro k hk; cases hk)); have hgr : w.heap.size ≤ gr := (own.lt gr rfl).1; clear hg hg0 hv9 own)
 refine (CB.out _).mono ?_
 rintro e' W3 ⟨rfl, hb3⟩
 have OR3 := Lib.hid (own_below OR.out hb3)
 have B5 := Lib.hid (B4.out.trans (hb3.mono B4.out.size))
 have d1 : W3.cell? ⟨gr, i, none⟩ = some (.string (xs[i]'HI.out)) := by
  rw [OR3.out.cellAt i (by have := HI.out; omega)]
  rw [List.getElem?_map, List.getElem?_eq_getElem HI.out]; rfl
 have d2 : W3.frozen? ⟨gr, i, none⟩ = false := OR3.out.frozenAt i
 obtain ⟨o1, o2⟩ := World.ownsRow.stored OR3.out i (.string s)
 have OR4 := Lib.hid o1
 have B6 := Lib.hid (B5.out.setCell hgr (p := ⟨gr, i, none⟩) (.string s))
 clear o1 o2 hb3 CB HC H1
 go_wp2
 go_ret
 refine ⟨⟨_, rfl, ?_⟩, B6.out⟩
 unfold OwnRow
 rw [List.length_set, List.map_set]
 exact OR4.out
theorem results_ctt {P : Program} {f : Func} {ts : Array Value} {s k k2 g : Nat} {ty t : TypeId} {cs : Array Value} {d : TypeDesc} {w : World} {v v2 : Value} (hf : f.results = #[.cell s ty, .tmp k, .tmp k2]) (hs : ts.getD s undef = .pointer (some ⟨g, 0, none⟩)) (hk : ts.getD k undef = v) (hk2 : ts.getD k2 undef = v2) (hg : Blk w g t cs)
  (hu : P.underlying ty = some d) (hd : (match d with | .struct _ | .array _ _ => true | _ => false) = true) (hi : (P.info? ty).map (·.size) = some cs.size) :
  (results f ts).run P w = .ok (.tuple #[.agg cs, v, v2]) w := by
 have hr := run_loadVar_row (P := P) w g t ty cs (0, 0) d hg hu hd hi
 simp only [Array.getD_eq_getD_getElem?] at hs hk hk2
 unfold results
 rw [hf]
 simp [hs, hk, hk2, asAddr, hr, Sem.run_bind, Sem.run_pure, Result.andThen_ok]
def AttAt (xs : List ByteArray) (n : Int) (l : List AttV) : Prop :=
 ((getR xs n).getD 11 0 = 0 ∧ l = []) ∨ ((getR xs n).getD 11 0 ≠ 0 ∧ l ≠ [] ∧ ValidA l ∧ (∃ m, ofR xs = some m ∧ dataN m ≤ (getR xs n).getD 11 0) ∧ usedR xs ((getR xs n).getD 11 0 : Nat) = true ∧ (getR xs n).getD 11 0 < xs.length ∧ blkL xs ((getR xs n).getD 11 0) = blockL (rowA l))
def opE (xs : List ByteArray) (n : Int) : Int := if inoE xs n ≠ 0 then inoE xs n else if (getR xs n).getD 0 0 = 0 then 9 else 0
def OpPost (xs : List ByteArray) (n : Int) (l : List AttV) (w : World) (e : Ending) (w' : World) : Prop :=
 (∃ v, e = .returned (.tuple #[.agg (inoC (if opE xs n = 0 then getR xs n else List.replicate 12 0)), v, .int .i64 (opE xs n)]) ∧ OwnAtts (if opE xs n = 0 then l else []) w v w') ∧ Below w.heap.size w w'
theorem atts_nil (w w' : World) : OwnAtts [] w (.slice none 0 0) w' := World.ownsRow_nil _ _ _ _
set_option maxHeartbeats 16000000 in
theorem aopen_any (A : Option Addr) (c : Nat) (xs : List ByteArray) (n : Int) (l : List AttV) (w : World) (hx : xs.length ≤ 1000000) (hA : inoE xs n = 0 → (getR xs n).getD 0 0 ≠ 0 → AttAt xs n l) (h : RowAt w w.heap.size A (xs.map .string)) :
  Calls Tryz.prog 49 #[.slice A xs.length c, .int .i64 n] w (OpPost xs n l w) := by
 have HR := Lib.hid h
 obtain ⟨W0, hW0⟩ : ∃ W0, w.alloc (.cells #[.int .i64 0, .int .i64 0, .int .i64 0, .int .i64 0, .int .i64 0, .int .i64 0, .int .i64 0, .int .i64 0, .int .i64 0, .int .i64 0, .int .i64 0, .int .i64 0] 39) = W0 := ⟨_, rfl⟩
 have B0 : Hid (Below w.heap.size w W0) := hW0 ▸ (Below.refl _ _).alloc (Nat.le_refl _) _
 have G0 : Hid (Blk W0 w.heap.size 39 #[.int .i64 0, .int .i64 0, .int .i64 0, .int .i64 0, .int .i64 0, .int .i64 0, .int .i64 0, .int .i64 0, .int .i64 0, .int .i64 0, .int .i64 0, .int .i64 0]) := hW0 ▸ Blk.new w _ _
 have HW0 := Lib.hid hW0
 have CG := Lib.hid (get_ino A c xs n W0 hx (row_keep h B0.out B0.out.size))
 have CO := Lib.hid (fun w h => of_any A c xs w hx h)
 have CU := Lib.hid (fun i w h => used_any A c xs i w hx h)
 have HP : Hid (∀ e w', OpPost xs n l w e w' ↔ (∃ v, e = .returned (.tuple #[.agg (inoC (if opE xs n = 0 then getR xs n else List.replicate 12 0)), v, .int .i64 (opE xs n)]) ∧ OwnAtts (if opE xs n = 0 then l else []) w v w') ∧ Below w.heap.size w w') := fun _ _ => Iff.rfl
 have HO : Hid (OpPost xs n l w = fun e w' => (∃ v, e = .returned (.tuple #[.agg (inoC (if opE xs n = 0 then getR xs n else List.replicate 12 0)), v, .int .i64 (opE xs n)]) ∧ OwnAtts (if opE xs n = 0 then l else []) w v w') ∧ Below w.heap.size w w') := rfl
 have HE : Hid (opE xs n = if inoE xs n ≠ 0 then inoE xs n else if (getR xs n).getD 0 0 = 0 then 9 else 0) := by show _ = _; rfl
 generalize OpPost xs n l w = PP at *
 generalize opE xs n = oe at *
 unfold AttAt at hA
 obtain ⟨a0, a1, a2, a3, a4, a5, a6, a7, a8, a9, a10, a11, hg⟩ := len12 (getR_len xs n)
 rw [hg] at CG HE hA HO
 unfold inoC at CG HO
 simp only [List.map_cons, List.map_nil, List.getD_cons_zero, List.getD_cons_succ] at CG HE hA
 generalize inoE xs n = e2 at *
 have HA := Lib.hid hA
 clear hA hg h hW0 HP
 go_enter Tryz.func49, Tryz.ntmps49
 go_wp2_with fail
 rw [HW0.out]
 refine CG.out.mono ?_
 rintro e' w1 ⟨rfl, hb1⟩
 have B1 := Lib.hid (B0.out.trans (hb1.mono B0.out.size))
 have G1 := Lib.hid (G0.out.below hb1 G0.out.lt)
 have GX := Lib.hid (G1.out.alloc (.cells #[.int .i64 a0, .int .i64 a1, .int .i64 a2, .int .i64 a3, .int .i64 a4, .int .i64 a5, .int .i64 a6, .int .i64 a7, .int .i64 a8, .int .i64 a9, .int .i64 a10, .int .i64 a11] 39))
 have BX := Lib.hid (B1.out.alloc B1.out.size (.cells #[.int .i64 a0, .int .i64 a1, .int .i64 a2, .int .i64 a3, .int .i64 a4, .int .i64 a5, .int .i64 a6, .int .i64 a7, .int .i64 a8, .int .i64 a9, .int .i64 a10, .int .i64 a11] 39))
 have XX := Lib.hid (Blk.new w1 39 #[.int .i64 a0, .int .i64 a1, .int .i64 a2, .int .i64 a3, .int .i64 a4, .int .i64 a5, .int .i64 a6, .int .i64 a7, .int .i64 a8, .int .i64 a9, .int .i64 a10, .int .i64 a11])
 have F1 : Hid (w.heap.size < w1.heap.size) := G1.out.lt
 clear hb1 CG G0 B0 HW0
 by_cases h2 : e2 = 0
 case neg =>
  have h2' : (e2 != 0) = true := by simpa using h2
  have hoe : oe = e2 := by rw [HE.out, if_pos h2]
  rw [hoe, if_neg h2, if_neg h2] at HO
  go_wp2_with (refine store_blk 39 (.tmp 4) (.tmp 20) w.heap.size 39 #[.int .i64 0, .int .i64 0, .int .i64 0, .int .i64 0, .int .i64 0, .int .i64 0, .int .i64 0, .int .i64 0, .int .i64 0, .int .i64 0, .int .i64 0, .int .i64 0] #[.int .i64 0, .int .i64 0, .int .i64 0, .int .i64 0, .int .i64 0, .int .i64 0, .int .i64 0, .int .i64 0, .int .i64 0, .int .i64 0, .int .i64 0, .int .i64 0] rfl rfl rfl rfl GX.out rfl (by kernel_rfl) (by simp [Value.oneCell']) ?_; intro wz hrz hgz)
  refine bodyPost_ret (results_ctt rfl rfl rfl rfl hrz Tryz.underlying39 rfl (by kernel_rfl)) rfl ?_
  rw [HO.out]
  exact ⟨⟨_, rfl, atts_nil _ _⟩, BX.out.grown hgz BX.out.size (fun k e => by cases e; exact Nat.le_refl _)⟩
 subst h2
 rw [if_neg (by simp)] at HE
 by_cases h0 : a0 = 0
 case pos =>
  have h0' : ((a0 : Int) == 0) = true := by simpa using (by omega : (a0 : Int) = 0)
  have hoe : oe = 9 := by rw [HE.out, if_pos h0]
  rw [hoe, if_neg (by decide), if_neg (by decide)] at HO
  subst h0
  go_wp2_with (refine store_blk 39 (.tmp 4) (.tmp 25) w.heap.size 39 #[.int .i64 0, .int .i64 0, .int .i64 0, .int .i64 0, .int .i64 0, .int .i64 0, .int .i64 0, .int .i64 0, .int .i64 0, .int .i64 0, .int .i64 0, .int .i64 0] #[.int .i64 0, .int .i64 0, .int .i64 0, .int .i64 0, .int .i64 0, .int .i64 0, .int .i64 0, .int .i64 0, .int .i64 0, .int .i64 0, .int .i64 0, .int .i64 0] rfl rfl rfl rfl GX.out rfl (by kernel_rfl) (by simp [Value.oneCell']) ?_; intro wz hrz hgz)
  refine bodyPost_ret (results_ctt rfl rfl rfl rfl hrz Tryz.underlying39 rfl (by kernel_rfl)) rfl ?_
  rw [HO.out]
  exact ⟨⟨_, rfl, atts_nil _ _⟩, BX.out.grown hgz BX.out.size (fun k e => by cases e; exact Nat.le_refl _)⟩
 have h0' : ((a0 : Int) == 0) = false := by simpa using (by omega : ¬ (a0 : Int) = 0)
 have hoe : oe = 0 := by rw [HE.out, if_neg h0]
 rw [hoe, if_pos rfl, if_pos rfl] at HO
 simp only [List.map_cons, List.map_nil] at HO
 have hA := HA.out rfl h0
 clear HA HE hoe
 rcases hA with ⟨hz, hl⟩ | ⟨hz, hne, hva, ⟨m, hm, hdm⟩, hu, hlt, hbk⟩
 ·subst hl
  have h11 : ((a11 : Int) == 0) = true := by simpa using (by omega : (a11 : Int) = 0)
  clear hz
  go_wp2_with (first
   | (refine load_blk 39 (.tmp 7) w1.heap.size 39 #[.int .i64 a0, .int .i64 a1, .int .i64 a2, .int .i64 a3, .int .i64 a4, .int .i64 a5, .int .i64 a6, .int .i64 a7, .int .i64 a8, .int .i64 a9, .int .i64 a10, .int .i64 a11] _ rfl rfl rfl XX.out Tryz.underlying39 rfl (by kernel_rfl) ?_; go_frame)
   | (refine store_blk 39 (.tmp 4) (.tmp 29) w.heap.size 39 #[.int .i64 0, .int .i64 0, .int .i64 0, .int .i64 0, .int .i64 0, .int .i64 0, .int .i64 0, .int .i64 0, .int .i64 0, .int .i64 0, .int .i64 0, .int .i64 0] #[.int .i64 a0, .int .i64 a1, .int .i64 a2, .int .i64 a3, .int .i64 a4, .int .i64 a5, .int .i64 a6, .int .i64 a7, .int .i64 a8, .int .i64 a9, .int .i64 a10, .int .i64 a11] rfl rfl rfl rfl GX.out rfl (by kernel_rfl) (by simp [Value.oneCell']) ?_; intro wz hrz hgz))
  refine bodyPost_ret (results_ctt rfl rfl rfl rfl hrz Tryz.underlying39 rfl (by kernel_rfl)) rfl ?_
  rw [HO.out]
  exact ⟨⟨_, rfl, atts_nil _ _⟩, BX.out.grown hgz BX.out.size (fun k e => by cases e; exact Nat.le_refl _)⟩
 ·have h11 : ((a11 : Int) == 0) = false := by simpa using (by omega : ¬ (a11 : Int) = 0)
  obtain ⟨W3, hW3⟩ : ∃ W3, w1.alloc (.cells #[.int .i64 a0, .int .i64 a1, .int .i64 a2, .int .i64 a3, .int .i64 a4, .int .i64 a5, .int .i64 a6, .int .i64 a7, .int .i64 a8, .int .i64 a9, .int .i64 a10, .int .i64 a11] 39) = W3 := ⟨_, rfl⟩
  rw [hW3] at GX BX XX
  have HW3 := Lib.hid hW3
  clear hW3
  have CO := Lib.hid (CO.out W3 (row_keep HR.out BX.out BX.out.size))
  unfold OfPost ofE at CO
  rw [hm] at CO
  dsimp only at CO
  have CU := Lib.hid (fun w h => CU.out (a11 : Nat) w h)
  rw [hu] at CU
  have i0 : ¬ (a11 : Int) < (dataN m : Nat) := by omega
  have i1 : (a11 : Int) < (xs.length : Int) := by omega
  have i2 : (0 : Int) ≤ (a11 : Int) := by omega
  obtain ⟨s, hs⟩ : ∃ s, xs[a11]'hlt = s := ⟨_, rfl⟩
  have hsb : s.data.toList = blockL (rowA l) := by
   rw [← hbk, ← hs]
   unfold blkL
   rw [getD_eq xs a11 hlt]
  have CA := Lib.hid (fun w => attributes_any s l w hsb hva hne)
  have HS : Hid ((xs.map Value.string)[a11]? = some (.string s)) := by show _ = _; rw [List.getElem?_map, List.getElem?_eq_getElem hlt, hs]; rfl
  have HXL : Hid (0 < xs.length) := by show _ < _; omega
  clear hz hne hva hdm hu hlt hbk hs hsb hm
  go_wp2_with fail
  rw [HW3.out]
  refine CO.out.mono ?_
  rintro e' w4 ⟨rfl, hb4⟩
  have B4 := Lib.hid (BX.out.trans (hb4.mono BX.out.size))
  have G4 := Lib.hid (GX.out.below hb4 GX.out.lt)
  have X4 := Lib.hid (XX.out.below hb4 XX.out.lt)
  obtain ⟨W5, hW5⟩ : ∃ W5, w4.alloc (.cells #[.int .i64 (xs.length : Int), .int .i64 (m : Int), .int .i64 1, .int .i64 2, .int .i64 3, .int .i64 (dataN m : Int)] 51) = W5 := ⟨_, rfl⟩
  have B5 : Hid (Below w.heap.size w W5) := hW5 ▸ B4.out.alloc B4.out.size _
  have G5 : Hid (Blk W5 w.heap.size _ _) := hW5 ▸ G4.out.alloc _
  have X5 : Hid (Blk W5 w1.heap.size _ _) := hW5 ▸ X4.out.alloc _
  have x11 := X5.out.cell 11 rfl
  rw [← hW5] at x11
  have HW5 := Lib.hid hW5
  clear hb4 CO GX BX XX G4 B4 X4 hW5
  go_wp2_with fail
  rw [HW5.out]
  rw [HW5.out] at x11
  refine (CU.out _ (row_keep HR.out B5.out B5.out.size)).mono ?_
  rintro e' w6 ⟨rfl, hb6⟩
  have B6 := Lib.hid (B5.out.trans (hb6.mono B5.out.size))
  have G6 := Lib.hid (G5.out.below hb6 G5.out.lt)
  have X6 := Lib.hid (X5.out.below hb6 X5.out.lt)
  clear hb6 CU G5 B5 X5 x11 HW5
  have x11 := X6.out.cell 11 rfl
  obtain ⟨bb, oo, rfl, hbb, hcc⟩ := RowAt.at_ (row_keep HR.out B6.out B6.out.size) (by rw [List.length_map]; exact HXL.out)
  have cs := hcc a11 _ HS.out
  clear hcc hbb
  go_wp2_with fail
  refine (CA.out _).mono ?_
  rintro e' w7 ⟨⟨v, rfl, hown⟩, hb7⟩
  have B7 := Lib.hid (B6.out.trans (hb7.mono B6.out.size))
  have G7 := Lib.hid (G6.out.below hb7 G6.out.lt)
  have X7 := Lib.hid (X6.out.below hb7 X6.out.lt)
  have O7 : Hid (OwnAtts l w v w7) := own_low hown B6.out.size
  clear hb7 CA G6 B6 X6 x11 cs hown
  go_wp2_with (first
   | (refine load_blk 39 (.tmp 7) w1.heap.size 39 #[.int .i64 a0, .int .i64 a1, .int .i64 a2, .int .i64 a3, .int .i64 a4, .int .i64 a5, .int .i64 a6, .int .i64 a7, .int .i64 a8, .int .i64 a9, .int .i64 a10, .int .i64 a11] _ rfl rfl rfl X7.out Tryz.underlying39 rfl (by kernel_rfl) ?_; go_frame)
   | (refine store_blk 39 (.tmp 4) (.tmp 64) w.heap.size 39 #[.int .i64 0, .int .i64 0, .int .i64 0, .int .i64 0, .int .i64 0, .int .i64 0, .int .i64 0, .int .i64 0, .int .i64 0, .int .i64 0, .int .i64 0, .int .i64 0] #[.int .i64 a0, .int .i64 a1, .int .i64 a2, .int .i64 a3, .int .i64 a4, .int .i64 a5, .int .i64 a6, .int .i64 a7, .int .i64 a8, .int .i64 a9, .int .i64 a10, .int .i64 a11] rfl rfl rfl rfl G7.out rfl (by kernel_rfl) (by simp [Value.oneCell']) ?_; intro wz hrz hgz))
  refine bodyPost_ret (results_ctt rfl rfl rfl rfl hrz Tryz.underlying39 rfl (by kernel_rfl)) rfl ?_
  rw [HO.out]
  exact ⟨⟨_, rfl, World.ownsRow.kept O7.out hgz (.inr (own_ne O7.out G7.out (by decide)).symm)⟩, B7.out.grown hgz B7.out.size (fun k e => by cases e; exact Nat.le_refl _)⟩
def isN (nm : ByteArray) (x : AttV) : Bool := decide (x.name = nm)
def idxA (l : List AttV) (nm : ByteArray) : Int := Lib.idxBy (fun _ y => isN nm y) l default
theorem idxA_spec (l : List AttV) (nm : ByteArray) : (idxA l nm = -1 ∧ ∀ x ∈ l, x.name ≠ nm) ∨ ∃ k, ∃ hk : k < l.length, idxA l nm = (k : Int) ∧ l[k].name = nm ∧ ∀ j (hj : j < k), (l[j]'(by omega)).name ≠ nm := by
 by_cases h : ∃ k, k < l.length ∧ (isN nm l[k]! = true)
 ·have hm : ∃ k, (k < l.length ∧ isN nm l[k]! = true) ∧ ∀ j, j < k → isN nm l[j]! = false := by
   obtain ⟨k, hk⟩ := h
   induction k using Nat.strongRecOn with
   | _ k ih =>
    by_cases hx : ∃ j, j < k ∧ isN nm l[j]! = true
    ·obtain ⟨j, hj, hj2⟩ := hx
     exact ih j hj ⟨by omega, hj2⟩
    ·exact ⟨k, hk, fun j hj => by
      cases e : isN nm l[j]! with
      | false => rfl
      | true => exact absurd ⟨j, hj, e⟩ hx⟩
  obtain ⟨k, ⟨hk, h1⟩, h2⟩ := hm
  right
  have hg : ∀ j (hj : j < l.length), l[j]! = l[j] := fun j hj => by rw [List.getElem!_eq_getElem?_getD, List.getElem?_eq_getElem hj]; rfl
  refine ⟨k, hk, ?_, ?_, fun j hj => ?_⟩
  ·have := Lib.idxBy_hit (fun _ y => isN nm y) l l.length k default hk (Nat.le_refl _) h1 h2
   rw [List.take_length] at this
   exact this
  ·rw [hg k hk] at h1; exact of_decide_eq_true h1
  ·have := h2 j hj
   rw [hg j (by omega)] at this
   exact of_decide_eq_false this
 ·left
  have h0 : ∀ j, j < l.length → isN nm l[j]! = false := fun j hj => by
   cases e : isN nm l[j]! with
   | false => rfl
   | true => exact absurd ⟨j, hj, e⟩ h
  constructor
  ·have := Lib.idxBy_miss (fun _ y => isN nm y) l l.length default h0
   rw [List.take_length] at this
   exact this
  ·intro x hx e
   obtain ⟨j, hj, rfl⟩ := List.mem_iff_getElem.1 hx
   have := h0 j hj
   rw [List.getElem!_eq_getElem?_getD, List.getElem?_eq_getElem hj] at this
   exact of_decide_eq_false this e
set_option maxHeartbeats 1000000 in
theorem of_cl (nb : Nat) (nm : ByteArray) (x : AttV) (w : World) (h : Blk w nb 9 #[.string nm]) :
  Calls Tryz.prog 119 #[.agg #[.string x.name, .string x.value], .pointer (some ⟨nb, 0, none⟩)] w fun e w' => e = .returned (.bool (isN nm x)) ∧ Below w.heap.size w w' := by
 obtain ⟨a, v⟩ := x
 obtain ⟨W0, hW0⟩ : ∃ W0, w.alloc (.cells #[.string a, .string v] 104) = W0 := ⟨_, rfl⟩
 have B0 : Hid (Below w.heap.size w W0) := hW0 ▸ (Below.refl _ _).alloc (Nat.le_refl _) _
 have c1 := (h.alloc (.cells #[.string a, .string v] 104)).cell 0 rfl
 have HW0 := Lib.hid hW0
 have HI : Hid (isN nm ⟨a, v⟩ = decide (a = nm)) := by show _ = _; rfl
 generalize isN nm ⟨a, v⟩ = r at *
 clear h hW0
 go_enter Tryz.func119, Tryz.ntmps119
 go_wp2
 go_ret
 rw [HW0.out]
 refine ⟨ret_bool ?_, B0.out⟩
 rw [HI.out]
 by_cases e : a = nm
 ·subst e; simp
 ·rw [decide_eq_false e]
  have := str_ne e
  simpa using this
set_option maxHeartbeats 1000000 in
theorem idx_nil (A : Option Addr) (c g : Nat) (lb : Array Value) (w : World) : Calls Tryz.prog 118 #[.slice A 0 c, .func (.func g) #[] lb] w fun e w' => e = .returned (.int .i64 (-1)) ∧ Below w.heap.size w w' := by
 go_enter Tryz.func118, Tryz.ntmps118
 go_wp2
 go_loopw [8] (fun i wr => i = .int .i64 0 ∧ w = wr) (fun _ _ => 0)
 case atStart => exact ⟨rfl, rfl⟩
 case round =>
  obtain ⟨rfl, rfl⟩ := hrel
  go_wp2
  go_ret
  exact ⟨rfl, Below.refl _ _⟩
theorem attOne_len (x : AttV) : (attOne x).length = 2 := rfl
theorem attC_flat {l : List AttV} {j : Nat} (hj : j < l.length) (i : Nat) (v : Value) (h : (attOne l[j]!)[i]? = some v) : (attC l)[j * 2 + i]? = some v := by
 have g := attC_get hj
 have e : l[j]! = l[j] := by rw [List.getElem!_eq_getElem?_getD, List.getElem?_eq_getElem hj]; rfl
 rw [e] at h
 match i, h with
 | 0, h => rw [Nat.add_zero, g.1]; exact h
 | 1, h => rw [g.2]; exact h
 | i + 2, h => simp [attOne] at h
set_option maxHeartbeats 2000000 in
theorem of_any2 (A : Option Addr) (c : Nat) (l : List AttV) (nm : ByteArray) (w : World) (hl : l.length ≤ 1000) (h : RowAt w w.heap.size A (attC l)) :
  Calls Tryz.prog 50 #[.slice A l.length c, .string nm] w fun e w' => e = .returned (.int .i64 (idxA l nm)) ∧ Below w.heap.size w w' := by
 obtain ⟨W0, hW0⟩ : ∃ W0, w.alloc (.cells #[.string nm] 9) = W0 := ⟨_, rfl⟩
 have B0 : Hid (Below w.heap.size w W0) := hW0 ▸ (Below.refl _ _).alloc (Nat.le_refl _) _
 have G0 : Blk W0 w.heap.size 9 #[.string nm] := hW0 ▸ Blk.new w _ _
 have HW0 := Lib.hid hW0
 have CI : Hid (Calls Tryz.prog 118 #[.slice A l.length c, .func (.func 119) #[] #[.pointer (some ⟨w.heap.size, 0, none⟩)]] W0 fun e w' => e = .returned (.int .i64 (idxA l nm)) ∧ Below W0.heap.size W0 w') := by
  show Calls _ _ _ _ _
  by_cases hn : l = []
  ·subst hn
   exact idx_nil A c _ _ W0
  ·obtain ⟨b, o, rfl, hb, hc⟩ := RowAt.at_ (row_keep h B0.out B0.out.size) (by rw [attC_len]; have := List.length_pos_iff.2 hn; omega)
   have := AnyQ.slices_IndexFunc Tryz.idxAttr 2 Tryz.isAgg104 Tryz.sizeOf104 attOne attOne_len (isN nm) 119 #[.pointer (some ⟨w.heap.size, 0, none⟩)] (enters_of Tryz.func119 (by kernel_rfl) rfl) b o l.length c l W0
    (fun W x hW => (of_cl w.heap.size nm x W (G0.below hW G0.lt)).mono fun e w' he => ⟨he.1, hW.trans (he.2.mono hW.size)⟩) (Nat.le_refl _) (by omega) hb
    (fun j hj i v hv => by rw [Nat.add_assoc]; exact hc _ _ (attC_flat hj i v hv))
   rw [List.take_length] at this
   exact this
 clear h hl G0 hW0
 generalize idxA l nm = r at *
 go_enter Tryz.func50, Tryz.ntmps50
 go_wp2_with fail
 rw [HW0.out]
 refine CI.out.mono ?_
 rintro e w1 ⟨rfl, hb1⟩
 have B1 := Lib.hid (B0.out.trans (hb1.mono B0.out.size))
 clear hb1 CI
 go_wp2
 go_ret
 exact ⟨rfl, B1.out⟩
theorem cmp_lt : ∀ a b : List UInt8, Lib.compareBytes a b < 0 ↔ a < b
 | [], [] => by simp [Lib.compareBytes]
 | [], _ :: _ => by simp [Lib.compareBytes]
 | _ :: _, [] => by simp [Lib.compareBytes]
 | a :: p, b :: q => by
  have ih := cmp_lt p q
  unfold Lib.compareBytes
  rw [List.cons_lt_cons_iff]
  by_cases h1 : a < b
  ·rw [if_pos h1]; simp [h1]
  ·rw [if_neg h1]
   by_cases h2 : b < a
   ·rw [if_pos h2]
    constructor
    ·intro h; omega
    ·rintro (h | ⟨h, _⟩)
     ·exact absurd h h1
     ·subst h; exact absurd h2 h1
   ·rw [if_neg h2, ih]
    have e : a = b := by
     apply UInt8.toNat_inj.1
     rw [UInt8.lt_iff_toNat_lt] at h1 h2
     omega
    subst e
    simp [h1]
def cfA (x y : AttV) : Int := Lib.compareBytes x.name.data.toList y.name.data.toList
def ltN (x y : AttV) : Prop := ltB x.name y.name = true
theorem ltOf_cf (x y : AttV) : ltOf cfA x y = ltB x.name y.name := by
 unfold ltOf cfA ltB
 rw [Bool.eq_iff_iff, decide_eq_true_iff, decide_eq_true_iff]
 exact cmp_lt _ _
theorem swo_cf : Sort.SWO (ltOf cfA) := by
 refine ⟨fun x => ?_, fun x y z => ?_, fun x y z => ?_⟩
 ·rw [ltOf_cf]; exact ltB_irrefl _
 ·rw [ltOf_cf, ltOf_cf, ltOf_cf]; exact ltB_trans
 ·rw [ltOf_cf, ltOf_cf, ltOf_cf]
  intro h1 h2
  cases hyx : ltB y.name x.name with
  | false =>
   have e := ltB_tri h1 hyx
   rw [e]; exact h2
  | true =>
   cases hxz : ltB x.name z.name with
   | false => rfl
   | true => rw [ltB_trans hyx hxz] at h2; cases h2
theorem sorted_unique : ∀ {a b : List AttV}, a.Pairwise ltN → b.Pairwise ltN → (∀ x, x ∈ a ↔ x ∈ b) → a = b
 | [], [], _, _, _ => rfl
 | [], y :: b, _, _, h => absurd ((h y).2 (by simp)) (by simp)
 | x :: a, [], _, _, h => absurd ((h x).1 (by simp)) (by simp)
 | x :: a, y :: b, pa, pb, h => by
  rw [List.pairwise_cons] at pa pb
  have irr : ∀ {u v : AttV}, ltN u v → ltN v u → False := fun h1 h2 => by
   have := ltB_trans h1 h2
   rw [ltB_irrefl] at this; cases this
  have hxy : x = y := by
   rcases List.mem_cons.1 ((h x).1 (by simp)) with e | hx
   ·exact e
   ·rcases List.mem_cons.1 ((h y).2 (by simp)) with e | hy
    ·exact e.symm
    ·exact absurd (pb.1 x hx) (fun h1 => irr h1 (pa.1 y hy))
  subst hxy
  congr 1
  refine sorted_unique pa.2 pb.2 fun z => ?_
  constructor
  ·intro hz
   rcases List.mem_cons.1 ((h z).1 (by simp [hz])) with e | hz2
   ·subst e
    have := pa.1 z hz
    unfold ltN at this
    rw [ltB_irrefl] at this; cases this
   ·exact hz2
  ·intro hz
   rcases List.mem_cons.1 ((h z).2 (by simp [hz])) with e | hz2
   ·subst e
    have := pb.1 z hz
    unfold ltN at this
    rw [ltB_irrefl] at this; cases this
   ·exact hz2
theorem sort_is {l L : List AttV} {d' : Array AttV} (hp : Sort.PermIn 0 l.toArray.size l.toArray d') (hs : Sort.SortedIn (ltOf cfA) 0 l.toArray.size d') (hd : l.Pairwise fun x y => x.name ≠ y.name) (hL : L.Pairwise ltN) (hm : ∀ x, x ∈ L ↔ x ∈ l) : d' = L.toArray := by
 obtain ⟨h1, _, h2⟩ := hp
 have e1 : d'.extract 0 l.toArray.size = d' := by rw [← h1]; simp
 have e2 : l.toArray.extract 0 l.toArray.size = l.toArray := by simp
 rw [e1, e2] at h2
 have h2 : d'.toList.Perm l := h2
 have hsz : d'.toList.length = l.length := h2.length_eq
 have hn : d'.toList.Pairwise fun x y => x.name ≠ y.name := (h2.pairwise_iff (fun h e => h e.symm)).2 hd
 have hst : d'.toList.Pairwise ltN := by
  rw [List.pairwise_iff_getElem]
  intro i j hi hj hij
  have hne := List.pairwise_iff_getElem.1 hn i j hi hj hij
  have hi' : i < d'.size := by simpa using hi
  have hj' : j < d'.size := by simpa using hj
  have := hs i j (Nat.zero_le _) hij (by rw [← h1]; exact hj')
  rw [ltOf_cf, getElem!_pos d' j hj', getElem!_pos d' i hi'] at this
  unfold ltN
  rw [Array.getElem_toList, Array.getElem_toList] at hne ⊢
  cases hlt : ltB d'[i].name d'[j].name with
  | true => rfl
  | false => exact absurd (ltB_tri hlt this) hne
 have := sorted_unique hst hL fun x => (h2.mem_iff).trans (hm x).symm
 rw [← this]
set_option maxHeartbeats 1000000 in
theorem cmp_cl (x y : AttV) (w : World) : Calls Tryz.prog 111 #[.agg (attOne x).toArray, .agg (attOne y).toArray] w fun e w' => e = .returned (.int .i64 (cfA x y)) ∧ w' = (w.alloc (.cells #[.string x.name, .string x.value] 104)).alloc (.cells #[.string y.name, .string y.value] 104) := by
 obtain ⟨a, u⟩ := x
 obtain ⟨b, v⟩ := y
 have CC : Hid (∀ w, Calls Tryz.prog 112 #[.string a, .string b] w fun e w' => e = .returned (.int .i64 (cfA ⟨a, u⟩ ⟨b, v⟩)) ∧ w' = w) := fun w => Tryz.strings_Compare a b w
 generalize cfA ⟨a, u⟩ ⟨b, v⟩ = r at *
 show Calls _ _ #[.agg #[.string a, .string u], .agg #[.string b, .string v]] _ _
 go_enter Tryz.func111, Tryz.ntmps111
 go_wp2_with fail
 refine (CC.out _).mono ?_
 rintro e w1 ⟨rfl, rfl⟩
 go_wp2
 go_ret
 exact ⟨rfl, rfl⟩
theorem attC_at2 {l : List AttV} (k r : Nat) (hk : k < l.length) (hr : r < 2) : (attC l)[k * 2 + r]? = some ((attOne l.toArray[k]!)[r]!) := by
 have g2 := attC_get hk
 have e : l.toArray[k]! = l[k] := by rw [getElem!_pos _ _ (by simpa using hk)]; simp
 rw [e]
 match r, hr with
 | 0, _ => rw [Nat.add_zero, g2.1]; rfl
 | 1, _ => rw [g2.2]; rfl
theorem attC_at {l : List AttV} {t : Nat} (ht : t < l.length * 2) : (attC l)[t]? = some ((attOne l.toArray[t / 2]!)[t % 2]!) := by
 have := attC_at2 (l := l) (t / 2) (t % 2) (by omega) (Nat.mod_lt _ (by decide))
 rwa [Nat.div_add_mod'] at this
theorem sortW_grown (enc : AttV → List Value) (k : Nat) (w : World) (blk off n : Nat) (d : Array AttV) (os : Array Obj) : w.grownBy (sortWorldK enc k w blk off n d os) (some blk) := by
 have hs : w.heap.size ≤ (sortWorldK enc k w blk off n d os).heap.size := size_sortWorldK_c enc k w blk off n d os
 refine ⟨rfl, rfl, rfl, hs, fun i hi hne => ?_⟩
 have hne : blk ≠ i := fun e => hne (by rw [e])
 show ((sortWorldK enc k w blk off n d os).heap)[i]? = _
 unfold sortWorldK Sort.grow Sort.putRowK Sort.putRow Sort.mapBlock Sort.ahead
 dsimp only
 rw [Array.getElem?_append_left (by simp; omega), Array.getElem?_modify, if_neg hne]
set_option maxHeartbeats 2000000 in
theorem sort_any {l L : List AttV} (g base c : Nat) (w : World) (hd : l.Pairwise fun x y => x.name ≠ y.name) (hL : L.Pairwise ltN) (hm : ∀ x, x ∈ L ↔ x ∈ l) (hl : l.length ≤ 1000) 
  (h : w.ownsRow base 104 2 (.slice (some ⟨g, 0, none⟩) l.length c) l.length (attC l)) :
  Calls Tryz.prog 110 #[.slice (some ⟨g, 0, none⟩) l.length c, .func (.func 111) #[] #[]] w fun e w' => e = .returned (.tuple #[]) ∧ RowAt w' w'.heap.size (some ⟨g, 0, none⟩) (attC L) ∧ L.length = l.length ∧ w.grownBy w' (some g) := by
 have hg : g < w.heap.size := (h.lt g rfl).2
 have hH : Sort.HoldsK attOne 2 w g 0 l.toArray := by
  intro t ht
  rw [Sort.size_flatK, List.size_toArray] at ht
  have hgt : (attC l)[t]? = some (Sort.flatK attOne 2 l.toArray)[t]! := by
   rw [Sort.get_flatK _ _ _ t (by rw [List.size_toArray]; exact ht)]
   exact attC_at ht
  refine ⟨?_, ?_⟩
  ·rw [Nat.zero_add, h.cellAt t (by omega), hgt]; rfl
  ·rw [Nat.zero_add]; exact h.frozenAt t
 have hC : CmpLays Tryz.prog 111 #[] attOne 2 cfA g 0 l.toArray.size w := fun m os dk _ x y => by
  refine (cmp_cl x y _).mono ?_
  rintro e w' ⟨rfl, rfl⟩
  refine ⟨rfl, 0, #[.cells #[.string x.name, .string x.value] 104, .cells #[.string y.name, .string y.value] 104], ?_⟩
  rw [Sort.alloc_eq_grow, Sort.alloc_eq_grow, Sort.grow_grow]
  rfl
 have key := AnyQ.slices_SortFunc Tryz.sortAttr 2 Tryz.isAgg104 Tryz.sizeOf104 attOne attOne_len (fun x v hv => by
  rcases List.mem_cons.1 hv with rfl | hv
  ·rfl
  ·rcases List.mem_cons.1 hv with rfl | hv
   ·rfl
   ·cases hv) cfA swo_cf 111 #[] g 0 c l.toArray w (enters_of Tryz.func111 (by kernel_rfl) rfl) hC hH hg (by rw [List.size_toArray]; omega)
 rw [List.size_toArray] at key
 refine key.mono ?_
 rintro e w' ⟨rfl, d', n, os, hp, hs, rfl⟩
 have hd' := sort_is (by rw [List.size_toArray]; exact hp) (by rw [List.size_toArray]; exact hs) hd hL hm
 subst hd'
 have hsz : L.length = l.length := by have := hp.1; simpa using this
 have hK := holdsK_sortWorldK_c attOne 2 w g 0 l.toArray L.toArray n os hH hg (by simpa using hsz)
 refine ⟨rfl, .inr ⟨g, 0, rfl, ?_, fun t u hu => ?_⟩, hsz, sortW_grown _ _ _ _ _ _ _ _⟩
 ·exact Nat.lt_of_lt_of_le hg (size_sortWorldK_c attOne 2 w g 0 n L.toArray os)
 ·have ht : t < (attC L).length := (List.getElem?_eq_some_iff.1 hu).1
  rw [attC_len] at ht
  have := (hK t (by rw [Sort.size_flatK, List.size_toArray]; omega)).1
  rw [this, ← hu]
  rw [Sort.get_flatK _ _ _ t (by rw [List.size_toArray]; omega), attC_at ht]
  rfl
def insA (l : List AttV) (x : AttV) : List AttV := l.filter (fun y => ltB y.name x.name) ++ x :: l.filter (fun y => !ltB y.name x.name)
def addA (l : List AttV) (nm v : ByteArray) : List AttV := if 0 ≤ idxA l nm then l.set (idxA l nm).toNat ⟨nm, v⟩ else l ++ [⟨nm, v⟩]
def putA (l : List AttV) (nm v : ByteArray) : List AttV := if 0 ≤ idxA l nm then l.set (idxA l nm).toNat ⟨nm, v⟩ else insA l ⟨nm, v⟩
def blkA (l : List AttV) : ByteArray := ⟨(blockL (rowA l)).toArray⟩
def takeO (xs : List ByteArray) : List ByteArray × Nat × Int := match ofR xs with
 | none => ([], 0, 3)
 | some m => match freeR xs m with
  | none => ([], 0, 10)
  | some i => (takeV xs i, i, 0)
def setA (xs : List ByteArray) (n : Int) (l : List AttV) (nm v : ByteArray) : List ByteArray × Int :=
 if opE xs n ≠ 0 then ([], opE xs n) else if mayA nm.data.toList = false then ([], 7) else if 126 < v.size then ([], 6) else if 126 < (rowA (putA l nm v)).length then ([], 6)
 else if (getR xs n).getD 11 0 ≠ 0 then (xs.set ((getR xs n).getD 11 0) (blkA (putA l nm v)), 0)
 else if (takeO xs).2.2 ≠ 0 then ([], (takeO xs).2.2)
 else if (putO (takeO xs).1 n (intsL ((getR xs n).set 11 (takeO xs).2.1))).2 ≠ 0 then ([], (putO (takeO xs).1 n (intsL ((getR xs n).set 11 (takeO xs).2.1))).2)
 else ((putO (takeO xs).1 n (intsL ((getR xs n).set 11 (takeO xs).2.1))).1.set (takeO xs).2.1 (blkA (putA l nm v)), 0)
theorem mem_insA {l : List AttV} {x y : AttV} : y ∈ insA l x ↔ y ∈ l ++ [x] := by
 unfold insA
 simp only [List.mem_append, List.mem_cons, List.mem_filter, List.not_mem_nil, or_false]
 constructor
 ·rintro (h | h | h)
  ·exact .inl h.1
  ·exact .inr h
  ·exact .inl h.1
 ·rintro (h | h)
  ·cases e : ltB y.name x.name with
   | true => exact .inl ⟨h, rfl⟩
   | false => exact .inr (.inr ⟨h, rfl⟩)
  ·exact .inr (.inl h)
theorem put_mem {l : List AttV} {nm v : ByteArray} (x : AttV) : x ∈ putA l nm v ↔ x ∈ addA l nm v := by
 unfold putA addA
 split
 ·exact Iff.rfl
 ·exact mem_insA
theorem map_name_set {l : List AttV} {k : Nat} {nm v : ByteArray} (hk : k < l.length) (h : l[k].name = nm) : (l.set k ⟨nm, v⟩).map (·.name) = l.map (·.name) := by
 rw [List.map_set]
 apply List.ext_getElem?
 intro i
 rw [List.getElem?_set]
 by_cases e : k = i
 ·subst e
  rw [if_pos rfl, if_pos (by rw [List.length_map]; exact hk), List.getElem?_map, List.getElem?_eq_getElem hk, ← h]; rfl
 ·rw [if_neg e]
theorem pw_names {l : List AttV} {R : ByteArray → ByteArray → Prop} : (l.Pairwise fun x y => R x.name y.name) ↔ (l.map (·.name)).Pairwise R := by rw [List.pairwise_map]
theorem set_sorted {l : List AttV} {k : Nat} {nm v : ByteArray} (hl : l.Pairwise ltN) (hk : k < l.length) (h : l[k].name = nm) : (l.set k ⟨nm, v⟩).Pairwise ltN := by
 have h1 : (l.map (·.name)).Pairwise fun a b => ltB a b = true := pw_names.1 hl
 rw [← map_name_set (v := v) hk h] at h1
 exact pw_names.2 h1
theorem sorted_dist {l : List AttV} (h : l.Pairwise ltN) : l.Pairwise fun x y => x.name ≠ y.name := h.imp fun h e => by
 unfold ltN at h
 rw [e, ltB_irrefl] at h
 cases h
theorem ins_sorted {l : List AttV} {x : AttV} (h : l.Pairwise ltN) (hx : ∀ y ∈ l, y.name ≠ x.name) : (insA l x).Pairwise ltN := by
 unfold insA
 rw [List.pairwise_append, List.pairwise_cons]
 have hr : ∀ z ∈ l.filter (fun y => !ltB y.name x.name), ltN x z := fun z hz => by
  obtain ⟨h1, h2⟩ := List.mem_filter.1 hz
  have h2 : ltB z.name x.name = false := by simpa using h2
  unfold ltN
  cases e : ltB x.name z.name with
  | true => rfl
  | false => exact absurd (ltB_tri h2 e) (hx z h1)
 refine ⟨h.filter _, ⟨hr, h.filter _⟩, fun y hy z hz => ?_⟩
 have hy2 : ltN y x := (List.mem_filter.1 hy).2
 rcases List.mem_cons.1 hz with rfl | hz
 ·exact hy2
 ·exact ltB_trans hy2 (hr z hz)
theorem add_facts2 {l : List AttV} (h : l.Pairwise ltN) (nm v : ByteArray) : ((addA l nm v).Pairwise fun x y => x.name ≠ y.name) ∧ (putA l nm v).Pairwise ltN ∧ (addA l nm v).length ≤ l.length + 1 ∧ addA l nm v ≠ [] := by
 unfold addA putA
 rcases idxA_spec l nm with ⟨hi, hn⟩ | ⟨k, hk, hi, hkn, _⟩
 ·rw [hi, if_neg (by decide), if_neg (by decide)]
  refine ⟨?_, ins_sorted h hn, by simp, by simp⟩
  rw [List.pairwise_append]
  refine ⟨sorted_dist h, List.pairwise_singleton _ _, fun x hx y hy => ?_⟩
  rw [List.mem_singleton.1 hy]
  exact hn x hx
 ·rw [hi, if_pos (by omega), if_pos (by omega), Int.toNat_natCast]
  have := set_sorted (v := v) h hk hkn
  refine ⟨sorted_dist this, this, by rw [List.length_set]; omega, fun e => ?_⟩
  have e2 := congrArg List.length e
  rw [List.length_set] at e2
  have e3 : l.length = 0 := e2
  omega
theorem attC_set {l : List AttV} {k : Nat} {nm v : ByteArray} (hk : k < l.length) (h : l[k].name = nm) : (attC l).set (k * 2 + 1) (.string v) = attC (l.set k ⟨nm, v⟩) := by
 apply List.ext_getElem?
 intro t
 by_cases ht : t < l.length * 2
 ·have h2 := attC_at (l := l.set k ⟨nm, v⟩) (t := t) (by rw [List.length_set]; exact ht)
  rw [h2, List.getElem?_set]
  have hlt : t / 2 < l.length := by omega
  have e0 : (l.set k ⟨nm, v⟩).toArray[t / 2]! = (l.set k ⟨nm, v⟩)[t / 2]'(by rw [List.length_set]; exact hlt) := by rw [getElem!_pos _ _ (by simpa using hlt)]; simp
  rw [e0, List.getElem_set]
  by_cases e : k * 2 + 1 = t
  ·rw [if_pos e, if_pos (by rw [attC_len]; omega), if_pos (by omega), show t % 2 = 1 by omega]
   rfl
  ·rw [if_neg e, attC_at ht]
   have e1 : l.toArray[t / 2]! = l[t / 2] := by rw [getElem!_pos _ _ (by simpa using hlt)]; simp
   rw [e1]
   by_cases ek : k = t / 2
   ·rw [if_pos ek, show t % 2 = 0 by omega]
    subst ek
    show some (Value.string l[t / 2].name) = some (Value.string nm)
    rw [h]
   ·rw [if_neg ek]
 ·rw [List.getElem?_eq_none (by rw [List.length_set, attC_len]; omega), List.getElem?_eq_none (by rw [attC_len, List.length_set]; omega)]
theorem add_texts {l : List AttV} (h : ∀ t ∈ textsA l, t.size ≤ 127) {nm v : ByteArray} (h1 : nm.size ≤ 127) (h2 : v.size ≤ 127) : ∀ t ∈ textsA (putA l nm v), t.size ≤ 127 := by
 have key : ∀ x ∈ putA l nm v, x.name.size ≤ 127 ∧ x.value.size ≤ 127 := fun x hx => by
  rw [put_mem] at hx
  have hl : ∀ y ∈ l, y.name.size ≤ 127 ∧ y.value.size ≤ 127 := fun y hy => ⟨h _ (by unfold textsA; exact List.mem_flatMap.2 ⟨y, hy, by simp⟩), h _ (by unfold textsA; exact List.mem_flatMap.2 ⟨y, hy, by simp⟩)⟩
  unfold addA at hx
  split at hx
  ·rcases List.mem_or_eq_of_mem_set hx with a | a
   ·exact hl x a
   ·subst a; exact ⟨h1, h2⟩
  ·rcases List.mem_append.1 hx with a | a
   ·exact hl x a
   ·rw [List.mem_singleton.1 a]; exact ⟨h1, h2⟩
 intro t ht
 unfold textsA at ht
 obtain ⟨x, hx, hxt⟩ := List.mem_flatMap.1 ht
 rcases List.mem_cons.1 hxt with rfl | hxt
 ·exact (key x hx).1
 ·rw [List.mem_singleton.1 hxt]; exact (key x hx).2
end Go.Proofs.YtdldlendppkknaaGreatDoor
