/-
  Contracts and plain laws: TopR, TopF, TopC, WalkA, WalkB.
-/
import Derived.Maps.AppendAt
import Derived.Test.YtdldlendppkknaaGreatDoorPackR21
import Derived.Test.YtdldlendppkknaaGreatDoorPackR24
import Derived.Test.YtdldlendppkknaaGreatDoorPackR25
import Derived.Test.YtdldlendppkknaaGreatDoorPackR27
import Derived.Test.YtdldlendppkknaaGreatDoorPackR28
import Derived.Test.YtdldlendppkknaaGreatDoorPackR30
namespace Go.Proofs.YtdldlendppkknaaGreatDoor
set_option linter.unusedVariables false
set_option linter.unusedSimpArgs false
set_option maxRecDepth 100000
section
variable {V : List ByteArray} {m n : Nat}
theorem datB_zeroT (V : List ByteArray) (m : Nat) : datB V m 0 = false := by
 cases h : datB V m 0 with
 | false => rfl
 | true => have := datB_pos h; omega
theorem countT (h : InvT V m) (hn : LiveT V m n) : countO V (n : Int) = cntT V m (getR V (n : Int)) := by
 unfold countO
 rw [inoE_zero h.vol hn.1 hn.2.1, if_neg (by simp), mO_vol h.vol]
 unfold countX cntT cntS manyX
 have he : (if datB V m ((getR V (n : Int)).getD 11 0) = true then 1 else 0) = (if extL (getR V (n : Int)) ≠ 0 then 1 else 0) := by
  have hx : extL (getR V (n : Int)) = (getR V (n : Int)).getD 11 0 := rfl
  by_cases h0 : extL (getR V (n : Int)) = 0
  ·rw [← hx, h0, datB_zeroT]
   simp
  ·rw [← hx, (h.ext n hn h0).1, if_pos rfl, if_pos h0]
 rw [he, show List.range 71 = List.range 70 ++ [70] from List.range_succ, List.filter_append, List.length_append]
 have e1 : (List.range 70).filter (fun s => slotX V m (getR V (n : Int)) s != 0) = (List.range 70).filter (fun k => atX V m (getR V (n : Int)) k != 0) := List.filter_congr (fun s hs => by rw [slotX_lt (List.mem_range.1 hs)])
 rw [e1]
 congr 2
 by_cases hd : datB V m ((getR V (n : Int)).getD 10 0) = true
 ·have e2 : (slotX V m (getR V (n : Int)) 70 != 0) = true := bne_iff_ne.2 (datB_ind_iff.1 hd)
  rw [if_pos hd]
  simp only [List.filter_cons, List.filter_nil, e2]
  rfl
 ·have h0 : slotX V m (getR V (n : Int)) 70 = 0 := Classical.not_not.1 (fun h => hd (datB_ind_iff.2 h))
  have e2 : (slotX V m (getR V (n : Int)) 70 != 0) = false := by rw [h0]; rfl
  rw [if_neg hd]
  simp only [List.filter_cons, List.filter_nil, e2]
  rfl
theorem allO_vol (hv : IsVol V m) : allO V = allR V m := by unfold allO; rw [ofR_some.2 hv]
def sumN (V : List ByteArray) (ns : List Nat) : Nat := roomR V + (ns.map fun n : Nat => countO V (n : Int)).sum
theorem sumN_snoc (V : List ByteArray) (ns : List Nat) (n : Nat) : sumN V (ns ++ [n]) = sumN V ns + countO V (n : Int) := by
 unfold sumN
 rw [List.map_append, List.sum_append]
 simp
 omega
theorem room_all (h : InvT V m) : sumN V (allO V) = V.length - dataN m := by
 rw [← h.room]
 unfold sumN sumT
 rw [allO_vol h.vol]
 congr 2
 exact List.map_congr_left fun n hn => countT h (live_iff.2 hn)
theorem sumN_le (h : InvT V m) (k : Nat) : sumN V ((allO V).take k) ≤ 1000 := by
 have h1 := room_all h
 have h2 := h.vol.len
 have : sumN V ((allO V).take k) ≤ sumN V (allO V) := by
  unfold sumN
  have e : ((allO V).map fun n : Nat => countO V (n : Int)) = (((allO V).take k).map fun n : Nat => countO V (n : Int)) ++ (((allO V).drop k).map fun n : Nat => countO V (n : Int)) := by rw [← List.map_append, List.take_append_drop]
  rw [e, List.sum_append]
  omega
 omega
theorem only_top (h : RootT V m) (he : entD V 1 = []) : allO V = [1] := by
 have hr : ∀ k, ReachT V m k → k = 1 := fun k hk => by
  induction hk with
  | top => rfl
  | step _ _ _ hx _ ih =>
   subst ih
   rw [he] at hx
   cases hx
 rw [allO_vol h.vol]
 have h1 : (1 : Nat) ∈ allR V m := live_iff.1 h.tree.root
 have h2 : ∀ k ∈ allR V m, k = 1 := fun k hk => hr k (h.reach k (live_iff.2 hk))
 have h3 := allR_nodup V m
 generalize allR V m = L at *
 match L, h1, h2, h3 with
 | [a], _, h2, _ => rw [h2 a (by simp)]
 | a :: b :: r, _, h2, h3 =>
  have e1 := h2 a (by simp)
  have e2 := h2 b (by simp)
  have := (List.nodup_cons.1 h3).1
  rw [e1, e2] at this
  exact absurd (by simp) this
theorem end_room (h : RootT V m) (he : entD V 1 = []) : roomR V + countO V 1 = V.length - dataN m := by
 have h1 := room_all h.tree.dir.inv
 rw [only_top h he] at h1
 unfold sumN at h1
 simpa using h1
end
section
variable {V W X ys : List ByteArray} {m n k off size : Nat} {d : List UInt8}
theorem act_keep (h : FsT V m) (a : DeedV) : FsT (actO V a).1 m ∧ (actO V a).1.length = V.length := by
 unfold actO
 by_cases he : (actI V a).2 = 0
 ·rw [if_pos he]
  show FsT (actI V a).1 m ∧ (actI V a).1.length = V.length
  unfold actI at he ⊢
  by_cases h0 : a.kind = 0
  ·rw [if_pos h0] at he ⊢
   exact TreeX.made h he
  rw [if_neg h0] at he ⊢
  by_cases h1 : a.kind = 1
  ·rw [if_pos h1] at he ⊢
   exact TreeX.made h he
  rw [if_neg h1] at he ⊢
  by_cases h2 : a.kind = 2
  ·rw [if_pos h2] at he ⊢
   exact TreeX.link h he
  rw [if_neg h2] at he ⊢
  by_cases h3 : a.kind = 3
  ·rw [if_pos h3] at he ⊢
   exact TreeX.remove h he
  rw [if_neg h3] at he ⊢
  by_cases h4 : a.kind = 4
  ·rw [if_pos h4] at he ⊢
   exact TreeX.rename h he
  rw [if_neg h4] at he ⊢
  by_cases h5 : a.kind = 5
  ·rw [if_pos h5] at he ⊢
   exact TreeX.write h he
  rw [if_neg h5] at he ⊢
  by_cases h6 : a.kind = 6
  ·rw [if_pos h6] at he ⊢
   exact TreeX.cut h he
  rw [if_neg h6] at he ⊢
  by_cases h7 : a.kind = 7
  ·rw [if_pos h7] at he ⊢
   obtain ⟨x, y, _⟩ := TreeX.setattr h he
   exact ⟨x, y⟩
  rw [if_neg h7] at he ⊢
  by_cases h8 : a.kind = 8
  ·rw [if_pos h8] at he ⊢
   obtain ⟨x, y⟩ := TreeX.limit h he
   exact ⟨x, y.len⟩
  rw [if_neg h8] at he
  exact absurd he (by decide)
 ·rw [if_neg he]
  exact ⟨h, rfl⟩
end
open Go.RowKit
theorem plan_of (x y : Nat) : planE ((20 + x % 40 : Nat) : Int) ((4 + y % 12 : Nat) : Int) = 0 ∧ 9 ≤ (20 + x % 40) - dataN (4 + y % 12) := by
 constructor
 ·unfold planE
  rw [if_neg (by omega), if_neg (by omega)]
 ·unfold dataN
  omega
set_option maxHeartbeats 4000000 in
theorem volume_any (x y : Nat) (w : World) (hx : x < 256) (hy : y < 256) : Calls Tryz.prog 6 #[.int .u8 x, .int .u8 y] w fun e w' => (∃ v, e = .returned (.tuple #[v, .bool true]) ∧ OwnRow (startV (20 + x % 40) (4 + y % 12)) w v w') ∧ Below w.heap.size w w' := by
 obtain ⟨hp, hr⟩ := plan_of x y
 have s1 : IntKind.i64.wrap (x : Int) = (x : Int) := IntWalk.i64_in _ (by omega)
 have s1' : wrap64 (x : Int) = (x : Int) := by unfold wrap64; omega
 have s2 : IntKind.i64.wrap (y : Int) = (y : Int) := IntWalk.i64_in _ (by omega)
 have s2' : wrap64 (y : Int) = (y : Int) := by unfold wrap64; omega
 obtain ⟨xm, hxm⟩ : ∃ xm, xm = x % 40 := ⟨_, rfl⟩
 obtain ⟨ym, hym⟩ : ∃ ym, ym = y % 12 := ⟨_, rfl⟩
 have s3 : (x : Int).tmod 40 = (xm : Int) := by rw [Int.tmod_eq_emod_of_nonneg (by omega)]; omega
 have s4 : (y : Int).tmod 12 = (ym : Int) := by rw [Int.tmod_eq_emod_of_nonneg (by omega)]; omega
 rw [← hxm, ← hym] at hp hr ⊢
 obtain ⟨b, hb⟩ : ∃ b, b = 20 + xm := ⟨_, rfl⟩
 obtain ⟨m, hm⟩ : ∃ m, m = 4 + ym := ⟨_, rfl⟩
 rw [← hb, ← hm] at hp hr ⊢
 have s5 : IntKind.i64.wrap ((20 : Int) + (xm : Int)) = (b : Int) := by rw [show (20 : Int) + (xm : Int) = (b : Int) by omega]; exact IntWalk.i64_in _ (by omega)
 have s6 : IntKind.i64.wrap ((4 : Int) + (ym : Int)) = (m : Int) := by rw [show (4 : Int) + (ym : Int) = (m : Int) by omega]; exact IntWalk.i64_in _ (by omega)
 have hb6 : b ≤ 59 := by omega
 obtain ⟨t1, _, _, t4, _⟩ := top_tree hp
 obtain ⟨f1, f2, _, _, _, _, _, f8⟩ := file_made hp hr
 obtain ⟨g1, g2, g3, _⟩ := start_ok hp hr
 have CM : Hid (∀ w, Calls Tryz.prog 25 #[.int .i64 b, .int .i64 m] w (RowCode (topV b m) 0 w)) := fun w => by
  have h := make_any (b : Int) (m : Int) w (fun _ => by rw [Int.toNat_natCast, fmtV_length]; omega)
  rw [top_make hp] at h
  exact h
 have CC : Hid (∀ A c w, RowAt w w.heap.size A ((topV b m).map .string) → Calls Tryz.prog 26 #[.slice A (topV b m).length c, .string initP, .int .i64 0] w (RowNumCode (fileV b m, 2, 0) w)) := fun A c w h => by
  have h := create_any A c (topV b m) initP 0 w (by omega) (by decide) h
  rw [f1] at h
  exact h
 have CW : Hid (∀ A c w, RowAt w w.heap.size A ((fileV b m).map .string) → Calls Tryz.prog 13 #[.slice A (fileV b m).length c, .int .i64 2, .int .i64 0, .string fileB] w (RowCode (startV b m) 0 w)) := fun A c w h => by
  have h := writeF_any A c (fileV b m) 2 0 fileB w (by omega) (by decide) (by decide) h
  rw [g1] at h
  exact h
 unfold RowCode at CM CW
 unfold RowNumCode at CC
 dsimp only at CM CC CW
 generalize topV b m = V1 at *
 generalize fileV b m = V2 at *
 generalize startV b m = V3 at *
 have hI : initP = ⟨#[47, 105, 110, 105, 116]⟩ := rfl
 have hF : fileB = ⟨#[97, 32, 102, 105, 108, 101]⟩ := rfl
 rw [hI] at CC
 rw [hF] at CW
 clear hp hr t1 t4 f1 f2 f8 g1 g2 g3 hxm hym hb hm hx hy hb6 hI hF
 go_enter Tryz.func6, Tryz.ntmps6
 go_wp2_with fail
 refine (CM.out _).mono ?_
 rintro e w1 ⟨⟨v, rfl, hown⟩, hb1⟩
 obtain ⟨A1, c1, rfl, hrow⟩ := OwnRow.read hown
 have R1 := Lib.hid hrow
 have B1 := Lib.hid hb1
 clear hown hb1 hrow CM
 go_wp2_with fail
 refine (CC.out _ _ _ R1.out).mono ?_
 rintro e w2 ⟨⟨v, rfl, hown⟩, hb2⟩
 obtain ⟨A2, c2, rfl, hrow⟩ := OwnRow.read hown
 have R2 := Lib.hid hrow
 have B2 := Lib.hid (B1.out.trans (hb2.mono B1.out.size))
 clear hown hb2 hrow CC
 go_wp2_with fail
 refine (CW.out _ _ _ R2.out).mono ?_
 rintro e w3 ⟨⟨v, rfl, hown⟩, hb3⟩
 have ON := Lib.hid (own_low hown B2.out.size)
 have B3 := Lib.hid (B2.out.trans (hb3.mono B2.out.size))
 clear hown hb3 CW
 go_wp2
 go_ret2
 exact ⟨⟨_, rfl, ON.out⟩, B3.out⟩
def wkC (A : Option Addr) (n c : Nat) (I : List Bool) (v : Value) : Array Value := (.slice A n c :: (I.map Value.bool ++ [v])).toArray
section
variable {A : Option Addr} {n c k : Nat} {I : List Bool} {v u : Value}
theorem wkC_vol : (wkC A n c I v)[0]? = some (.slice A n c) := by simp [wkC]
theorem wkC_in (hk : k < I.length) : (wkC A n c I v)[1 + k]? = some (.bool (I.getD k false)) := by
 rw [Nat.add_comm 1 k]
 simp only [wkC, List.getElem?_toArray, List.getElem?_cons_succ]
 rw [List.getElem?_append_left (by simpa using hk), List.getElem?_map, List.getElem?_eq_getElem hk, List.getD_eq_getElem?_getD, List.getElem?_eq_getElem hk]
 rfl
theorem wkC_ps (hI : I.length = 65) : (wkC A n c I v)[66]? = some v := by
 simp only [wkC, List.getElem?_toArray, List.getElem?_cons_succ]
 rw [List.getElem?_append_right (by simp [hI])]
 simp [hI]
theorem wkC_mark (hk : k < I.length) : (wkC A n c I v).setIfInBounds (1 + k) (.bool true) = wkC A n c (I.set k true) v := by
 rw [Nat.add_comm 1 k]
 simp only [wkC, List.setIfInBounds_toArray, List.set_cons_succ]
 rw [List.set_append_left _ _ (by simpa using hk), List.map_set]
theorem wkC_put (hI : I.length = 65) : (wkC A n c I v).setIfInBounds 66 u = wkC A n c I u := by
 simp only [wkC, List.setIfInBounds_toArray, List.set_cons_succ]
 rw [List.set_append_right _ _ (by simp [hI])]
 simp [hI]
end
def freeK (I : List Bool) : Nat := I.countP (fun b => !b)
theorem freeK_set : ∀ {I : List Bool} {k : Nat}, k < I.length → I.getD k false = false → freeK (I.set k true) + 1 = freeK I
 | b :: I, 0, _, h => by
  have : b = false := h
  subst this
  simp [freeK]
 | b :: I, k + 1, hk, h => by
  have := freeK_set (I := I) (k := k) (by simpa using hk) h
  unfold freeK at this ⊢
  rw [List.set_cons_succ, List.countP_cons, List.countP_cons]
  omega
structure KeptK (bw : Nat) (v : Value) (w : World) (v' : Value) (w' : World) : Prop where
 size : w.heap.size ≤ w'.heap.size
 block : ∀ b, b < w.heap.size → b ≠ bw → v.ownBlock ≠ some b → w'.heap[b]? = w.heap[b]?
 own : ∀ g, v'.ownBlock = some g → v.ownBlock = some g ∨ w.heap.size ≤ g
theorem KeptK.refl (bw : Nat) (v : Value) (w : World) : KeptK bw v w v w := ⟨Nat.le_refl _, fun _ _ _ _ => rfl, fun _ h => .inl h⟩
theorem KeptK.trans {bw : Nat} {v v1 v2 : Value} {w w1 w2 : World} (h : KeptK bw v w v1 w1) (g : KeptK bw v1 w1 v2 w2) : KeptK bw v w v2 w2 :=
 ⟨Nat.le_trans h.size g.size, fun b h1 h2 h3 => (g.block b (Nat.lt_of_lt_of_le h1 h.size) h2 (fun e => by
  rcases h.own b e with a | a
  ·exact h3 a
  ·omega)).trans (h.block b h1 h2 h3), fun b hb => by
  rcases g.own b hb with a | a
  ·exact h.own b a
  ·exact .inr (Nat.le_trans h.size a)⟩
theorem KeptK.later {bw : Nat} {v : Value} {w w' : World} (hb : Below w.heap.size w w') : KeptK bw v w v w' := ⟨hb.size, fun b h1 _ _ => hb.block b h1, fun _ h => .inl h⟩
theorem KeptK.cell {bw : Nat} {v v' : Value} {w w' : World} (h : KeptK bw v w v' w') {p : Addr} (h1 : p.block < w.heap.size) (h2 : p.block ≠ bw) (h3 : v.ownBlock ≠ some p.block) : w'.cell? p = w.cell? p := World.cell?_of_block (w := w) (h.block p.block h1 h2 h3)
structure WkS (w0 : World) (bw : Nat) (A : Option Addr) (c : Nat) (V : List ByteArray) (I : List Bool) (ps : List ByteArray) (v : Value) (w : World) : Prop where
 len : I.length = 65
 blk : Blk w bw 121 (wkC A V.length c I v)
 own : w.ownsRow w0.heap.size 9 1 v ps.length (ps.map .string)
 low : w0.heap.size ≤ bw
 below : Below w0.heap.size w0 w
section
variable {w0 w w' : World} {bw c n : Nat} {A : Option Addr} {V ps : List ByteArray} {I : List Bool} {v v' : Value}
theorem WkS.later (h : WkS w0 bw A c V I ps v w) (hb : Below w.heap.size w w') : WkS w0 bw A c V I ps v w' :=
 ⟨h.len, h.blk.below hb h.blk.lt, own_below h.own hb, h.low, h.below.trans (hb.mono h.below.size)⟩
theorem WkS.ne (h : WkS w0 bw A c V I ps v w) : v.ownBlock ≠ some bw := fun e => own_ne h.own h.blk (by decide) e.symm
theorem WkS.mark (h : WkS w0 bw A c V I ps v w) (hn : n < 65) : WkS w0 bw A c V (I.set n true) ps v (w.setCell ⟨bw, 1 + n, none⟩ (.bool true)) ∧ KeptK bw v w v (w.setCell ⟨bw, 1 + n, none⟩ (.bool true)) := by
 refine ⟨⟨by rw [List.length_set]; exact h.len, ?_, ownsRow_setCell_other h.own h.ne _, h.low, h.below.setCell (by exact h.low) _⟩, by simp [World.setCell], fun b _ h2 _ => Below.heap_setCell _ _ _ _ h2, fun _ h => .inl h⟩
 rw [← wkC_mark (by rw [h.len]; exact hn)]
 exact h.blk.set_ _ _
theorem WkS.put (h : WkS w0 bw A c V I ps v w) {s : ByteArray} (hw : w'.ownsRow w0.heap.size 9 1 v' (ps.length + 1) (ps.map .string ++ [.string s])) (hg : w.grownBy w' v.ownBlock) (hat : v'.ownBlock = v.ownBlock ∨ v'.ownBlock = some w.heap.size) :
  WkS w0 bw A c V I (ps ++ [s]) v' (w'.setCell ⟨bw, 66, none⟩ v') ∧ KeptK bw v w v' (w'.setCell ⟨bw, 66, none⟩ v') := by
 have hblk : Blk w' bw 121 (wkC A V.length c I v) := h.blk.grown hg (fun e => h.ne e.symm)
 have hne : v'.ownBlock ≠ some bw := fun e => own_ne hw hblk (by decide) e.symm
 have hb' : Below w0.heap.size w0 w' := h.below.grown hg h.below.size (fun k hk => (h.own.lt k hk).1)
 refine ⟨⟨h.len, ?_, ?_, h.low, hb'.setCell (by exact h.low) _⟩, ?_, fun b h1 h2 h3 => ?_, fun g e => ?_⟩
 ·rw [← wkC_put h.len (v := v)]
  exact hblk.set_ _ _
 ·rw [List.length_append, List.map_append]
  exact ownsRow_setCell_other hw hne _
 ·have := hg.size
  simpa [World.setCell] using this
 ·rw [Below.heap_setCell _ _ _ _ (show b ≠ bw from h2)]
  exact hg.block b h1 (fun e => h3 e.symm)
 ·rcases hat with a | a
  ·exact .inl (a ▸ e)
  ·right
   rw [a] at e
   have := Option.some.inj e
   omega
end
theorem walk_info : (Tryz.prog.info? 121).map (·.size) = some 67 := by kernel_rfl
set_option maxHeartbeats 4000000 in
theorem wdir_any (bw : Nat) (A : Option Addr) (c : Nat) (V : List ByteArray) (I : List Bool) (v : Value) (n : Int) (w : World) (hx : V.length ≤ 1000000) (hB : Blk w bw 121 (wkC A V.length c I v)) (h : RowAt w w.heap.size A (V.map .string)) :
  Calls Tryz.prog 122 #[.pointer (some ⟨bw, 0, none⟩), .int .i64 n] w fun e w' => e = .returned (.bool (decide (inoE V n = 0) && decide ((getR V n).getD 0 0 = 2))) ∧ Below w.heap.size w w' := by
 have CG := Lib.hid (get_ino A c V n w hx h)
 obtain ⟨a0, a1, a2, a3, a4, a5, a6, a7, a8, a9, a10, a11, hg⟩ := len12 (getR_len V n)
 rw [hg] at CG ⊢
 unfold inoC at CG
 simp only [List.map_cons, List.map_nil] at CG
 show Calls _ _ _ _ fun e w' => e = .returned (.bool (decide (inoE V n = 0) && decide (a0 = 2))) ∧ Below w.heap.size w w'
 generalize inoE V n = e at *
 have c0 : w.cell? ⟨bw, 0, none⟩ = some (.slice A V.length c) := hB.cell 0 wkC_vol
 clear hg h hB
 go_enter Tryz.func122, Tryz.ntmps122
 go_wp2_with fail
 refine CG.out.mono ?_
 rintro e' w1 ⟨rfl, hb1⟩
 have B1 := Lib.hid hb1
 clear hb1 CG c0
 by_cases he : e = 0
 ·subst he
  by_cases h1 : a0 = 2
  ·subst h1
   go_wp2
   go_ret
   exact ⟨rfl, B1.out.alloc B1.out.size _⟩
  ·have h1' : ((a0 : Int) == 2) = false := by simpa using (by omega : ¬ (a0 : Int) = 2)
   have h2 : decide (a0 = 2) = false := decide_eq_false h1
   go_wp2
   go_ret
   exact ⟨ret_bool (by simp [h2]), B1.out.alloc B1.out.size _⟩
 ·have he' : (e == 0) = false := by simpa using he
  have h2 : decide (e = 0) = false := decide_eq_false he
  go_wp2
  go_ret
  exact ⟨ret_bool (by simp [h2]), B1.out.alloc B1.out.size _⟩
theorem str_info67 : (Tryz.prog.info? 9).map (fun i => (i.zero, i.size, i.bytes)) = some (some (.string ⟨#[]⟩), 1, 16) := by kernel_rfl
def EntP (w0 : World) (bw : Nat) (A : Option Addr) (c : Nat) (V : List ByteArray) (n : Nat) (I : List Bool) (ps : List ByteArray) (v : Value) (w : World) (e : Ending) (w' : World) : Prop :=
 e = .returned (.tuple #[]) ∧ ∃ I' ps' v', WkS w0 bw A c V I' ps' v' w' ∧ KeptK bw v w v' w' ∧ (∀ s ∈ ps', s.size ≤ 200) ∧ ps'.length + 280 * freeK I' ≤ ps.length + 280 * freeK I ∧ ps.length + (entD V n).length ≤ ps'.length
theorem mayB_le24 {l : List UInt8} (h : mayB l = true) : l.length ≤ 24 := by
 unfold mayB at h
 simp only [Bool.and_eq_true, decide_eq_true_eq] at h
 omega
theorem wtold_at {w1 w2 w' : World} {v3 v v' : Value} {l : List EntV} {bw i : Nat} (h : w2.ownsRow w1.heap.size 168 2 v3 l.length (entC l)) (hbw : bw < w1.heap.size) (hv : ∀ g, v.ownBlock = some g → g < w1.heap.size) (hK : KeptK bw v w2 v' w') (hi : i < l.length) :
  ∃ g cap, v3 = .slice (some ⟨g, 0, none⟩) l.length cap ∧ w'.rangeAt g (i * 2) [.string l[i].name, .int .i64 l[i].ino] := by
 obtain ⟨g, cap, rfl⟩ := Go.Joins.ownsRow_form h (by omega)
 have hg := h.lt g rfl
 refine ⟨g, cap, rfl, fun j u hu => ?_⟩
 have hc : w2.cell? ⟨g, i * 2 + j, none⟩ = some u := by
  have e := entC_get hi
  match j, hu with
  | 0, hu =>
   have : u = .string l[i].name := by simpa using hu.symm
   rw [this, h.cellAt _ (by omega), Nat.add_zero, e.1]
  | 1, hu =>
   have : u = .int .i64 l[i].ino := by simpa using hu.symm
   rw [this, h.cellAt _ (by omega), e.2]
 rw [hK.cell (p := ⟨g, i * 2 + j, none⟩) hg.2 (by show g ≠ bw; omega) (fun e => by have := hv g e; omega)]
 exact hc
def EntC (w0 : World) (bw : Nat) (A : Option Addr) (c : Nat) (V : List ByteArray) (m d : Nat) : Prop := ∀ (n : Nat) (p : ByteArray) (I : List Bool) (ps : List ByteArray) (v : Value) (w : World),
  LiveT V m n → kindR V n = 2 → I.getD n false = false → p.size ≤ 25 * d → (∀ s ∈ ps, s.size ≤ 200) → ps.length + 280 * freeK I ≤ 18200 → WkS w0 bw A c V I ps v w →
  Calls Tryz.prog 59 #[.pointer (some ⟨bw, 0, none⟩), .int .i64 (n : Int), .string p, .int .i64 (d : Int)] w (EntP w0 bw A c V n I ps v w)
set_option maxHeartbeats 8000000 in
theorem enter_step (w0 : World) (bw : Nat) (A : Option Addr) (c : Nat) (V : List ByteArray) (m : Nat) (hV : FsT V m) (hx : V.length ≤ 1000000) (hr0 : RowAt w0 w0.heap.size A (V.map .string)) (d : Nat) (hd : d ≤ 7) (ih : d + 1 < 8 → EntC w0 bw A c V m (d + 1)) : EntC w0 bw A c V m d := by
 intro n p I ps v w hn hk hI hp hps hlen hS
 have IH := Lib.hid ih
 clear ih
 obtain ⟨i0, q1, q2, q3, q4⟩ := info_parts str_info67
 have I0 := Lib.hid (And.intro q1 (And.intro q2 (And.intro q3 q4)))
 clear q1 q2 q3 q4
 have hml := hV.vol.len
 have hn64 : n < 65 := by have := hn.2.1; omega
 obtain ⟨hS1, hK1⟩ := hS.mark hn64
 have hD := hV.dir.dir n hn hk
 have hfr := freeK_set (I := I) (k := n) (by rw [hS.len]; exact hn64) hI
 have q1 : w.cell? ⟨bw, 1 + n, none⟩ = some (.bool false) := by rw [hS.blk.cell (1 + n) (wkC_in (by rw [hS.len]; exact hn64)), hI]
 have f1 : w.frozen? ⟨bw, 1 + n, none⟩ = false := hS.blk.frozen _
 obtain ⟨w1, hw1⟩ : ∃ w1, w.setCell ⟨bw, 1 + n, none⟩ (.bool true) = w1 := ⟨_, rfl⟩
 rw [hw1] at hS1 hK1
 have S1 := Lib.hid hS1
 have K1 := Lib.hid hK1
 have c0 : w1.cell? ⟨bw, 0, none⟩ = some (.slice A V.length c) := hS1.blk.cell 0 wkC_vol
 have HBW : Hid (bw < w1.heap.size) := hS1.blk.lt
 have HOW : Hid (∀ g, v.ownBlock = some g → g < w1.heap.size) := fun g e => (hS1.own.lt g e).2
 have hli : listO V (n : Int) = (entD V n, 0) := hD.list
 have CL := Lib.hid (fun w h => list_any A c V (n : Int) w hx h)
 rw [hli] at CL
 unfold ListPost at CL
 have HNM := Lib.hid (fun x hx => hV.name n hn hk x hx)
 have HKD := Lib.hid (fun (q : Nat) (hq : LiveT V m q) => kind_getT hV.vol hq.1 hq.2.1)
 have HVA := Lib.hid hD.valid
 have HLN : Hid ((entD V n).length ≤ 280) := by have := listO_len (xs := V) (n := (n : Int)); rw [hli] at this; exact this
 have HFR := Lib.hid hfr
 have HPS := Lib.hid hps
 have HLE := Lib.hid hlen
 have R0 := Lib.hid hr0
 have HXV := Lib.hid hx
 have HPZ := Lib.hid hp
 have HML := Lib.hid hml
 have n1 : (n : Int) < 65 := by omega
 have n0 : (0 : Int) ≤ (n : Int) := by omega
 have HED : Hid (∀ e w', EntP w0 bw A c V n I ps v w e w' ↔ (e = .returned (.tuple #[]) ∧ ∃ I' ps' v', WkS w0 bw A c V I' ps' v' w' ∧ KeptK bw v w v' w' ∧ (∀ s ∈ ps', s.size ≤ 200) ∧ ps'.length + 280 * freeK I' ≤ ps.length + 280 * freeK I ∧ ps.length + (entD V n).length ≤ ps'.length)) := fun _ _ => Iff.rfl
 clear hS hS1 hK1 hD hfr hps hlen hli hI hx hr0 hp hml hV hn hk hn64
 generalize EntP w0 bw A c V n I ps v w = EP at *
 generalize entD V n = l at *
 go_enter Tryz.func59, Tryz.ntmps59
 go_wp2_with fail
 refine (CL.out _ ((R0.out.below S1.out.below).mono S1.out.below.size)).mono ?_
 rintro e w2 ⟨⟨v3, rfl, hv3⟩, hb2⟩
 have S2 := Lib.hid (S1.out.later hb2)
 have K2 := Lib.hid (K1.out.trans (KeptK.later (bw := bw) (v := v) hb2))
 have O3 : Hid (w2.ownsRow w1.heap.size 168 2 v3 l.length (entC l)) := hv3
 obtain ⟨A3, c3, rfl, hr3⟩ := OwnEnts.read2 hv3
 clear hv3 hb2 hr3 CL S1 K1 c0 q1 f1 hw1 n1 n0
 go_wp2_with fail
 go_loopw [11, 12, 29] (fun _ _ i wr => ∃ (j : Nat) (I2 : List Bool) (ps2 : List ByteArray) (v2 : Value), j ≤ l.length ∧ i = .int .i64 (j : Int) ∧ Hid (WkS w0 bw A c V I2 ps2 v2 wr) ∧ Hid (KeptK bw v w2 v2 wr) ∧ Hid (∀ s ∈ ps2, s.size ≤ 200) ∧ Hid (ps2.length + 280 * freeK I2 + 280 ≤ ps.length + 280 * freeK I + j) ∧ Hid (ps.length + j ≤ ps2.length)) (fun _ _ i _ => l.length - (intOf i).toNat)
 case atStart => exact ⟨0, I.set n true, ps, v, Nat.zero_le _, rfl, S2, Lib.hid (KeptK.refl _ _ _), HPS, Lib.hid (by have := HFR.out; omega), Lib.hid (Nat.le_refl _)⟩
 case round =>
  clear S2
  obtain ⟨j, I2, ps2, v2, hj, rfl, S, K, HP2, HB2, HG2⟩ := hrel
  by_cases hlt : j < l.length
  ·obtain ⟨g, cap, he3, hra⟩ := wtold_at O3.out HBW.out HOW.out K.out hlt
   cases he3
   obtain ⟨q, hq, hql, hq1⟩ := HNM.out _ (List.getElem_mem hlt)
   have hok := HVA.out.ok _ (List.getElem_mem hlt)
   generalize l[j] = x at *
   obtain ⟨nm, ino⟩ := x
   dsimp only at hq hra
   subst hq
   have hnz : nm.size ≤ 24 := by
    unfold okE at hok
    rw [Bool.and_eq_true] at hok
    have := mayB_le24 hok.1
    rwa [dsize] at this
   have HR : Hid (wr.rangeAt g (j * 2) [.string nm, .int .i64 (q : Int)]) := hra
   obtain ⟨r, hr⟩ : ∃ r, p ++ (⟨#[47]⟩ : ByteArray) ++ nm = r := ⟨_, rfl⟩
   have hpz := HPZ.out
   have hrs : r.size ≤ 25 * (d + 1) := by
    rw [← hr, ByteArray.size_append, ByteArray.size_append]
    have : (⟨#[47]⟩ : ByteArray).size = 1 := rfl
    omega
   have ad1 := fun (w : World) => run_string_add_sum (P := Tryz.prog) (w := w) p ⟨#[47]⟩ (by have : (⟨#[47]⟩ : ByteArray).size = 1 := rfl; omega)
   have ad2 := fun (w : World) => run_string_add_sum (P := Tryz.prog) (w := w) (p ++ ⟨#[47]⟩) nm (by have : (⟨#[47]⟩ : ByteArray).size = 1 := rfl; rw [ByteArray.size_append]; omega)
   rw [hr] at ad2
   have HRS := Lib.hid hrs
   obtain ⟨w3, hw3⟩ : ∃ w3, wr.alloc (.cells #[.string nm, .int .i64 (q : Int)] 168) = w3 := ⟨_, rfl⟩
   have hb3 : Below wr.heap.size wr w3 := hw3 ▸ (Below.refl _ _).alloc (Nat.le_refl _) _
   have X3 : Hid (Blk w3 wr.heap.size 168 #[.string nm, .int .i64 (q : Int)]) := hw3 ▸ Blk.new wr _ _
   have S3 := Lib.hid (S.out.later hb3)
   have K3 := Lib.hid (K.out.trans (KeptK.later (bw := bw) (v := v2) hb3))
   obtain ⟨w4, hw4⟩ : ∃ w4, w3.alloc (.cells #[.string r] 9) = w4 := ⟨_, rfl⟩
   have hb4 : Below w3.heap.size w3 w4 := hw4 ▸ (Below.refl _ _).alloc (Nat.le_refl _) _
   have S4 := Lib.hid (S3.out.later hb4)
   have K4 := Lib.hid (K3.out.trans (KeptK.later (bw := bw) (v := v2) hb4))
   have X4 := Lib.hid (X3.out.below hb4 X3.out.lt)
   have HC4 : Hid (∀ j u, [Value.string r][j]? = some u → w4.cell? ((⟨w3.heap.size, 0, none⟩ : Addr).add j) = some u) := by
    intro j u hu
    have := cell_one_new w3 (.string r) 9 j u hu
    rwa [hw4] at this
   have H1 : Hid (∀ u ∈ [Value.string r], u.oneCell' = true) := fun u hu => by rw [List.mem_singleton.1 hu]; rfl
   have hbd : ps2.length ≤ 18480 := by have := HB2.out; have := HLE.out; have := HLN.out; omega
   have HM4 : Hid (ps2.length + 1 ≤ maxLen) := by show _ ≤ _; unfold maxLen; omega
   have HY4 : Hid ((ps2.length + 1) * 16 ≤ 140737488355328) := by show _ ≤ _; omega
   have HZ4 : Hid (w0.heap.size ≤ w4.heap.size) := S4.out.below.size
   have q66 : w3.cell? ⟨bw, 66, none⟩ = some v2 := S3.out.blk.cell 66 (wkC_ps S3.out.len)
   have x0 : w3.cell? ⟨wr.heap.size, 0, none⟩ = some (.string nm) := X3.out.cell 0 rfl
   have i2 : (j : Int) < (l.length : Int) := by omega
   have i3 : (0 : Int) ≤ (j : Int) := by omega
   have ws : IntKind.i64.wrap ((j : Int) + 1) = (j : Int) + 1 := IntWalk.i64_in _ (by have := HLN.out; omega)
   clear hra hr hok hpz hrs hnz hb3 hb4 X3 S3 K3 hbd
   go_wp2_with (first
    | (refine wpList_load_mid rfl 168 (.tmp 31) rfl g (j * 2) rfl _ _ HR.out Tryz.underlying168 rfl (by kernel_rfl) ?_; go_frame)
    | (at_builtin; refine wpList_append_own_at _ rfl (.tmp 42) (.tmp 44) 24 rfl w0.heap.size 9 i0 (.string ⟨#[]⟩) 1 16 Tryz.underlying24 I0.out.1 I0.out.2.1 I0.out.2.2.1 I0.out.2.2.2 rfl (by decide) v2 ps2.length (ps2.map .string) rfl S4.out.own ⟨w3.heap.size, 0, none⟩ 1 1 [.string r] rfl rfl HC4.out H1.out HM4.out HY4.out HZ4.out ?_; intro v9 w9 own hg hnil hat; obtain ⟨g9, cap9, rfl⟩ := Go.Joins.ownsRow_form own (by omega); have PUT := Lib.hid (S4.out.put own hg hat); have q9 : w9.cell? ⟨bw, 66, none⟩ = some v2 := (S4.out.blk.grown hg (fun e => S4.out.ne e.symm)).cell 66 (wkC_ps S4.out.len); have f9 : w9.frozen? ⟨bw, 66, none⟩ = false := (S4.out.blk.grown hg (fun e => S4.out.ne e.symm)).frozen 66; clear own hg hnil hat; go_frame))
   obtain ⟨w10, hw10⟩ : ∃ w10, w9.setCell ⟨bw, 66, none⟩ (.slice (some ⟨g9, 0, none⟩) (ps2.length + 1) cap9) = w10 := ⟨_, rfl⟩
   rw [hw10] at PUT ⊢
   have hS10 := PUT.out.1
   have hK10 := K4.out.trans PUT.out.2
   have hbw : bw < wr.heap.size := S.out.blk.lt
   have hx10 : w10.cell? ⟨wr.heap.size, 1, none⟩ = some (.int .i64 (q : Int)) := by
    rw [PUT.out.2.cell (p := ⟨wr.heap.size, 1, none⟩) X4.out.lt (by show wr.heap.size ≠ bw; omega) (fun e => by have := (S.out.own.lt _ e).2; exact absurd this (Nat.lt_irrefl _))]
    exact X4.out.cell 1 rfl
   have hq65 : q < 65 := by have := HML.out; have := hql.2.1; omega
   have hb10 : w10.cell? ⟨bw, 1 + q, none⟩ = some (.bool (I2.getD q false)) := hS10.blk.cell (1 + q) (wkC_in (by rw [hS10.len]; exact hq65))
   have e1 : ∀ u : Ext w10, u.val.cell? ⟨wr.heap.size, 1, none⟩ = some (.int .i64 (q : Int)) := fun u => u.cell hx10
   have b1 : ∀ u : Ext w10, u.val.cell? ⟨bw, 1 + q, none⟩ = some (.bool (I2.getD q false)) := fun u => u.cell hb10
   have S10 := Lib.hid hS10
   have K10 := Lib.hid hK10
   have q1 : (q : Int) < 65 := by omega
   have q0 : (0 : Int) ≤ (q : Int) := by omega
   have wd : IntKind.i64.wrap ((d : Int) + 1) = (d : Int) + 1 := IntWalk.i64_in _ (by omega)
   have HP10 : Hid (∀ s ∈ ps2 ++ [r], s.size ≤ 200) := fun s hs => by
    rcases List.mem_append.1 hs with a | a
    ·exact HP2.out s a
    ·rw [List.mem_singleton.1 a]; have := HRS.out; omega
   have HB10 : Hid ((ps2 ++ [r]).length + 280 * freeK I2 + 280 ≤ ps.length + 280 * freeK I + (j + 1)) := by
    show _ ≤ _
    rw [List.length_append]
    have := HB2.out
    show ps2.length + 1 + _ + _ ≤ _
    omega
   have HG10 : Hid (ps.length + (j + 1) ≤ (ps2 ++ [r]).length) := by
    show _ ≤ _
    rw [List.length_append]
    have := HG2.out
    show _ ≤ ps2.length + 1
    omega
   have HQL := Lib.hid hql
   clear hw10 hS10 hK10 hbw hx10 hb10 PUT q9 f9 hw3 hw4 q66 x0 X4 S4 K4 HC4 H1 HM4 HY4 HZ4 ad1 ad2 S K HP2 HB2 HG2 HR hql
   by_cases hd8 : d + 1 < 8
   case neg =>
    have hd8' : decide ((d : Int) + 1 < 8) = false := decide_eq_false (by omega)
    refine wp_region_ext (by kernel_rfl) (by kernel_rfl) ?_
    repeat (go_big_quiet_step (fail))
    refine wpQuiet_nil ?_
    rintro _ ⟨u, rfl⟩
    go_wp2
    go_roundw
    case rel => exact ⟨j + 1, I2, ps2 ++ [r], _, by omega, by go_num, Lib.hid (S10.out.later u.below), Lib.hid (K10.out.trans (KeptK.later u.below)), HP10, HB10, HG10⟩
    case measure => simp [intOf]; omega
   have hd8' : decide ((d : Int) + 1 < 8) = true := decide_eq_true (by omega)
   cases hI2 : I2.getD q false with
   | true =>
    rw [hI2] at b1
    refine wp_region_ext (by kernel_rfl) (by kernel_rfl) ?_
    repeat (go_big_quiet_step (fail))
    refine wpQuiet_nil ?_
    rintro _ ⟨u, rfl⟩
    go_wp2
    go_roundw
    case rel => exact ⟨j + 1, I2, ps2 ++ [r], _, by omega, by go_num, Lib.hid (S10.out.later u.below), Lib.hid (K10.out.trans (KeptK.later u.below)), HP10, HB10, HG10⟩
    case measure => simp [intOf]; omega
   | false =>
    rw [hI2] at b1
    have CD : Hid (∀ u : Ext w10, Calls Tryz.prog 122 #[.pointer (some ⟨bw, 0, none⟩), .int .i64 (q : Int)] u.val fun e w' => e = .returned (.bool (decide (inoE V (q : Int) = 0) && decide ((getR V (q : Int)).getD 0 0 = 2))) ∧ Below u.val.heap.size u.val w') := fun u =>
     wdir_any bw A c V I2 _ (q : Int) u.val HXV.out (S10.out.later u.below).blk ((R0.out.below (S10.out.later u.below).below).mono (S10.out.later u.below).below.size)
    have HDQ : Hid ((decide (inoE V (q : Int) = 0) && decide ((getR V (q : Int)).getD 0 0 = 2)) = true → kindR V q = 2) := fun h => by
     rw [Bool.and_eq_true, decide_eq_true_eq, decide_eq_true_eq] at h
     rw [← HKD.out q HQL.out]; exact h.2
    generalize (decide (inoE V (q : Int) = 0) && decide ((getR V (q : Int)).getD 0 0 = 2)) = bd at *
    refine wp_region_ext (by kernel_rfl) (by kernel_rfl) ?_
    repeat (go_big_quiet_step (first
     | (go_at_call 122; with_reducible exact Ext.call (CD.out _))))
    refine wpQuiet_nil ?_
    rintro _ ⟨u, rfl⟩
    cases bd with
    | false =>
     go_wp2
     go_roundw
     case rel => exact ⟨j + 1, I2, ps2 ++ [r], _, by omega, by go_num, Lib.hid (S10.out.later u.below), Lib.hid (K10.out.trans (KeptK.later u.below)), HP10, HB10, HG10⟩
     case measure => simp [intOf]; omega
    | true =>
     have y1 := e1 u
     have S11 := Lib.hid (S10.out.later u.below)
     have K11 := Lib.hid (K10.out.trans (KeptK.later u.below))
     have HI := Lib.hid hI2
     clear e1 b1 CD S10 K10 hI2
     generalize u.val = w11 at *
     go_wp2_with fail
     refine (IH.out hd8 q r I2 (ps2 ++ [r]) _ _ HQL.out (HDQ.out (by simp)) HI.out HRS.out HP10.out (by have := HB10.out; have := HLE.out; have := HLN.out; omega) S11.out).mono ?_
     rintro e w12 ⟨rfl, I3, ps3, v3, hS3, hK3, hP3, hB3, hG3⟩
     have S12 := Lib.hid hS3
     have K12 := Lib.hid (K11.out.trans hK3)
     have HP12 := Lib.hid hP3
     have HB12 : Hid (ps3.length + 280 * freeK I3 + 280 ≤ ps.length + 280 * freeK I + (j + 1)) := by have := HB10.out; show _ ≤ _; omega
     have HG12 : Hid (ps.length + (j + 1) ≤ ps3.length) := by have := HG10.out; show _ ≤ _; omega
     clear hS3 hK3 hP3 hB3 hG3
     go_wp2
     go_roundw
     case rel => exact ⟨j + 1, I3, ps3, v3, by omega, by go_num, S12, K12, HP12, HB12, HG12⟩
     case measure => simp [intOf]; omega
  ·obtain rfl : j = l.length := by omega
   go_wp2
   go_end0
   rw [HED.out]
   refine ⟨rfl, I2, ps2, v2, S.out, K2.out.trans K.out, HP2.out, ?_, HG2.out⟩
   have := HB2.out
   have := HLN.out
   omega
theorem enter_any (w0 : World) (bw : Nat) (A : Option Addr) (c : Nat) (V : List ByteArray) (m : Nat) (hV : FsT V m) (hx : V.length ≤ 1000000) (hr0 : RowAt w0 w0.heap.size A (V.map .string)) : ∀ (k d : Nat), d + k = 7 → EntC w0 bw A c V m d
 | 0, d, h => enter_step w0 bw A c V m hV hx hr0 d (by omega) (fun h2 => by omega)
 | k + 1, d, h => enter_step w0 bw A c V m hV hx hr0 d (by omega) (fun _ => enter_any w0 bw A c V m hV hx hr0 k (d + 1) (by omega))
theorem wkC_one (A : Option Addr) (n c : Nat) (I : List Bool) (v : Value) (hv : v.oneCell' = true) : ∀ u ∈ wkC A n c I v, u.oneCell' = true := fun u hu => by
 unfold wkC at hu
 have hu : u ∈ (.slice A n c :: (I.map Value.bool ++ [v]) : List Value) := by simpa using hu
 rcases List.mem_cons.1 hu with rfl | hu
 ·rfl
 ·rcases List.mem_append.1 hu with hu | hu
  ·obtain ⟨b, _, rfl⟩ := List.mem_map.1 hu
   rfl
  ·rw [List.mem_singleton.1 hu]; exact hv
set_option maxHeartbeats 4000000 in
theorem walk_any (A : Option Addr) (c : Nat) (V : List ByteArray) (m : Nat) (hV : FsT V m) (hx : V.length ≤ 1000000) (w : World) (h : RowAt w w.heap.size A (V.map .string)) :
  Calls Tryz.prog 20 #[.slice A V.length c] w fun e w' => (∃ ps v, e = .returned v ∧ w'.ownsRow w.heap.size 9 1 v ps.length (ps.map .string) ∧ (∀ s ∈ ps, s.size ≤ 200) ∧ ps.length ≤ 18200 ∧ (ps = [] → entD V 1 = [])) ∧ Below w.heap.size w w' := by
 have CE := Lib.hid (enter_any w w.heap.size A c V m hV hx h 7 0 rfl)
 unfold EntC at CE
 have HRt := Lib.hid hV.root
 have HRk := Lib.hid hV.rootk
 clear h hV hx
 go_enter Tryz.func20, Tryz.ntmps20
 go_wp2_with (refine store_blk 121 (.tmp 3) (.tmp 5) w.heap.size 121 (wkC none 0 0 (List.replicate 65 false) (.slice none 0 0)) (wkC A V.length c (List.replicate 65 false) (.slice none 0 0)) rfl rfl rfl rfl (Blk.new w _ _) rfl walk_info (wkC_one _ _ _ _ _ rfl) ?_; intro w2 h2 hg2; have X2 := Lib.hid h2; have B2 := Lib.hid (((Below.refl _ _).alloc (Nat.le_refl _) _).grown hg2 (by simp) (fun k hk => by cases hk; exact Nat.le_refl _)); clear h2 hg2; go_frame)
 have S2 : Hid (WkS w w.heap.size A c V (List.replicate 65 false) [] (.slice none 0 0) w2) := ⟨rfl, X2.out, World.ownsRow_nil _ _ _ _, Nat.le_refl _, B2.out⟩
 refine (CE.out 1 ⟨#[]⟩ (List.replicate 65 false) [] _ w2 HRt.out HRk.out rfl (by decide) (fun s hs => by cases hs) (by decide) S2.out).mono ?_
 rintro e w3 ⟨rfl, I3, ps, v3, hS, _, hP, hB, hG⟩
 have c66 := hS.blk.cell 66 (wkC_ps hS.len)
 have HS := Lib.hid hS
 have HP := Lib.hid hP
 have HB : Hid (ps.length ≤ 18200) := by
  have : freeK (List.replicate 65 false) = 65 := by decide
  rw [this] at hB
  show _ ≤ _
  simp at hB
  omega
 have HG := Lib.hid hG
 clear hS hP hB hG CE
 go_wp2
 go_ret
 refine ⟨⟨ps, v3, rfl, HS.out.own, HP.out, HB.out, fun e => ?_⟩, HS.out.below⟩
 have := HG.out
 rw [e] at this
 simp at this
 exact this
end Go.Proofs.YtdldlendppkknaaGreatDoor
