/-
  What extent.Count tells.
-/
import Derived.Test.YtjmafegckfijbaaExtI
import Derived.Test.YtjmafegckfijbaaExtT
namespace Go.Proofs.Ytjmafegckfijbaa
open Go.RowKit Go.Shelf
set_option linter.unusedVariables false
set_option linter.unusedSimpArgs false
set_option maxRecDepth 100000
attribute [local go_sem] Oper.semAt_some
theorem upK_map (c : Nat) (h : c ≤ 70) : (upK c).map Fin.val = List.range c := by
  induction c with
  | zero => rfl
  | succ c ih => rw [upK_succ c (by omega), List.map_append, ih (by omega), List.range_succ]; rfl
/-- how many of these are -/
def cntF (V : List ByteArray) (m : Nat) (l : List Nat) (pre : List (Fin 70)) : Nat := (pre.filter fun i => atX V m l i.1 != 0).length
theorem cntF_snoc (V : List ByteArray) (m : Nat) (l : List Nat) (pre : List (Fin 70)) (x : Fin 70) : cntF V m l (pre ++ [x]) = cntF V m l pre + (if atX V m l x.1 != 0 then 1 else 0) := by
  unfold cntF
  rw [List.filter_append, List.length_append]
  by_cases h : (atX V m l x.1 != 0) = true <;> simp [h]
theorem cntF_le (V : List ByteArray) (m : Nat) (l : List Nat) (pre : List (Fin 70)) : cntF V m l pre ≤ pre.length := List.length_filter_le _ _
theorem cntF_all (V : List ByteArray) (m : Nat) (l : List Nat) : cntF V m l (upK 70) = manyX V m l 70 := by
  unfold cntF manyX
  rw [← upK_map 70 (Nat.le_refl _), List.filter_map, List.length_map]
  rfl
theorem FileX.own {B C : Nat} {g m n : Nat} {V : List ByteArray} {l : List Nat} {β : Type} : OwnFrom C (fun (_ : β) W => FileX B W g m n V l) := fun s X Y row hs hg hr => by
  have hr' : ∀ r, row = some r → ∃ o : Obj, X.heap[r]? = some o ∧ o.isCells = false := fun r e => (hr r e).2
  obtain ⟨gv, c, h⟩ := hs
  exact ⟨gv, c, h.low, Blk.own g _ (fun (_ : Unit) => _) () X Y row h.blk hg hr', own_own () h.own hg hr', h.vol, h.fit, h.one, h.top⟩
/-- while it is counted -/
structure CntI (w : World) (gc g m n : Nat) (V : List ByteArray) (l : List Nat) (pre : List (Fin 70)) (W : World) : Prop where
  fc : Blk W gc 3 #[.int .i64 (cntF V m l pre : Nat)]
  ff : FileX w.heap.size W g m n V l
  low : w.heap.size ≤ gc
  below : Below w.heap.size w W
theorem CntI.own {w : World} {gc g m n : Nat} {V : List ByteArray} {l : List Nat} {B : Nat} (hB : w.heap.size ≤ B) : OwnFrom B (fun pre W => CntI w gc g m n V l pre W) := fun s X Y row hs hg hr =>
  have hr' : ∀ r, row = some r → ∃ o : Obj, X.heap[r]? = some o ∧ o.isCells = false := fun r e => (hr r e).2
  ⟨Blk.own gc _ (fun (_ : Unit) => _) () X Y row hs.fc hg hr', FileX.own (β := Unit) (C := B) () X Y row hs.ff hg hr, hs.low, ownFrom_below (Nat.le_refl _) hB s X Y row hs.below hg hr⟩
theorem FileX.cell {w w' : World} {B g m n : Nat} {V : List ByteArray} {l : List Nat} (h : FileX B w g m n V l) {gc : Nat} {cs : Array Value} (hb : Blk w gc 3 cs) (hg : w.grownBy w' (some gc)) : FileX B w' g m n V l := by
  obtain ⟨gv, c, h⟩ := h
  refine ⟨gv, c, h.low, h.blk.grown hg (by intro e; exact h.blk.ne hb (by decide) (Option.some.inj e)), h.own.kept hg (.inr ?_), h.vol, h.fit, h.one, h.top⟩
  intro e
  have := own_ne h.own hb (by decide)
  exact this e.symm
theorem bool_nat (b : Bool) : (if b = true then 1 else 0 : Nat) = b.toNat := by cases b <;> rfl
set_option maxHeartbeats 8000000 in
theorem count_ok (A : Option Addr) (c : Nat) (xs : List ByteArray) (n : Int) (w : World) (hx : xs.length ≤ 1000000) (h : RowAt w w.heap.size A (xs.map .string)) (h0 : inoE xs n = 0) :
    Calls Try.prog 22 #[.slice A xs.length c, .int .i64 n] w fun e w' => e = .returned (.int .i64 (countO xs n : Nat)) ∧ Below w.heap.size w w' := by
  have CO := Lib.hid (opened_any A c xs n w hx h)
  unfold OpenPost at CO
  simp only [if_pos h0] at CO
  obtain ⟨m, k, hv, rfl, hk1, hk2, hk3⟩ := inoE_ok h0
  have hvl := hv.len
  have HO : Hid (∀ g w2 gv c, w.heap.size ≤ g → Blk w2 g 76 (fileC (.slice (some ⟨gv, 0, none⟩) xs.length c) xs.length (mO xs) (k : Int).toNat (getR xs (k : Int))) → w2.ownsRow w.heap.size 9 1 (.slice (some ⟨gv, 0, none⟩) xs.length c) xs.length (xs.map .string) → FileX w.heap.size w2 g m k xs (getR xs (k : Int))) := fun g w2 gv c a b c' => OpenPost.file (w' := w) hv hk1 hk2 a b c'
  have HLL : Hid (∀ sl, (fileC sl xs.length (mO xs) (k : Int).toNat (getR xs (k : Int))).size = 20) := fun sl => fileC_size _ _ _ _ _ (getR_len _ _)
  have HW0 : Hid (countO xs (k : Int) = countX xs m (getR xs (k : Int))) := by
    show _ = _
    unfold countO
    rw [if_neg (by rw [h0]; simp), mO_vol hv]
  clear h0 hk3 hv
  refine (callsIn_wide (n := 4)).1 ?_
  refine callsIn_of_wp_marks Try.func22 rfl trivial ?_
  simp only [Try.ntmps22, List.size_toArray, List.length_cons, List.length_nil, Nat.reduceAdd, Nat.reduceSub, Array.replicate_succ, Array.replicate_zero, List.push_toArray, List.append_toArray, List.nil_append, List.cons_append]
  refine wpIn_wide.2 ?_
  go_wp2_with fail
  refine CO.out.mono ?_
  rintro e w1 ⟨hb1, gv, cv, rfl, ho⟩
  have B1 := Lib.hid hb1
  have O1 := Lib.hid ho
  have hz1 := hb1.size
  clear hb1 ho CO
  go_wp2_with (refine store_blk 76 (.tmp 5) (.tmp 14) w1.heap.size 76 fileZ (fileC (.slice (some ⟨gv, 0, none⟩) xs.length cv) xs.length (mO xs) (k : Int).toNat (getR xs (k : Int))) rfl rfl rfl rfl (Blk.new w1 _ _) (by rw [HLL.out]; rfl) (by rw [HLL.out]; kernel_rfl) (fileC_one _ _ _ _ _ _ _) ?_; intro w2 hr2 hg2)
  have FX : Hid (FileX w.heap.size w2 w1.heap.size m k xs (getR xs (k : Int))) := HO.out _ _ gv cv hz1 hr2 (by
    refine (O1.out.alloc _).kept hg2 (.inr ?_)
    have := own_ne (O1.out.alloc _) (Blk.new w1 76 fileZ) (by decide)
    intro e; exact this e.symm)
  have BW : Hid (Below w.heap.size w w2) := (B1.out.alloc hz1 _).grown hg2 (by simp; omega) (fun k e => by cases e; exact hz1)
  have hgg : w.heap.size ≤ w1.heap.size := hz1
  generalize hg : w1.heap.size = g at *
  generalize getR xs (k : Int) = l at *
  clear hr2 hg2 HO O1 B1 HLL hg hz1
  have F3 := Lib.hid (FX.out.below ((Below.refl w2.heap.size w2).alloc (Nat.le_refl _) (.cells #[.int .i64 0] 3)))
  have G3 := Lib.hid (Blk.new w2 3 #[.int .i64 0])
  have B3 := Lib.hid (BW.out.alloc BW.out.size (.cells #[.int .i64 0] 3))
  have hz2 := BW.out.size
  go_wp2_with fail
  refine (first_file 70 _ F3.out).mono ?_
  rintro e w4 ⟨Bl, Bc, rfl, hbc, hlc, hbl, hbb, hb4⟩
  obtain ⟨gc, hgc⟩ : ∃ gc, w2.heap.size = gc := ⟨_, rfl⟩
  rw [hgc] at G3 hz2
  have H0 : Hid (CntI w gc g m k xs l [] w4) := ⟨G3.out.below hb4 G3.out.lt, F3.out.below hb4, hz2, B3.out.trans (hb4.mono B3.out.size)⟩
  have HBL := Lib.hid hbl
  have HBB := Lib.hid hbb
  have hbcl : Bc ≠ gc := by
    have := G3.out.lt
    omega
  have HBC : Hid (Bc ≠ gc) := hbcl
  have hz4 : w.heap.size ≤ w4.heap.size := H0.out.below.size
  rw [hgc]
  clear hbl hbb hb4 B3 F3 G3 FX BW hbc hlc hgc hbcl
  go_wp2_with fail
  refine (wpIn_wide (n := 4)).1 ?_
  apply wpIn_rangeFunc_ownG rfl (by omega) (gf := 95) (lb := #[.pointer (some ⟨Bl, 0, none⟩), .pointer (some ⟨Bc, 0, none⟩)]) rfl trivial (enters_of Try.func95 (by kernel_rfl) rfl)
    (first_stops (atF xs m l) 70 3 (Nat.le_refl _) (by omega) Bl Bc w4 HBL.out HBB.out)
    (fun h k => h.trans k) (fun W l o o' _ ho hc _ => KeepB.putObj W l o o' ho hc) (Below.refl _ _) (fun _ => rfl)
    (fun pre W => CntI w gc g m k xs l pre W) (fun _ _ _ => False)
    (CntI.own hz4) (fun _ _ _ _ _ hs _ _ => hs) H0.out
  case hassign =>
    intro l x W K hK
    gi_wp2
    exact hK
  case hbody =>
    rintro ll pre x W hi hlt
    have HI := Lib.hid hi
    have HSN := Lib.hid (cntF_snoc xs m l pre x)
    have hle := cntF_le xs m l pre
    have c0 := hi.fc.cell 0 rfl
    have c0f := hi.fc.frozen 0
    obtain ⟨cn, hcn⟩ : ∃ cn, cntF xs m l pre = cn := ⟨_, rfl⟩
    have HFC : Hid (Blk W gc 3 #[.int .i64 (cn : Int)]) := by rw [← hcn]; exact hi.fc
    rw [hcn] at hle c0 HSN
    by_cases hz : atX xs m l x.1 = 0
    · have hv : atF xs m l x.1 = -1 := by unfold atF atI; rw [if_pos hz]
      have HE : Hid (cntF xs m l (pre ++ [x]) = cn) := by show _ = _; rw [HSN.out, hz]; rfl
      rw [hv]
      clear hi hv hcn
      gi_wp2
      refine ⟨KeepsFrom.refl _ _, KeepB.refl _ _, ?_⟩
      exact ⟨by rw [HE.out]; exact HFC.out, HI.out.ff, HI.out.low, HI.out.below⟩
    · have hv : (atF xs m l x.1 != -1) = true := by
        have : atF xs m l x.1 = (atX xs m l x.1 : Nat) := by unfold atF atI; rw [if_neg hz]
        rw [this]; simp
      have hv2 : ¬ atF xs m l x.1 = -1 := by simpa using hv
      have HE : Hid (cntF xs m l (pre ++ [x]) = cn + 1) := by show _ = _; rw [HSN.out, if_pos (by simpa using hz)]
      generalize atF xs m l x.1 = v at *
      clear hi hcn hz
      have w1 : IntKind.i64.wrap ((cn : Int) + 1) = (cn : Int) + 1 := IntWalk.i64_in _ (by omega)
      gi_wp2
      have hgr := only_setCell (World.grownBy.refl W (some gc)) 0 (.int .i64 ((cn : Int) + 1))
      refine ⟨(KeepsOthers.setCell _ _ _).from _, KeepB.grown hgr (by intro e; exact HBC.out (Option.some.inj e)), ?_⟩
      refine ⟨?_, HI.out.ff.cell HFC.out hgr, HI.out.low, HI.out.below.grown hgr HI.out.below.size (fun j e => by cases e; exact HI.out.low)⟩
      rw [HE.out]
      have := HFC.out.set_ 0 (.int .i64 ((cn : Int) + 1))
      simpa using this
  case hdone =>
    rintro D ys W hD rfl hi hK
    have HF := Lib.hid hi.ff
    have HK := Lib.hid hK
    have HFC := Lib.hid hi.fc
    have HB := Lib.hid hi.below
    rw [cntF_all] at HFC
    have hml := manyX_le xs m l 70
    have HC : Hid (countX xs m l = manyX xs m l 70 + (if datB xs m (l.getD 10 0) = true then 1 else 0) + (if datB xs m (l.getD 11 0) = true then 1 else 0)) := rfl
    have HL := Lib.hid hi.low
    obtain ⟨gv3, c3, hF3⟩ := hi.ff
    have c18 : W.cell? ⟨g, 18, none⟩ = some (.int .i64 ((l.getD 10 0 : Nat) : Int)) := hF3.ino 10 (by omega)
    have c19 : W.cell? ⟨g, 19, none⟩ = some (.int .i64 ((l.getD 11 0 : Nat) : Int)) := hF3.ino 11 (by omega)
    have HNE : Hid (g ≠ gc) := by
      intro e
      exact hF3.blk.ne HFC.out (by decide) e
    clear hi hK hF3 H0 HBL HBB
    generalize manyX xs m l 70 = mn at *
    generalize l.getD 10 0 = i10 at *
    generalize l.getD 11 0 = i11 at *
    have hne : ¬ g = gc := HNE.out
    have c0 := HFC.out.cell 0 rfl
    have c0f := HFC.out.frozen 0
    cases hd : datB xs m i10 with
    | false =>
      rw [hd] at HC
      go_wp2_with fail
      refine (is_any i10 _ HF.out).mono ?_
      rw [hd]
      rintro e w' ⟨rfl, rfl⟩
      cases hd2 : datB xs m i11 with
      | false =>
        rw [hd2] at HC
        go_wp2_with fail
        refine (is_any i11 _ HF.out).mono ?_
        rw [hd2]
        rintro e w' ⟨rfl, rfl⟩
        go_wp2
        refine ⟨by simp, .inl ⟨_, _, rfl, run_takeDeferred HK.out, ?_⟩⟩
        refine ⟨_, results_tmp rfl _ _ _, ⟨?_, ?_⟩⟩
        · refine ret_int ?_
          rw [HW0.out, HC.out]
          simp
        · exact HB.out.trans (belowK_b (w := w4) (by omega) W D _ _ (by omega) HK.out rfl rfl)
      | true =>
        rw [hd2] at HC
        have w2' : IntKind.i64.wrap ((mn : Int) + 1) = (mn : Int) + 1 := IntWalk.i64_in _ (by omega)
        have HK2 : Hid ((W.setCell ⟨gc, 0, none⟩ (.int .i64 ((mn : Int) + 1))).heap[D]? = some (.deferred (some []))) := (KeepsOthers.setCell W ⟨gc, 0, none⟩ _).same D _ HK.out rfl
        have HB2 : Hid (Below w.heap.size w (W.setCell ⟨gc, 0, none⟩ (.int .i64 ((mn : Int) + 1)))) := HB.out.setCell HL.out _
        have c0 := HFC.out.cell 0 rfl
        have c0f := HFC.out.frozen 0
        go_wp2_with fail
        refine (is_any i11 _ HF.out).mono ?_
        rw [hd2]
        rintro e w' ⟨rfl, rfl⟩
        go_wp2
        refine ⟨by simp, .inl ⟨_, _, rfl, run_takeDeferred HK2.out, ?_⟩⟩
        refine ⟨_, results_tmp rfl _ _ _, ⟨?_, ?_⟩⟩
        · refine ret_int ?_
          rw [HW0.out, HC.out]
          simp
        · exact HB2.out.trans (belowK_b (w := w4) (by omega) _ D _ _ (by omega) HK2.out rfl rfl)
    | true =>
      rw [hd] at HC
      have w1' : IntKind.i64.wrap ((mn : Int) + 1) = (mn : Int) + 1 := IntWalk.i64_in _ (by omega)
      have hgr := only_setCell (World.grownBy.refl W (some gc)) 0 (.int .i64 ((mn : Int) + 1))
      have HF1 := Lib.hid (HF.out.cell HFC.out hgr)
      have HK1 : Hid ((W.setCell ⟨gc, 0, none⟩ (.int .i64 ((mn : Int) + 1))).heap[D]? = some (.deferred (some []))) := (KeepsOthers.setCell W ⟨gc, 0, none⟩ _).same D _ HK.out rfl
      have HB1 : Hid (Below w.heap.size w (W.setCell ⟨gc, 0, none⟩ (.int .i64 ((mn : Int) + 1)))) := HB.out.setCell HL.out _
      have HFC1 : Hid (Blk (W.setCell ⟨gc, 0, none⟩ (.int .i64 ((mn : Int) + 1))) gc 3 #[.int .i64 ((mn : Int) + 1)]) := by
        have := HFC.out.set_ 0 (.int .i64 ((mn : Int) + 1))
        exact this
      have c19' : (W.setCell ⟨gc, 0, none⟩ (.int .i64 ((mn : Int) + 1))).cell? ⟨g, 19, none⟩ = some (.int .i64 (i11 : Int)) := by
        rw [World.cell?_setCell_other _ _ _ _ (by simp [hne])]
        exact c19
      clear hgr
      go_wp2_with fail
      refine (is_any i10 _ HF.out).mono ?_
      rw [hd]
      rintro e w' ⟨rfl, rfl⟩
      clear c18 HF HK HB
      go_wp2_with fail
      cases hd2 : datB xs m i11 with
      | false =>
        rw [hd2] at HC
        refine (is_any i11 _ HF1.out).mono ?_
        rw [hd2]
        rintro e w' ⟨rfl, rfl⟩
        go_wp2
        refine ⟨by simp, .inl ⟨_, _, rfl, run_takeDeferred HK1.out, ?_⟩⟩
        refine ⟨_, results_tmp rfl _ _ _, ⟨?_, ?_⟩⟩
        · refine ret_int ?_
          rw [HW0.out, HC.out]
          simp
        · exact HB1.out.trans (belowK_b (w := w4) (by omega) (W.setCell ⟨gc, 0, none⟩ (.int .i64 ((mn : Int) + 1))) D _ _ (by omega) HK1.out rfl rfl)
      | true =>
        rw [hd2] at HC
        have w2' : IntKind.i64.wrap (((mn : Int) + 1) + 1) = ((mn : Int) + 1) + 1 := IntWalk.i64_in _ (by omega)
        have HK2 : Hid (((W.setCell ⟨gc, 0, none⟩ (.int .i64 ((mn : Int) + 1))).setCell ⟨gc, 0, none⟩ (.int .i64 (((mn : Int) + 1) + 1))).heap[D]? = some (.deferred (some []))) := (KeepsOthers.setCell (W.setCell ⟨gc, 0, none⟩ (.int .i64 ((mn : Int) + 1))) ⟨gc, 0, none⟩ _).same D _ HK1.out rfl
        have HB2 : Hid (Below w.heap.size w ((W.setCell ⟨gc, 0, none⟩ (.int .i64 ((mn : Int) + 1))).setCell ⟨gc, 0, none⟩ (.int .i64 (((mn : Int) + 1) + 1)))) := HB1.out.setCell HL.out _
        have c0 := HFC1.out.cell 0 rfl
        have c0f := HFC1.out.frozen 0
        refine (is_any i11 _ HF1.out).mono ?_
        rw [hd2]
        rintro e w' ⟨rfl, rfl⟩
        go_wp2
        refine ⟨by simp, .inl ⟨_, _, rfl, run_takeDeferred HK2.out, ?_⟩⟩
        refine ⟨_, results_tmp rfl _ _ _, ⟨?_, ?_⟩⟩
        · refine ret_int ?_
          rw [HW0.out, HC.out]
          simp
        · exact HB2.out.trans (belowK_b (w := w4) (by omega) _ D _ _ (by omega) HK2.out rfl rfl)
  case hstop =>
    rintro D c pre W _ _ h _
    exact h.elim
set_option maxHeartbeats 4000000 in
theorem count_none (A : Option Addr) (c : Nat) (xs : List ByteArray) (n : Int) (w : World) (hx : xs.length ≤ 1000000) (h : RowAt w w.heap.size A (xs.map .string)) (h0 : ¬ inoE xs n = 0) :
    Calls Try.prog 22 #[.slice A xs.length c, .int .i64 n] w fun e w' => e = .returned (.int .i64 (countO xs n : Nat)) ∧ Below w.heap.size w w' := by
  have CO := Lib.hid (opened_any A c xs n w hx h)
  unfold OpenPost at CO
  simp only [if_neg h0] at CO
  have HW0 : Hid (countO xs n = 0) := by show _ = _; unfold countO; rw [if_pos h0]
  have hn0 : (inoE xs n != 0) = true := by simpa using h0
  generalize inoE xs n = ie at *
  clear h0
  go_enter Try.func22, Try.ntmps22
  go_wp2_with fail
  refine CO.out.mono ?_
  rintro e w1 ⟨hb1, rfl⟩
  have B1 := Lib.hid hb1
  have hz1 := hb1.size
  clear hb1 CO
  go_wp2_with (refine store_blk 76 (.tmp 5) (.tmp 14) w1.heap.size 76 fileZ fileZ rfl rfl rfl rfl (Blk.new w1 _ _) rfl (by kernel_rfl) fileZ_one ?_; intro w2 hr2 hg2)
  have BW : Hid (Below w.heap.size w w2) := (B1.out.alloc hz1 _).grown hg2 (by simp; omega) (fun k e => by cases e; exact hz1)
  go_ret
  exact ⟨ret_int (by rw [HW0.out]; rfl), BW.out⟩
theorem count_any (A : Option Addr) (c : Nat) (xs : List ByteArray) (n : Int) (w : World) (hx : xs.length ≤ 1000000) (h : RowAt w w.heap.size A (xs.map .string)) :
    Calls Try.prog 22 #[.slice A xs.length c, .int .i64 n] w fun e w' => e = .returned (.int .i64 (countO xs n : Nat)) ∧ Below w.heap.size w w' := by
  by_cases h0 : inoE xs n = 0
  · exact count_ok A c xs n w hx h h0
  · exact count_none A c xs n w hx h h0
end Go.Proofs.Ytjmafegckfijbaa
