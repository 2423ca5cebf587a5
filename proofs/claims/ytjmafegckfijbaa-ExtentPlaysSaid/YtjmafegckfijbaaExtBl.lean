/-
  What extent.Blocks hands back.
-/
import Derived.Test.YtjmafegckfijbaaExtCnt
import Derived.OwnWalkIn
namespace Go.Proofs.Ytjmafegckfijbaa
open Go.RowKit Go.Shelf
set_option linter.unusedVariables false
set_option linter.unusedSimpArgs false
set_option maxRecDepth 100000
attribute [local go_sem] Oper.semAt_some
def intsC (l : List Int) : List Value := l.map (.int .i64 ·)
theorem intsC_snoc (l : List Int) (z : Int) : intsC (l ++ [z]) = intsC l ++ [.int .i64 z] := by unfold intsC; simp
/-- a slice of numbers of the call's own -/
def OwnInts (l : List Int) (w : World) (v : Value) (w' : World) : Prop := w'.ownsRow w.heap.size 3 1 v l.length (intsC l)
theorem OwnInts.read {ys : List Int} {w w' : World} {v : Value} (h : OwnInts ys w v w') : ∃ A c, v = .slice A ys.length c ∧ RowAt w' w'.heap.size A (intsC ys) := by
  unfold OwnInts at h
  by_cases hy : ys = []
  · subst hy
    rcases Go.Joins.ownsRow_forms h with ⟨e, _⟩ | ⟨g, cap, e⟩
    · exact ⟨none, 0, e, RowAt.nil⟩
    · exact ⟨_, cap, e, RowAt.nil⟩
  · obtain ⟨g, cap, rfl⟩ := Go.Joins.ownsRow_form h (List.length_pos_iff.2 hy)
    exact ⟨_, cap, rfl, RowAt.of_own h⟩
def toldF (f : Nat → Int) (pre : List (Fin 70)) : List Int := pre.map fun i => f i.1
theorem toldF_snoc (f : Nat → Int) (pre : List (Fin 70)) (x : Fin 70) : toldF f (pre ++ [x]) = toldF f pre ++ [f x.1] := by unfold toldF; simp
theorem toldF_all (f : Nat → Int) (c : Nat) (h : c ≤ 70) : toldF f (upK c) = (List.range c).map f := by
  unfold toldF
  rw [← upK_map c h, List.map_map]
  rfl
/-- while they are collected -/
structure BlI (w : World) (z : Nat) (gl : Nat) (f : Nat → Int) (pre : List (Fin 70)) (W : World) : Prop where
  row : ∃ v, Blk W gl 26 #[v] ∧ W.ownsRow z 3 1 v (toldF f pre).length (intsC (toldF f pre))
  low : w.heap.size ≤ gl
  lz : z ≤ W.heap.size
  below : Below w.heap.size w W
theorem BlI.own {w : World} {z gl : Nat} {f : Nat → Int} (hB : w.heap.size ≤ z) : OwnFrom z (fun pre W => BlI w z gl f pre W) := fun s X Y row hs hg hr =>
  have hr' : ∀ r, row = some r → ∃ o : Obj, X.heap[r]? = some o ∧ o.isCells = false := fun r e => (hr r e).2
  ⟨by
    obtain ⟨v, h1, h2⟩ := hs.row
    exact ⟨v, Blk.own gl _ (fun (_ : Unit) => _) () X Y row h1 hg hr', own_own () h2 hg hr'⟩, hs.low, Nat.le_trans hs.lz hg.size, ownFrom_below (Nat.le_refl _) hB s X Y row hs.below hg hr⟩
set_option maxHeartbeats 8000000 in
theorem blocks_ok (A : Option Addr) (c : Nat) (xs : List ByteArray) (n : Int) (w : World) (hx : xs.length ≤ 1000000) (h : RowAt w w.heap.size A (xs.map .string)) (h0 : inoE xs n = 0) :
    Calls Try.prog 18 #[.slice A xs.length c, .int .i64 n] w fun e w' => (∃ v, e = .returned v ∧ OwnInts (blocksO xs n) w v w') ∧ Below w.heap.size w w' := by
  have CO := Lib.hid (opened_any A c xs n w hx h)
  unfold OpenPost at CO
  simp only [if_pos h0] at CO
  obtain ⟨m, k, hv, rfl, hk1, hk2, hk3⟩ := inoE_ok h0
  have hvl := hv.len
  have HO : Hid (∀ g w2 gv c, w.heap.size ≤ g → Blk w2 g 76 (fileC (.slice (some ⟨gv, 0, none⟩) xs.length c) xs.length (mO xs) (k : Int).toNat (getR xs (k : Int))) → w2.ownsRow w.heap.size 9 1 (.slice (some ⟨gv, 0, none⟩) xs.length c) xs.length (xs.map .string) → FileX w.heap.size w2 g m k xs (getR xs (k : Int))) := fun g w2 gv c a b c' => OpenPost.file (w' := w) hv hk1 hk2 a b c'
  have HLL : Hid (∀ sl, (fileC sl xs.length (mO xs) (k : Int).toNat (getR xs (k : Int))).size = 20) := fun sl => fileC_size _ _ _ _ _ (getR_len _ _)
  have HW0 : Hid (blocksO xs (k : Int) = blocksX xs m (getR xs (k : Int))) := by
    show _ = _
    unfold blocksO
    rw [if_neg (by rw [h0]; simp), mO_vol hv]
  obtain ⟨i0, q1, q2, q3, q4⟩ := info_parts i64_info
  have I0 := Lib.hid (And.intro q1 (And.intro q2 (And.intro q3 q4)))
  clear q1 q2 q3 q4
  clear h0 hk3 hv
  refine (callsIn_wide (n := 4)).1 ?_
  refine callsIn_of_wp_marks Try.func18 rfl trivial ?_
  simp only [Try.ntmps18, List.size_toArray, List.length_cons, List.length_nil, Nat.reduceAdd, Nat.reduceSub, Array.replicate_succ, Array.replicate_zero, List.push_toArray, List.append_toArray, List.nil_append, List.cons_append]
  refine wpIn_wide.2 ?_
  go_wp2_with fail
  refine CO.out.mono ?_
  rintro e w1 ⟨hb1, gv, cv, rfl, ho⟩
  have B1 := Lib.hid hb1
  have O1 := Lib.hid ho
  have hz1 := hb1.size
  clear hb1 ho CO
  go_wp2_with (refine store_blk 76 (.tmp 5) (.tmp 14) w1.heap.size 76 fileZ (fileC (.slice (some ⟨gv, 0, none⟩) xs.length cv) xs.length (mO xs) (k : Int).toNat (getR xs (k : Int))) rfl rfl rfl rfl (Blk.new w1 _ _) (by rw [HLL.out]; rfl) (by rw [HLL.out]; kernel_rfl) (fileC_one _ _ _ _ _ _ _) ?_; intro w2 hr2 hg2)
  have FX : Hid (FileX w.heap.size w2 w1.heap.size m k xs (getR xs (k : Int))) := HO.out _ _ gv cv hz1 hr2 (by
    refine (O1.out.alloc _).kept hg2 (.inr ?_)
    have := own_ne (O1.out.alloc _) (Blk.new w1 76 fileZ) (by decide)
    intro e; exact this e.symm)
  have BW : Hid (Below w.heap.size w w2) := (B1.out.alloc hz1 _).grown hg2 (by simp; omega) (fun k e => by cases e; exact hz1)
  have hgg : w.heap.size ≤ w1.heap.size := hz1
  generalize hg : w1.heap.size = g at *
  generalize getR xs (k : Int) = l at *
  clear hr2 hg2 HO O1 B1 HLL hg hz1
  have F3 := Lib.hid (FX.out.below ((Below.refl w2.heap.size w2).alloc (Nat.le_refl _) (.cells #[.slice none 0 0] 26)))
  have G3 := Lib.hid (Blk.new w2 26 #[.slice none 0 0])
  have B3 := Lib.hid (BW.out.alloc BW.out.size (.cells #[.slice none 0 0] 26))
  have hz2 := BW.out.size
  have hsx := sizeX_le l
  have CS := Lib.hid (size_any _ F3.out)
  obtain ⟨cn, hcn⟩ : ∃ cn, needN (sizeX l) = cn := ⟨_, rfl⟩
  have hc70 : cn ≤ 70 := by rw [← hcn]; exact needN_le hsx
  have HCN : Hid (blocksX xs m l = (List.range cn).map (atF xs m l)) := by show _ = _; unfold blocksX; rw [hcn]; rfl
  have hcd : ((sizeX l : Int) + 128 - 1) / 128 = (cn : Int) := by rw [← hcn]; unfold needN; omega
  generalize sizeX l = sx at *
  clear hcn
  go_wp2_with fail
  refine CS.out.mono ?_
  rintro e w3 ⟨rfl, rfl⟩
  go_wp2_with fail
  refine (first_file (cn : Int) _ F3.out).mono ?_
  rintro e w4 ⟨Bl, Bc, rfl, hbc, hlc, hbl, hbb, hb4⟩
  obtain ⟨gl, hgl⟩ : ∃ gl, w2.heap.size = gl := ⟨_, rfl⟩
  rw [hgl] at G3 hz2
  have B4 := Lib.hid (B3.out.trans (hb4.mono B3.out.size))
  have H0 : Hid (BlI w w4.heap.size gl (atF xs m l) [] w4) := ⟨⟨_, G3.out.below hb4 G3.out.lt, World.ownsRow_nil _ _ _ _⟩, hz2, Nat.le_refl _, B4.out⟩
  have HBL := Lib.hid hbl
  have HBB := Lib.hid hbb
  have HBC : Hid (Bc ≠ gl) := by
    have := G3.out.lt
    show Bc ≠ gl
    omega
  have HBCz : Hid (Bc < w4.heap.size) := hbb.lt
  have hz4 : w.heap.size ≤ w4.heap.size := H0.out.below.size
  rw [hgl]
  clear hbl hbb hb4 B3 F3 G3 FX BW hbc hlc hgl CS B4
  go_wp2_with fail
  refine (wpIn_wide (n := 4)).1 ?_
  apply wpIn_rangeFunc_ownG rfl (by omega) (gf := 95) (lb := #[.pointer (some ⟨Bl, 0, none⟩), .pointer (some ⟨Bc, 0, none⟩)]) rfl trivial (enters_of Try.func95 (by kernel_rfl) rfl)
    (first_stops (atF xs m l) cn 3 hc70 (by omega) Bl Bc w4 HBL.out HBB.out)
    (fun h k => h.trans k) (fun W l o o' _ ho hc _ => KeepB.putObj W l o o' ho hc) (Below.refl _ _) (fun _ => rfl)
    (fun pre W => BlI w w4.heap.size gl (atF xs m l) pre W) (fun _ _ _ => False)
    (BlI.own hz4) (fun _ _ _ _ _ hs _ _ => hs) H0.out
  case hassign =>
    intro l x W K hK
    gi_wp2
    exact hK
  case hbody =>
    rintro ll pre x W hi hlt
    have HSN := Lib.hid (toldF_snoc (atF xs m l) pre x)
    obtain ⟨v, hb, ho⟩ := hi.row
    have hle : (toldF (atF xs m l) pre).length < 70 := by unfold toldF; rw [List.length_map]; exact hlt
    have HV := Lib.hid hb
    have HO := Lib.hid ho
    have HLow := Lib.hid hi.low
    have HB := Lib.hid hi.below
    have HZ := Lib.hid hi.lz
    have c0 := hb.cell 0 rfl
    generalize atF xs m l x.1 = vx at *
    generalize toldF (atF xs m l) pre = ts at *
    clear hi hb ho
    have O4 : Hid ((W.alloc (.cells #[.int .i64 vx] 3)).ownsRow w4.heap.size 3 1 v ts.length (intsC ts)) := World.ownsRow.alloc HO.out _
    have HC : Hid (∀ j u, [Value.int .i64 vx][j]? = some u → (W.alloc (.cells #[.int .i64 vx] 3)).cell? ((⟨W.heap.size, 0, none⟩ : Addr).add j) = some u) := fun j u hu => by
      cases j with
      | zero => cases hu; exact (Blk.new W 3 #[.int .i64 vx]).cell 0 rfl
      | succ j => simp at hu
    have H1 : Hid (∀ u ∈ [Value.int .i64 vx], u.oneCell' = true) := fun u hu => by simp at hu; subst hu; rfl
    have HM : Hid (ts.length + 1 ≤ maxLen) := by show _ ≤ _; unfold maxLen; omega
    have HY : Hid ((ts.length + 1) * 8 ≤ 140737488355328) := by show _ ≤ _; omega
    have G4 := Lib.hid (HV.out.alloc (.cells #[.int .i64 vx] 3))
    have B4 := Lib.hid (HB.out.alloc HB.out.size (.cells #[.int .i64 vx] 3))
    have hz5 : Hid (w4.heap.size ≤ (W.alloc (.cells #[.int .i64 vx] 3)).heap.size) := by show _ ≤ _; rw [World.size_alloc]; have := HZ.out; omega
    have K4 : Hid (KeepB Bc W (W.alloc (.cells #[.int .i64 vx] 3))) := KeepB.grown (World.grownBy_alloc W _ none) (by simp)
    have S4 : Hid (KeepsOthers W (W.alloc (.cells #[.int .i64 vx] 3))) := KeepsOthers.alloc W _
    have HRow : Hid (∀ j o, v.ownBlock = some j → (W.alloc (.cells #[.int .i64 vx] 3)).heap[j]? = some o → o.isCells = true) := fun j o e hj => by
      rcases O4.out.2 with ⟨rfl, _⟩ | ⟨gq, cap, cur, rfl, _, hh, _⟩
      · cases e
      · cases e; rw [hh] at hj; cases hj; rfl
    gi_wp2_with (gi_at_builtin; refine wpListIn_append_own _ rfl (.tmp 25) (.tmp 27) 26 rfl w4.heap.size 3 i0 (.int .i64 0) 1 8 Try.underlying26 I0.out.1 I0.out.2.1 I0.out.2.2.1 I0.out.2.2.2 rfl (by decide) _ ts.length (intsC ts) rfl O4.out ⟨W.heap.size, 0, none⟩ 1 1 [.int .i64 vx] rfl rfl HC.out H1.out HM.out HY.out hz5.out ?_; intro v9 w9 own hg hv; obtain ⟨g', cap', rfl⟩ := ownsRow_succ own; have G9 := G4.out.grown hg (own_ne O4.out G4.out (by decide)); have c9 := G9.cell 0 rfl; have c9f := G9.frozen 0)
    have B9 := B4.out.grown hg B4.out.size (fun j e => Nat.le_trans hz4 ((own_row O4.out) j e))
    have hz9 := hg.size
    have K9 : KeepB Bc W w9 := K4.out.trans (KeepB.grown hg (by
      intro e
      have := own_row O4.out Bc e.symm
      have := HBCz.out
      omega))
    have S9 : KeepsOthers W w9 := S4.out.trans (KeepsOthers.of_grownBy hg (fun j o e hj => HRow.out j o e hj))
    have hgr := only_setCell (World.grownBy.refl w9 (some gl)) 0 (.slice (some ⟨g', 0, none⟩) (ts.length + 1) cap')
    have hne := G9.ne (own_blkT own).choose_spec (by decide)
    refine ⟨(S9.trans (KeepsOthers.setCell _ _ _)).from _, K9.trans (KeepB.grown hgr (by intro e; exact HBC.out (Option.some.inj e))), ?_⟩
    refine ⟨⟨.slice (some ⟨g', 0, none⟩) (ts.length + 1) cap', ?_, ?_⟩, HLow.out, ?_, B9.grown hgr B9.size (fun j e => by cases e; exact HLow.out)⟩
    · have := G9.set_ 0 (.slice (some ⟨g', 0, none⟩) (ts.length + 1) cap')
      exact this
    · rw [HSN.out, intsC_snoc, List.length_append]
      exact own.kept hgr (.inr (by intro e; exact hne (Option.some.inj e).symm))
    · have := hgr.size
      have := hz5.out
      omega
  case hdone =>
    rintro D ys W hD rfl hi hK
    obtain ⟨v, hb, ho⟩ := hi.row
    have HV := Lib.hid hb
    have HO := Lib.hid ho
    have HK := Lib.hid hK
    have HB := Lib.hid hi.below
    have c0 := hb.cell 0 rfl
    rw [toldF_all _ _ hc70, ← HCN.out, ← HW0.out] at HO
    clear hi hb ho hK
    go_wp2
    refine ⟨by simp, .inl ⟨_, _, rfl, run_takeDeferred HK.out, ?_⟩⟩
    refine ⟨_, results_tmp rfl _ _ _, ⟨v, rfl, ?_⟩, ?_⟩
    · exact own_low (own_own () HO.out (grownBy_putObj' _ D _) (fun r e => by cases e; exact ⟨_, HK.out, rfl⟩)) hz4
    · exact HB.out.trans (belowK_b (w := w4) (by omega) W D _ _ (by omega) HK.out rfl rfl)
  case hstop =>
    rintro D c pre W _ _ h _
    exact h.elim
set_option maxHeartbeats 4000000 in
theorem blocks_none (A : Option Addr) (c : Nat) (xs : List ByteArray) (n : Int) (w : World) (hx : xs.length ≤ 1000000) (h : RowAt w w.heap.size A (xs.map .string)) (h0 : ¬ inoE xs n = 0) :
    Calls Try.prog 18 #[.slice A xs.length c, .int .i64 n] w fun e w' => (∃ v, e = .returned v ∧ OwnInts (blocksO xs n) w v w') ∧ Below w.heap.size w w' := by
  have CO := Lib.hid (opened_any A c xs n w hx h)
  unfold OpenPost at CO
  simp only [if_neg h0] at CO
  have HW0 : Hid (blocksO xs n = []) := by show _ = _; unfold blocksO; rw [if_pos h0]
  have hn0 : (inoE xs n != 0) = true := by simpa using h0
  generalize inoE xs n = ie at *
  clear h0
  go_enter Try.func18, Try.ntmps18
  go_wp2_with fail
  refine CO.out.mono ?_
  rintro e w1 ⟨hb1, rfl⟩
  have B1 := Lib.hid hb1
  have hz1 := hb1.size
  clear hb1 CO
  go_wp2_with (refine store_blk 76 (.tmp 5) (.tmp 14) w1.heap.size 76 fileZ fileZ rfl rfl rfl rfl (Blk.new w1 _ _) rfl (by kernel_rfl) fileZ_one ?_; intro w2 hr2 hg2)
  have BW : Hid (Below w.heap.size w w2) := (B1.out.alloc hz1 _).grown hg2 (by simp; omega) (fun k e => by cases e; exact hz1)
  go_ret
  rw [HW0.out]
  exact ⟨⟨_, rfl, World.ownsRow_nil _ _ _ _⟩, BW.out⟩
theorem blocks_any (A : Option Addr) (c : Nat) (xs : List ByteArray) (n : Int) (w : World) (hx : xs.length ≤ 1000000) (h : RowAt w w.heap.size A (xs.map .string)) :
    Calls Try.prog 18 #[.slice A xs.length c, .int .i64 n] w fun e w' => (∃ v, e = .returned v ∧ OwnInts (blocksO xs n) w v w') ∧ Below w.heap.size w w' := by
  by_cases h0 : inoE xs n = 0
  · exact blocks_ok A c xs n w hx h h0
  · exact blocks_none A c xs n w hx h h0
end Go.Proofs.Ytjmafegckfijbaa
