/-
  What inode.fits computes.
-/
import Derived.Test.YtoanladhikdcaaaGreatTold
namespace Go.Proofs.YtoanladhikdcaaaGreat
open Go.RowKit Go.Shelf
set_option linter.unusedVariables false
set_option linter.unusedSimpArgs false
set_option maxRecDepth 100000
attribute [local go_sem] Oper.semAt_some
/-- an inode's cells, of any numbers -/
def intC (l : List Int) : Array Value := (l.map fun k : Int => Value.int .i64 k).toArray
theorem intC_size (l : List Int) : (intC l).size = l.length := by unfold intC; simp
theorem intC_get (l : List Int) (i : Nat) (h : i < l.length) : (intC l)[i]? = some (.int .i64 l[i]) := by unfold intC; simp [h]
def fitB (l : List Int) (i : Fin 12) : Bool := decide (0 ≤ l.getD (fof i) 0 ∧ l.getD (fof i) 0 < 256 ^ fsz i)
/-- may an inode's numbers be? -/
def fitsR (l : List Int) : Bool := allF.all (fitB l)
structure FitI (w : World) (gx gr : Nat) (l : List Int) (pre : List (Fin 12)) (W : World) : Prop where
  fx : Blk W gx 35 (intC l)
  fr : Blk W gr 4 #[.bool false]
  ok : pre.all (fitB l) = true
  below : Below w.heap.size w W
structure FitX (w : World) (gr : Nat) (l : List Int) (W : World) : Prop where
  fr : Blk W gr 4 #[.bool false]
  no : fitsR l = false
  below : Below w.heap.size w W
theorem FitI.own {w : World} {gx gr : Nat} {l : List Int} {B : Nat} (hB : w.heap.size ≤ B) : OwnFrom B (fun pre W => FitI w gx gr l pre W) := fun s X Y row hs hg hr =>
  have hr' : ∀ r, row = some r → ∃ o : Obj, X.heap[r]? = some o ∧ o.isCells = false := fun r e => (hr r e).2
  ⟨Blk.own gx _ (fun _ => _) s X Y row hs.fx hg hr', Blk.own gr _ (fun _ => _) s X Y row hs.fr hg hr', hs.ok, ownFrom_below (Nat.le_refl _) hB s X Y row hs.below hg hr⟩
theorem FitX.own {w : World} {gr : Nat} {l : List Int} {B : Nat} (hB : w.heap.size ≤ B) : OwnFrom B (fun (_ : List (Fin 12)) W => FitX w gr l W) := fun s X Y row hs hg hr =>
  have hr' : ∀ r, row = some r → ∃ o : Obj, X.heap[r]? = some o ∧ o.isCells = false := fun r e => (hr r e).2
  ⟨Blk.own gr _ (fun _ => _) s X Y row hs.fr hg hr', hs.no, ownFrom_below (Nat.le_refl _) hB s X Y row hs.below hg hr⟩
theorem FitI.later {w : World} {gx gr : Nat} {l : List Int} {pre : List (Fin 12)} {X Y : World} (h : FitI w gx gr l pre X) (hb : Below X.heap.size X Y) : FitI w gx gr l pre Y :=
  ⟨h.fx.below hb h.fx.lt, h.fr.below hb h.fr.lt, h.ok, h.below.trans (hb.mono h.below.size)⟩
theorem fits_of_bad {l : List Int} {i : Fin 12} (h : fitB l i = false) : fitsR l = false := by
  unfold fitsR
  rw [List.all_eq_false]
  refine ⟨i, ?_, by simp [h]⟩
  have : ∀ i : Fin 12, i ∈ allF := by decide
  exact this i
theorem fsz_cases : ∀ i, fsz i = 1 ∨ fsz i = 2 ∨ fsz i = 4 := by decide
set_option maxHeartbeats 4000000 in
theorem fits_any (l : List Int) (w : World) (hl : l.length = 12) (hr : ∀ z ∈ l, -9223372036854775808 ≤ z ∧ z ≤ 9223372036854775807) :
    Calls Tryz.prog 95 #[.agg (intC l)] w fun e w' => e = .returned (.bool (fitsR l)) ∧ Below w.heap.size w w' := by
  have HL := Lib.hid hl
  have HR : Hid (∀ i : Fin 12, ∃ z, l.getD (fof i) 0 = z ∧ l[fof i]? = some z ∧ -9223372036854775808 ≤ z ∧ z ≤ 9223372036854775807) := fun i => by
    have hi : fof i < l.length := by rw [hl]; exact fof_lt i
    refine ⟨l[fof i], by simp [List.getD, hi], by simp [hi], hr _ (List.getElem_mem hi)⟩
  clear hl hr
  refine (callsIn_wide (n := 4)).1 ?_
  refine callsIn_of_wp_marks Tryz.func95 rfl trivial ?_
  simp only [Tryz.ntmps95, List.size_toArray, List.length_cons, List.length_nil, Nat.reduceAdd, Nat.reduceSub, Array.replicate_succ, Array.replicate_zero, List.push_toArray, List.append_toArray, List.nil_append, List.cons_append]
  refine wpIn_wide.2 ?_
  go_wp2_with fail
  refine (fields_any _ _).mono ?_
  rintro e w' ⟨rfl, rfl⟩
  go_wp2_with fail
  obtain ⟨W0, hW0⟩ : ∃ W0, ((w.alloc (Obj.cells (intC l) 35)).alloc (Obj.cells #[Value.bool false] 4)).alloc (.cells #[.pointer (some ⟨w.heap.size, 0, none⟩)] 103) = W0 := ⟨_, rfl⟩
  have HI0 : Hid (FitI w w.heap.size (w.heap.size + 1) l [] W0) := by
    rw [← hW0]
    refine ⟨((Blk.new w _ _).alloc _).alloc _, ?_, rfl, (((Below.refl w.heap.size w).alloc (Nat.le_refl _) _).alloc (by simp) _).alloc (by simp; omega) _⟩
    have := (Blk.new (w.alloc (Obj.cells (intC l) 35)) 4 #[.bool false]).alloc (.cells #[.pointer (some ⟨w.heap.size, 0, none⟩)] 103)
    simp only [World.size_alloc] at this
    exact this
  have HBn : Hid (Blk W0 (w.heap.size + 1 + 1) 103 #[.pointer (some ⟨w.heap.size, 0, none⟩)]) := by
    rw [← hW0]
    have := (Blk.new ((w.alloc (Obj.cells (intC l) 35)).alloc (Obj.cells #[Value.bool false] 4)) 103 #[.pointer (some ⟨w.heap.size, 0, none⟩)])
    simp only [World.size_alloc] at this
    exact this
  have hz0 : W0.heap.size = w.heap.size + 3 := by rw [← hW0]; simp
  rw [hW0]
  clear hW0
  refine (wpIn_wide (n := 4)).1 ?_
  refine wpIn_rangeFunc_ownH rfl (by omega) (gf := 86) (lb := #[.pointer (some ⟨w.heap.size + 1 + 1, 0, none⟩)]) rfl trivial (enters_of Tryz.func86 (by kernel_rfl) rfl)
    (fields_stops 3 (by omega) (w.heap.size + 1 + 1) w.heap.size W0 HBn.out)
    (fun h k => h.trans k) (fun W l o o' _ ho hc _ => KeepT.putObj W l o o' ho hc) (Below.refl _ _) (fun _ => rfl)
    (fun pre W => FitI w w.heap.size (w.heap.size + 1) l pre W) (fun c _ W => c = .ret ∧ FitX w (w.heap.size + 1) l W)
    (FitI.own (by omega)) (fun c s X Y row hs hg hr => ⟨hs.1, FitX.own (by omega) s X Y row hs.2 hg hr⟩) HI0.out
    (fun x a' W => ∃ Bx, Blk W Bx 106 #[.int .i64 (fsz x : Nat), .pointer (some ⟨w.heap.size, fof x, none⟩)] ∧ a' = { tmps := #[Value.agg (intC l), Value.pointer (some ⟨w.heap.size, 0, none⟩), Value.pointer (some ⟨w.heap.size + 1, 0, none⟩), .pointer (some ⟨Bx, 0, none⟩), Value.func (Fn.func 86) #[] #[Value.pointer (some ⟨w.heap.size + 1 + 1, 0, none⟩)], .agg #[.int .i64 (fsz x : Nat), .pointer (some ⟨w.heap.size, fof x, none⟩)], undef, undef, undef, undef, undef, undef, undef, undef, undef, undef, undef, undef, undef, undef, undef, undef, undef], defers := [] })
    (fun x a' s X Y row hs hg hr => by obtain ⟨Bx, h1, h2⟩ := hs; exact ⟨Bx, Blk.own Bx _ (fun (_ : Unit) => _) s X Y row h1 hg (fun r e => (hr r e).2), h2⟩)
    ?assign ?body ?done ?stop
  case assign =>
    rintro l pre x W K hi hK
    dsimp only [fieldV]
    gi_wp2
    exact hK _ _ ((KeepsOthers.alloc _ _).from _) (KeepT.alloc _ _) (hi.later ((Below.refl _ _).alloc (Nat.le_refl _) _)) ⟨W.heap.size, Blk.new W _ _, rfl⟩
  case body =>
    rintro lp pre x a' W hlp ⟨r0, hr0⟩ hi ⟨Bx, bX, rfl⟩ hlt
    obtain ⟨v, hv, hg, hv1, hv2⟩ := HR.out x
    have HI := Lib.hid hi
    have BX := Lib.hid bX
    have HX : Hid (Blk W w.heap.size 35 (intC l)) := hi.fx
    have u3 : ∀ u : Ext W, u.val.cell? ⟨w.heap.size, fof x, none⟩ = some (.int .i64 v) := fun u => u.cell (HX.out.cell (fof x) (by unfold intC; simp [hg]))
    have HFB : Hid (fitB l x = decide (0 ≤ v ∧ v < 256 ^ fsz x)) := by show fitB l x = _; unfold fitB; rw [hv]
    have HC := fsz_cases x
    clear hr0 hi bX hv hg
    generalize fsz x = z at *
    generalize fof x = f at *
    have u1 : ∀ u : Ext W, u.val.cell? ⟨Bx, 1, none⟩ = some (.pointer (some ⟨w.heap.size, f, none⟩)) := fun u => u.cell (BX.out.cell 1 rfl)
    have u2 : ∀ u : Ext W, u.val.cell? ⟨Bx, 0, none⟩ = some (.int .i64 (z : Int)) := fun u => u.cell (BX.out.cell 0 rfl)
    by_cases hneg : v < 0
    · have HNO : Hid (fitB l x = false) := by show _ = _; rw [HFB.out]; simp; omega
      clear HC
      gi_wp2_with fail
      refine wpIn_round_ext (by kernel_rfl) (by kernel_rfl) (by kernel_rfl) ?_
      repeat (go_big_quiet_step (fail))
      refine wpQuiet_nil ?_
      rintro _ ⟨u, rfl⟩
      have HI2 := Lib.hid (HI.out.later u.below)
      have UB := Lib.hid u.below
      generalize u.val = W2 at *
      clear u1 u2 u3
      have c1 : W2.cell? ⟨w.heap.size + 1, 0, none⟩ = some (.bool false) := HI2.out.fr.cell 0 rfl
      have c2 : W2.frozen? ⟨w.heap.size + 1, 0, none⟩ = false := HI2.out.fr.frozen 0
      gi_wp2
      exact ⟨((keeps_below UB.out).trans (KeepsOthers.setCell _ _ _)).from _, rfl, HI2.out.fr.set_ 0 _, fits_of_bad HNO.out, HI2.out.below.setCell (by simp) _⟩
    · have w1 : IntKind.u64.wrap v = v := IntWalk.u64_in _ (by omega)
      have hneg' : decide (v < 0) = false := by simpa using hneg
      rcases HC with rfl | rfl | rfl
      · by_cases hfit : v < 256
        · have t1 : (v / 256 != 0) = false := by simp; omega
          have HYES : Hid (fitB l x = true) := by show _ = _; rw [HFB.out]; simp; omega
          gi_wp2_with fail
          refine wpIn_round_ext (by kernel_rfl) (by kernel_rfl) (by kernel_rfl) ?_
          repeat (go_big_quiet_step (fail))
          refine wpQuiet_nil ?_
          rintro _ ⟨u, rfl⟩
          have HI2 := Lib.hid (HI.out.later u.below)
          have UB := Lib.hid u.below
          generalize u.val = W2 at *
          clear u1 u2 u3
          gi_wp2
          exact ⟨(keeps_below UB.out).from _, KeepT.below UB.out, HI2.out.fx, HI2.out.fr, by rw [List.all_append, HI2.out.ok]; simp [HYES.out], HI2.out.below⟩
        · have t1 : (v / 256 != 0) = true := by simp; omega
          have HNO : Hid (fitB l x = false) := by show _ = _; rw [HFB.out]; simp; omega
          gi_wp2_with fail
          refine wpIn_round_ext (by kernel_rfl) (by kernel_rfl) (by kernel_rfl) ?_
          repeat (go_big_quiet_step (fail))
          refine wpQuiet_nil ?_
          rintro _ ⟨u, rfl⟩
          have HI2 := Lib.hid (HI.out.later u.below)
          have UB := Lib.hid u.below
          generalize u.val = W2 at *
          clear u1 u2 u3
          have c1 : W2.cell? ⟨w.heap.size + 1, 0, none⟩ = some (.bool false) := HI2.out.fr.cell 0 rfl
          have c2 : W2.frozen? ⟨w.heap.size + 1, 0, none⟩ = false := HI2.out.fr.frozen 0
          gi_wp2
          exact ⟨((keeps_below UB.out).trans (KeepsOthers.setCell _ _ _)).from _, rfl, HI2.out.fr.set_ 0 _, fits_of_bad HNO.out, HI2.out.below.setCell (by simp) _⟩
      · by_cases hfit : v < 65536
        · have t1 : (v / 65536 != 0) = false := by simp; omega
          have HYES : Hid (fitB l x = true) := by show _ = _; rw [HFB.out]; simp; omega
          gi_wp2_with fail
          refine wpIn_round_ext (by kernel_rfl) (by kernel_rfl) (by kernel_rfl) ?_
          repeat (go_big_quiet_step (fail))
          refine wpQuiet_nil ?_
          rintro _ ⟨u, rfl⟩
          have HI2 := Lib.hid (HI.out.later u.below)
          have UB := Lib.hid u.below
          generalize u.val = W2 at *
          clear u1 u2 u3
          gi_wp2
          exact ⟨(keeps_below UB.out).from _, KeepT.below UB.out, HI2.out.fx, HI2.out.fr, by rw [List.all_append, HI2.out.ok]; simp [HYES.out], HI2.out.below⟩
        · have t1 : (v / 65536 != 0) = true := by simp; omega
          have HNO : Hid (fitB l x = false) := by show _ = _; rw [HFB.out]; simp; omega
          gi_wp2_with fail
          refine wpIn_round_ext (by kernel_rfl) (by kernel_rfl) (by kernel_rfl) ?_
          repeat (go_big_quiet_step (fail))
          refine wpQuiet_nil ?_
          rintro _ ⟨u, rfl⟩
          have HI2 := Lib.hid (HI.out.later u.below)
          have UB := Lib.hid u.below
          generalize u.val = W2 at *
          clear u1 u2 u3
          have c1 : W2.cell? ⟨w.heap.size + 1, 0, none⟩ = some (.bool false) := HI2.out.fr.cell 0 rfl
          have c2 : W2.frozen? ⟨w.heap.size + 1, 0, none⟩ = false := HI2.out.fr.frozen 0
          gi_wp2
          exact ⟨((keeps_below UB.out).trans (KeepsOthers.setCell _ _ _)).from _, rfl, HI2.out.fr.set_ 0 _, fits_of_bad HNO.out, HI2.out.below.setCell (by simp) _⟩
      · by_cases hfit : v < 4294967296
        · have t1 : (v / 4294967296 != 0) = false := by simp; omega
          have HYES : Hid (fitB l x = true) := by show _ = _; rw [HFB.out]; simp; omega
          gi_wp2_with fail
          refine wpIn_round_ext (by kernel_rfl) (by kernel_rfl) (by kernel_rfl) ?_
          repeat (go_big_quiet_step (fail))
          refine wpQuiet_nil ?_
          rintro _ ⟨u, rfl⟩
          have HI2 := Lib.hid (HI.out.later u.below)
          have UB := Lib.hid u.below
          generalize u.val = W2 at *
          clear u1 u2 u3
          gi_wp2
          exact ⟨(keeps_below UB.out).from _, KeepT.below UB.out, HI2.out.fx, HI2.out.fr, by rw [List.all_append, HI2.out.ok]; simp [HYES.out], HI2.out.below⟩
        · have t1 : (v / 4294967296 != 0) = true := by simp; omega
          have HNO : Hid (fitB l x = false) := by show _ = _; rw [HFB.out]; simp; omega
          gi_wp2_with fail
          refine wpIn_round_ext (by kernel_rfl) (by kernel_rfl) (by kernel_rfl) ?_
          repeat (go_big_quiet_step (fail))
          refine wpQuiet_nil ?_
          rintro _ ⟨u, rfl⟩
          have HI2 := Lib.hid (HI.out.later u.below)
          have UB := Lib.hid u.below
          generalize u.val = W2 at *
          clear u1 u2 u3
          have c1 : W2.cell? ⟨w.heap.size + 1, 0, none⟩ = some (.bool false) := HI2.out.fr.cell 0 rfl
          have c2 : W2.frozen? ⟨w.heap.size + 1, 0, none⟩ = false := HI2.out.fr.frozen 0
          gi_wp2
          exact ⟨((keeps_below UB.out).trans (KeepsOthers.setCell _ _ _)).from _, rfl, HI2.out.fr.set_ 0 _, fits_of_bad HNO.out, HI2.out.below.setCell (by simp) _⟩
  case done =>
    rintro D ys W hD rfl hi hK
    have HI := Lib.hid hi
    have HK := Lib.hid hK
    have c1 : W.cell? ⟨w.heap.size + 1, 0, none⟩ = some (.bool false) := hi.fr.cell 0 rfl
    have c2 : W.frozen? ⟨w.heap.size + 1, 0, none⟩ = false := hi.fr.frozen 0
    clear hi hK
    go_wp2
    obtain ⟨W2, hW2⟩ : ∃ W2, W.setCell ⟨w.heap.size + 1, 0, none⟩ (.bool true) = W2 := ⟨_, rfl⟩
    have hg2 : W.grownBy W2 (some (w.heap.size + 1)) := hW2 ▸ only_setCell (World.grownBy.refl W _) 0 _
    have hr2 : Blk W2 (w.heap.size + 1) 4 #[.bool true] := hW2 ▸ HI.out.fr.set_ 0 _
    have hK2 : W2.heap[D]? = some (.deferred (some [])) := (hg2.block D (Array.getElem?_eq_some_iff.1 HK.out).1 (by intro e; have := Option.some.inj e; omega)).trans HK.out
    have hB2 : Below w.heap.size w W2 := HI.out.below.grown hg2 HI.out.below.size (fun j e => by have := Option.some.inj e; omega)
    have hr3 : Blk (W2.putObj D (.deferred none)) (w.heap.size + 1) 4 #[.bool true] := hr2.grown (grownBy_putObj' W2 D _) (by intro e; have := Option.some.inj e; omega)
    rw [hW2]
    refine ⟨by simp, .inl ⟨_, _, rfl, run_takeDeferred hK2, ?_⟩⟩
    have hok : fitsR l = true := HI.out.ok
    refine ⟨.bool true, ?_, by rw [hok], hB2.trans (belowK_b (w := W0) (by omega) W2 D _ _ (by omega) hK2 rfl rfl)⟩
    have c3 := hr3.cell 0 rfl
    simp [results, Tryz.results95, go_sem, c3]
  case stop =>
    rintro D c pre W hD _ ⟨rfl, hx⟩ hK
    refine wpIn_wide.2 ?_
    go_wp2
    have hr3 : Blk (W.putObj D (.deferred none)) (w.heap.size + 1) 4 #[.bool false] := hx.fr.grown (grownBy_putObj' W D _) (by intro e; have := Option.some.inj e; omega)
    refine ⟨by simp, .inl ⟨_, _, rfl, run_takeDeferred hK, ?_⟩⟩
    refine ⟨.bool false, ?_, by rw [hx.no], hx.below.trans (belowK_b (w := W0) (by omega) W D _ _ (by omega) hK rfl rfl)⟩
    have c3 := hr3.cell 0 rfl
    simp [results, Tryz.results95, go_sem, c3]
end Go.Proofs.YtoanladhikdcaaaGreat
