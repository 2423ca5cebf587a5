/-
  Joined in one text: ExtN, ExtI, ExtS, ExtT, ExtCnt, ExtBl, ExtRdA, ExtRd, QuoA.
-/
import Derived.Test.YtoanladhikdcaaaGreatExtA
import Derived.Test.YtoanladhikdcaaaGreatInfra
import Derived.Test.YtoanladhikdcaaaGreatExtW
import Derived.OwnWalkIn
import Derived.Test.YtoanladhikdcaaaGreatShelf
import Derived.Lib.OthersKept
import Derived.RangeFuncCalls
namespace Go.Proofs.YtoanladhikdcaaaGreat
open Go.RowKit Go.Shelf
set_option linter.unusedVariables false
set_option linter.unusedSimpArgs false
set_option maxRecDepth 100000
attribute [local go_sem] Oper.semAt_some
/-- seventy numbers, the first k of them as they are told -/
def numC (f : Nat → Int) (k : Nat) : Array Value := ((List.range 70).map fun j => Value.int .i64 (if j < k then f j else 0)).toArray
theorem numC_size (f : Nat → Int) (k : Nat) : (numC f k).size = 70 := by unfold numC; simp
theorem numC_get (f : Nat → Int) (k j : Nat) (hj : j < 70) : (numC f k)[j]? = some (.int .i64 (if j < k then f j else 0)) := by
  unfold numC
  rw [List.getElem?_toArray, List.getElem?_map, List.getElem?_range hj]; rfl
theorem numC_set (f : Nat → Int) (k : Nat) : (numC f k).setIfInBounds k (.int .i64 (f k)) = numC f (k + 1) := by
  apply Array.ext_getElem?
  intro j
  rw [Array.getElem?_setIfInBounds]
  by_cases hj : j < 70
  · rw [numC_get f (k + 1) j hj]
    by_cases e : k = j
    · subst e
      rw [if_pos rfl, if_pos (by rw [numC_size]; exact hj), if_pos (by omega)]
    · rw [if_neg e, numC_get f k j hj]
      by_cases h : j < k
      · rw [if_pos h, if_pos (by omega)]
      · rw [if_neg h, if_neg (by omega)]
  · rw [Array.getElem?_eq_none (by rw [numC_size]; omega)]
    by_cases e : k = j
    · subst e
      rw [if_pos rfl, if_neg (by rw [numC_size]; exact hj), Array.getElem?_eq_none (by rw [numC_size]; omega)]
    · rw [if_neg e, Array.getElem?_eq_none (by rw [numC_size]; omega)]
theorem numC_one (f : Nat → Int) (k : Nat) : ∀ v ∈ numC f k, v.oneCell' = true := by
  intro v hv
  unfold numC at hv
  simp at hv
  obtain ⟨j, _, rfl⟩ := hv
  rfl
theorem numC_zero (f : Nat → Int) : numC f 0 = Array.replicate 70 (.int .i64 0) := by
  unfold numC
  simp only [Nat.not_lt_zero, if_false]
  rfl
theorem numC_lit (f : Nat → Int) : Tryz.zeroCells130 = numC f 0 := by
  rw [numC_zero]
  kernel_rfl
theorem seventy_info : (Tryz.prog.info? 130).map (·.size) = some 70 := by kernel_rfl
theorem idx_num (f : Nat → Int) (w : World) (k : Nat) (hk : k < 70) : (Instr.index 130 (.agg (numC f 70)) (.int .i64 k)).run Tryz.prog w = .ok (.int .i64 (f k)) w := by
  have h1 : (0 : Int) ≤ (k : Int) ∧ (k : Int) < 70 := by omega
  have h2 := numC_get f 70 k hk
  rw [if_pos hk] at h2
  have h3 : (numC f 70)[k]'(by rw [numC_size]; exact hk) = Value.int .i64 (f k) := by
    rw [Array.getElem?_eq_getElem (by rw [numC_size]; exact hk)] at h2
    exact Option.some.inj h2
  unfold Instr.index
  simp [go_sem, run_underlying Tryz.underlying130, h1, hk, h2, h3, numC_size]
section
variable {B : Nat} {g m n : Nat} {V : List ByteArray} {l : List Nat}
/-- the blocks, as they are told -/
def atF (V : List ByteArray) (m : Nat) (l : List Nat) (j : Nat) : Int := atI (atX V m l j)
set_option maxHeartbeats 4000000 in
theorem numbers_any (w : World) (h : FileX B w g m n V l) : Calls Tryz.prog 87 #[.pointer (some ⟨g, 0, none⟩)] w fun e w' => e = .returned (.agg (numC (atF V m l) 70)) ∧ Below w.heap.size w w' := by
  have HX := Lib.hid h
  clear h
  go_enter Tryz.func87, Tryz.ntmps87
  go_wp2_with fail
  rw [numC_lit (atF V m l)]
  obtain ⟨W0, hW0⟩ : ∃ W0, ((w.alloc (.cells (numC (atF V m l) 0) 130)).alloc (.cells (numC (atF V m l) 0) 130)) = W0 := ⟨_, rfl⟩
  have G0 : Hid (Blk W0 w.heap.size 130 (numC (atF V m l) 0)) := hW0 ▸ (Blk.new w _ _).alloc _
  have G1 : Hid (Blk W0 (w.heap.size + 1) 130 (numC (atF V m l) 0)) := by
    rw [← hW0]
    have := Blk.new (w.alloc (.cells (numC (atF V m l) 0) 130)) 130 (numC (atF V m l) 0)
    rw [World.size_alloc] at this
    exact this
  have B0 : Hid (Below w.heap.size w W0) := hW0 ▸ ((Below.refl w.heap.size w).alloc (Nat.le_refl _) _).alloc (by simp) _
  rw [hW0]
  clear hW0
  go_loopw [5] (fun i wr => ∃ (k : Nat), k ≤ 70 ∧ i = .int .i64 k ∧ Hid (Blk wr (w.heap.size + 1) 130 (numC (atF V m l) k)) ∧ Hid (Blk wr w.heap.size 130 (numC (atF V m l) 0)) ∧ Hid (Below w.heap.size w wr)) (fun i _ => 70 - (intOf i).toNat)
  case atStart => exact ⟨0, by omega, rfl, G1, G0, B0⟩
  case round =>
    obtain ⟨k, hk, rfl, GK, GR, BK⟩ := hrel
    by_cases hlt : k < 70
    · have CA := Lib.hid (at_any k wr hlt (HX.out.below BK.out))
      have HF : Hid (atF V m l k = atI (atX V m l k)) := rfl
      rw [← HF.out] at CA
      have HS := Lib.hid (numC_set (atF V m l) k)
      generalize atF V m l k = v at *
      have i1 : (k : Int) < 70 := by omega
      have i2 : (0 : Int) ≤ (k : Int) := by omega
      go_wp2_with fail
      refine CA.out.mono ?_
      rintro e w1 ⟨rfl, hb1⟩
      have G1 := Lib.hid (GK.out.below hb1 GK.out.lt)
      have G2 := Lib.hid (GR.out.below hb1 GR.out.lt)
      have B1 := Lib.hid (BK.out.trans (hb1.mono BK.out.size))
      have c1 := G1.out.cell k (numC_get _ _ _ hlt)
      have c1f := G1.out.frozen k
      generalize (if k < k then _ else _ : Int) = y at c1
      clear hb1 CA GK GR BK
      go_wp2
      have hgr := only_setCell (World.grownBy.refl w1 (some (w.heap.size + 1))) k (.int .i64 v)
      have G3 : Hid (Blk (w1.setCell ⟨w.heap.size + 1, k, none⟩ (.int .i64 v)) (w.heap.size + 1) 130 (numC (atF V m l) (k + 1))) := by rw [← HS.out]; exact G1.out.set_ k _
      have G4 := Lib.hid (G2.out.grown hgr (by intro e; have := Option.some.inj e; omega))
      have B3 := Lib.hid (B1.out.grown hgr B1.out.size (fun j e => by have := Option.some.inj e; omega))
      go_roundw
      case rel => exact ⟨k + 1, by omega, by go_num, G3, G4, B3⟩
      case measure => simp [intOf]; omega
    · obtain rfl : k = 70 := by omega
      go_wp2_with (first
        | (refine load_blk 130 (.tmp 3) (w.heap.size + 1) 130 (numC (atF V m l) 70) _ rfl rfl rfl GK.out Tryz.underlying130 rfl (by rw [numC_size]; exact seventy_info) ?_)
        | (refine store_blk 130 (.tmp 2) (.tmp 14) w.heap.size 130 (numC (atF V m l) 0) (numC (atF V m l) 70) rfl rfl rfl rfl GR.out (by rw [numC_size, numC_size]) (by rw [numC_size]; exact seventy_info) (numC_one _ _) ?_; intro w2 hr2 hg2))
      refine bodyPost_ret (results_cell_row rfl _ _ w.heap.size _ _ (0, 0) _ rfl hr2 Tryz.underlying130 rfl (by rw [numC_size]; exact seventy_info)) rfl ⟨rfl, ?_⟩
      exact BK.out.grown hg2 BK.out.size (fun j e => by have := Option.some.inj e; omega)
set_option maxHeartbeats 4000000 in
theorem first_file (count : Int) (w : World) (h : FileX B w g m n V l) : Calls Tryz.prog 63 #[.pointer (some ⟨g, 0, none⟩), .int .i64 count] w fun e w' =>
    ∃ Bl Bc, e = .returned (.func (Fn.func 88) #[] #[.pointer (some ⟨Bl, 0, none⟩), .pointer (some ⟨Bc, 0, none⟩)]) ∧ w.heap.size ≤ Bc ∧ Bc < Bl ∧ Blk w' Bl 130 (numC (atF V m l) 70) ∧ Blk w' Bc 3 #[.int .i64 count] ∧ Below w.heap.size w w' := by
  have HX := Lib.hid h
  clear h
  have G0 := Lib.hid (Blk.new w 3 #[.int .i64 count])
  have B0 := Lib.hid ((Below.refl w.heap.size w).alloc (Nat.le_refl _) (.cells #[.int .i64 count] 3))
  have CN := Lib.hid (numbers_any _ (HX.out.below ((Below.refl w.heap.size w).alloc (Nat.le_refl _) (.cells #[.int .i64 count] 3))))
  go_enter Tryz.func63, Tryz.ntmps63
  go_wp2_with fail
  refine CN.out.mono ?_
  rintro e w1 ⟨rfl, hb1⟩
  have G1 := Lib.hid (G0.out.below hb1 G0.out.lt)
  have B1 := Lib.hid (B0.out.trans (hb1.mono B0.out.size))
  have hlt := G1.out.lt
  clear hb1 CN G0 B0
  go_wp2_with (refine store_blk 130 (.tmp 5) (.tmp 7) w1.heap.size 130 Tryz.zeroCells130 (numC (atF V m l) 70) rfl rfl rfl rfl (Blk.new w1 _ _) (by rw [numC_size]; kernel_rfl) (by rw [numC_size]; exact seventy_info) (numC_one _ _) ?_; intro w2 hr2 hg2)
  go_ret
  refine ⟨_, _, rfl, Nat.le_refl _, hlt, hr2, (G1.out.alloc _).grown hg2 (by intro e; have := Option.some.inj e; omega), ?_⟩
  exact (B1.out.alloc B1.out.size _).grown hg2 (by simp; omega) (fun j e => by have := Option.some.inj e; have := B1.out.size; omega)
end
end Go.Proofs.YtoanladhikdcaaaGreat

namespace Go.Proofs.YtoanladhikdcaaaGreat
open Go.RowKit Go.Shelf
set_option linter.unusedVariables false
set_option linter.unusedSimpArgs false
set_option maxRecDepth 100000
attribute [local go_sem] Oper.semAt_some
/-- one block is as it was -/
def KeepB (b : Nat) (W W' : World) : Prop := ∀ cs t, Blk W b t cs → Blk W' b t cs
theorem KeepB.refl (b : Nat) (W : World) : KeepB b W W := fun _ _ h => h
theorem KeepB.trans {b : Nat} {A B C : World} (h : KeepB b A B) (k : KeepB b B C) : KeepB b A C := fun cs t hv => k cs t (h cs t hv)
theorem KeepB.grown {b : Nat} {W W' : World} {row : Option Nat} (h : W.grownBy W' row) (hr : some b ≠ row) : KeepB b W W' := fun cs t hv => hv.grown h hr
theorem KeepB.below {b : Nat} {W W' : World} (h : Below W.heap.size W W') : KeepB b W W' := fun cs t hv => hv.below h hv.lt
theorem KeepB.putObj {b : Nat} (W : World) (l : Nat) (o o' : Obj) (h : W.heap[l]? = some o) (ho : o.isCells = false) : KeepB b W (W.putObj l o') := fun cs t hv => by
  refine hv.grown (grownBy_putObj' W l o') ?_
  intro e
  have e' : b = l := Option.some.inj e
  subst e'
  unfold Blk at hv
  rw [hv] at h
  cases h
  cases ho
/-- the first so many of all -/
def upK (c : Nat) : List (Fin 70) := (List.finRange 70).take c
theorem upK_len (c : Nat) (h : c ≤ 70) : (upK c).length = c := by unfold upK; simp [h]
theorem upK_succ (c : Nat) (h : c < 70) : upK (c + 1) = upK c ++ [⟨c, h⟩] := by
  unfold upK
  rw [List.take_succ_eq_append_getElem (by simp [h])]
  simp
theorem upK_zero : upK 0 = [] := rfl
set_option maxHeartbeats 4000000 in
theorem first_stops (f : Nat → Int) (c n : Nat) (hc : c ≤ 70) (hn : 1 ≤ n) (Bl Bc : Nat) (w : World) (hl : Blk w Bl 130 (numC f 70)) (hb : Blk w Bc 3 #[.int .i64 (c : Int)]) :
    SeqStopsK Fence.wide n Tryz.prog 88 #[.pointer (some ⟨Bl, 0, none⟩), .pointer (some ⟨Bc, 0, none⟩)] (fun i : Fin 70 => #[.int .i64 (i.1 : Int), .int .i64 (f i.1)]) (KeepB Bc) (· = upK c) (fun _ => True) 70 w := fun l J Jx W hW hJ hJx hY h0 => by
  have HL := Lib.hid (hl.below hW hl.lt)
  have HB := Lib.hid (hb.below hW hb.lt)
  have HY := Lib.hid hY
  have H0 := Lib.hid h0
  clear hY hJ hJx h0 hl hb hW
  refine callsIn_of_wp Tryz.func88 rfl trivial ?_
  simp only [Tryz.ntmps88, List.size_toArray, List.length_cons, List.length_nil, Nat.reduceAdd, Nat.reduceSub, Array.replicate_succ, Array.replicate_zero, List.push_toArray, List.append_toArray, List.nil_append, List.cons_append]
  refine wpIn_wide.2 ?_
  go_wp2_with (refine load_blk 130 (.tmp 1) Bl 130 (numC f 70) _ rfl rfl rfl HL.out Tryz.underlying130 rfl (by rw [numC_size]; exact seventy_info) ?_)
  refine (wpIn_wide (n := n)).1 ?_
  have hidx := fun (k : Nat) (hk : k < 70) (w : World) => idx_num f w k hk
  have HI := Lib.hid hidx
  clear hidx HL
  gi_loopw [7] (fun i wr => ∃ k : Nat, k ≤ c ∧ i = .int .i64 k ∧ Hid (J (upK k) wr) ∧ Hid (KeepB Bc W wr)) (fun i _ => 70 - (intOf i).toNat)
  case atStart => exact ⟨0, by omega, rfl, H0, Lib.hid (KeepB.refl _ _)⟩
  case round =>
    obtain ⟨k, hk, rfl, JK, KK⟩ := hrel
    have cb : wr.cell? ⟨Bc, 0, none⟩ = some (.int .i64 (c : Int)) := (KK.out _ _ HB.out).cell 0 rfl
    by_cases h70 : k < 70
    · have i1 := fun w => HI.out k h70 w
      by_cases hlt : k < c
      · obtain ⟨fn, tmps, assign, body, hy0, hR⟩ := HY.out (upK k) ⟨k, h70⟩ wr JK.out (by rw [upK_len k (by omega)]; exact h70)
        have hy : (Instr.yield l #[.int .i64 (k : Int), .int .i64 (f k)]).run Tryz.prog wr = .ok (.round l fn tmps assign body) wr := hy0
        have HR := Lib.hid hR
        have HSU := Lib.hid (upK_succ k h70)
        clear hR hy0
        generalize f k = v at *
        have k1 : ¬ (c : Int) ≤ (k : Int) := by omega
        gi_wp2
        refine HR.out.mono ?_
        rintro e W3 (⟨rfl, hJ3, hk3⟩ | ⟨rfl, hJx3⟩)
        · have J3 : Hid (J (upK (k + 1)) W3) := by rw [HSU.out]; exact hJ3
          have K3 := Lib.hid (KK.out.trans hk3)
          clear hJ3 hk3 hy
          gi_wp2
          go_roundw
          case rel => exact ⟨k + 1, by omega, by go_num, J3, K3⟩
          case measure => simp [intOf]; omega
        · clear hy
          gi_wp2
          refine bodyPost_ret (results_none rfl _ _ _) rfl ?_
          exact ⟨⟨_, rfl⟩, .inr ⟨_, trivial, hJx3⟩⟩
      · obtain rfl : k = c := by omega
        generalize f k = v at *
        gi_wp2
        refine ⟨fun _ h => (by cases h), ?_⟩
        gi_wp2
        refine bodyPost_ret (results_none rfl _ _ _) rfl ?_
        exact ⟨⟨_, rfl⟩, .inl ⟨_, rfl, JK.out⟩⟩
    · obtain rfl : k = 70 := by omega
      obtain rfl : c = 70 := by omega
      gi_wp2
      go_end0
      exact ⟨⟨_, rfl⟩, .inl ⟨_, rfl, JK.out⟩⟩
end Go.Proofs.YtoanladhikdcaaaGreat

namespace Go.Proofs.YtoanladhikdcaaaGreat
open Go.RowKit
set_option linter.unusedVariables false
set_option linter.unusedSimpArgs false
set_option maxRecDepth 100000
theorem giveV_zero (V : List ByteArray) (m : Nat) : giveV V m 0 = V := by
  unfold giveV
  rw [datB_zero, if_neg (by simp)]
section
variable {B : Nat} {g m n : Nat} {V : List ByteArray} {l : List Nat}
/-- give, by what at has told -/
theorem dropK_eq (kp : Kp) (m k : Nat) (V : List ByteArray) (l : List Nat) : dropK kp m k (V, l) = nameG kp (giveV V m (atX V m l k)) m l k 0 := rfl
set_option maxHeartbeats 8000000 in
theorem shorten_any (size : Nat) (w : World) (hs : size < 8960) (h : FileX B w g m n V l) :
    Calls Tryz.prog 40 #[.pointer (some ⟨g, 0, none⟩), .int .i64 size] w fun e w' => e = .returned (.int .i64 0) ∧ FileX B w' g m n (shortG (putK n) m size (V, l)).1 (shortG (putK n) m size (V, l)).2 ∧ Below B w w' := by
  have FX := Lib.hid h
  have hz := h.base
  have HOK : Hid (∀ j, needN size + j ≤ 70 → OkS V.length m (dropN (putK n) m (needN size) (V, l) j)) := fun j hj => dropN_ok (putK_ok h.ok.2.1 h.ok.2.2) h.ok.1 j hj
  have hn70 := needN_le (n := size) (by omega)
  have HK0 : Hid (((size : Int) + 128 - 1) / 128 = ((needN size : Nat) : Int)) := by show _ = _; unfold needN; omega
  have HSH : Hid (shortG (putK n) m size (V, l) = tailZ m size (dropI (putK n) m size (dropN (putK n) m (needN size) (V, l) (70 - needN size)))) := rfl
  have hq : size / 128 < 70 := by omega
  generalize needN size = k0 at *
  clear h
  have h1 : IntKind.i64.wrap ((size : Int) + 128) = (size : Int) + 128 := IntWalk.i64_in _ (by omega)
  have h2 : IntKind.i64.wrap ((size : Int) + 128 - 1) = (size : Int) + 128 - 1 := IntWalk.i64_in _ (by omega)
  go_enter Tryz.func40, Tryz.ntmps40
  go_wp2
  go_loopw [5] (fun i wr => ∃ (j : Nat), k0 + j ≤ 70 ∧ i = .int .i64 ((k0 + j : Nat) : Int) ∧ Hid (FileX B wr g m n (dropN (putK n) m k0 (V, l) j).1 (dropN (putK n) m k0 (V, l) j).2) ∧ Hid (Below B w wr)) (fun i _ => 70 - (intOf i).toNat)
  case atStart => exact ⟨0, by omega, by rw [HK0.out]; rfl, FX, Below.refl _ _⟩
  case round =>
    obtain ⟨j, hj, rfl, HF, HB⟩ := hrel
    have HS : Hid (dropN (putK n) m k0 (V, l) (j + 1) = nameG (putK n) (giveV (dropN (putK n) m k0 (V, l) j).1 m (atX (dropN (putK n) m k0 (V, l) j).1 m (dropN (putK n) m k0 (V, l) j).2 (k0 + j))) m (dropN (putK n) m k0 (V, l) j).2 (k0 + j) 0) := rfl
    by_cases hlt : k0 + j < 70
    · have HJ : Hid (k0 + (j + 1) ≤ 70) := by show _ ≤ _; omega
      have HQ : Hid (∀ q, k0 + j = q → k0 + (j + 1) = q + 1) := fun q hq => by omega
      have hlj := hlt
      obtain ⟨V1, l1, hs1⟩ : ∃ V1 l1, dropN (putK n) m k0 (V, l) j = (V1, l1) := ⟨_, _, rfl⟩
      rw [hs1] at HF HS
      dsimp only at HF HS
      clear hs1
      obtain ⟨q, hq1⟩ : ∃ q, k0 + j = q := ⟨_, rfl⟩
      have HQ1 := Lib.hid hq1
      rw [hq1] at hlj HS ⊢
      have HQS := Lib.hid (HQ.out q hq1)
      clear HQ hlt hj hq1
      have CA := Lib.hid (at_any q wr hlj HF.out)
      by_cases h0 : atX V1 m l1 q = 0
      · rw [h0] at HS CA
        rw [giveV_zero] at HS
        clear h0
        go_wp2_with fail
        refine CA.out.mono ?_
        rintro e w1 ⟨rfl, hb1⟩
        have H1 := Lib.hid (HF.out.below hb1)
        have B1 := Lib.hid (HB.out.trans (hb1.mono HF.out.base))
        clear hb1 CA HF HB
        unfold atI
        rw [if_pos rfl]
        go_wp2_with fail
        refine (name_any q 0 w1 hlj (by omega) H1.out).mono ?_
        rintro e w3 ⟨rfl, hf, hb3⟩
        rw [← HS.out] at hf
        have H3 := Lib.hid hf
        have B3 := Lib.hid (B1.out.trans hb3)
        clear hf hb3 H1 B1 HS
        go_wp2
        go_roundw
        case rel => exact ⟨j + 1, HJ.out, by rw [HQS.out]; go_num, H3, B3⟩
        case measure => simp [intOf]; omega
      · have hne : (((atX V1 m l1 q : Nat) : Int) != -1) = true := by simp
        have HA : Hid (atI (atX V1 m l1 q) = (atX V1 m l1 q : Nat)) := by show _ = _; unfold atI; rw [if_neg h0]
        rw [HA.out] at CA
        clear h0 HA
        generalize atX V1 m l1 q = a at *
        go_wp2_with fail
        refine CA.out.mono ?_
        rintro e w1 ⟨rfl, hb1⟩
        have H1 := Lib.hid (HF.out.below hb1)
        have B1 := Lib.hid (HB.out.trans (hb1.mono HF.out.base))
        clear hb1 CA HF HB
        go_wp2_with fail
        refine (give_file a w1 H1.out.base H1.out).mono ?_
        rintro e w2 ⟨rfl, hf, hb2⟩
        have H2 := Lib.hid hf
        have B2 := Lib.hid (B1.out.trans hb2)
        clear hf hb2 H1 B1
        go_wp2_with fail
        refine (name_any q 0 w2 hlj (by omega) H2.out).mono ?_
        rintro e w3 ⟨rfl, hf, hb3⟩
        rw [← HS.out] at hf
        have H3 := Lib.hid hf
        have B3 := Lib.hid (B2.out.trans hb3)
        clear hf hb3 H2 B2 HS
        go_wp2
        go_roundw
        case rel => exact ⟨j + 1, HJ.out, by rw [HQS.out]; go_num, H3, B3⟩
        case measure => simp [intOf]; omega
    · obtain rfl : j = 70 - k0 := by omega
      obtain ⟨V1, l1, hs1⟩ : ∃ V1 l1, dropN (putK n) m k0 (V, l) (70 - k0) = (V1, l1) := ⟨_, _, rfl⟩
      rw [hs1] at HF HSH
      dsimp only at HF
      clear hs1 HS HOK
      by_cases h768 : size ≤ 768
      · have HDI : Hid (dropI (putK n) m size (V1, l1) = (putV (giveV V1 m (l1.getD 10 0)) n (l1.set 10 0), l1.set 10 0)) := by show _ = _; unfold dropI; rw [if_pos h768]; rfl
        rw [HDI.out] at HSH
        have j1 : (size : Int) ≤ 768 := by omega
        have c18 : wr.cell? ⟨g, 18, none⟩ = some (.int .i64 ((l1.getD 10 0 : Nat) : Int)) := by
          obtain ⟨gv, c, h⟩ := HF.out
          exact h.ino 10 (by omega)
        clear HDI h768
        generalize l1.getD 10 0 = i at *
        go_wp2_with fail
        refine (give_file i wr HF.out.base HF.out).mono ?_
        rintro e w3 ⟨rfl, hf, hb3⟩
        have B3 := Lib.hid (HB.out.trans hb3)
        obtain ⟨gv, c, hF⟩ := hf
        have c18b : w3.cell? ⟨g, 18, none⟩ = some (.int .i64 ((l1.getD 10 0 : Nat) : Int)) := hF.ino 10 (by omega)
        have c18f : w3.frozen? ⟨g, 18, none⟩ = false := hF.blk.frozen _
        have HP4 : Hid (FileX B (w3.setCell ⟨g, 18, none⟩ (.int .i64 ((0 : Nat) : Int))) g m n (giveV V1 m i) (l1.set 10 0)) := ⟨gv, c, hF.put 10 0 (hF.fit.ind (by omega))⟩
        have B4 : Hid (Below B w (w3.setCell ⟨g, 18, none⟩ (.int .i64 ((0 : Nat) : Int)))) := B3.out.setCell hF.low _
        clear hb3 hF HF HB B3 c18
        generalize l1.getD 10 0 = i2 at *
        go_wp2_with fail
        refine (keep_any _ HP4.out.base HP4.out).mono ?_
        rintro e w5 ⟨rfl, hf, hb5⟩
        have HX := Lib.hid hf
        have BX := Lib.hid (B4.out.trans hb5)
        clear hf hb5 HP4 B4 c18b c18f
        generalize putV (giveV V1 m i) n (l1.set 10 0) = V2 at *
        generalize l1.set 10 0 = l2 at *
        have HT : Hid (tailZ m size (V2, l2) = if size % 128 ≠ 0 ∧ atX V2 m l2 (size / 128) ≠ 0 then (layX V2 (atX V2 m l2 (size / 128)) (size % 128) (List.replicate (128 - size % 128) 0), l2) else (V2, l2)) := rfl
        by_cases hp : size % 128 = 0
        · rw [if_neg (by simp [hp])] at HT
          rw [HT.out] at HSH
          have k1 : (size : Int) % 128 = 0 := by omega
          clear HT hp
          go_wp2
          go_ret
          rw [HSH.out]
          exact ⟨rfl, HX.out, BX.out⟩
        · obtain ⟨pp, hpp⟩ : ∃ pp, size % 128 = pp := ⟨_, rfl⟩
          obtain ⟨q, hqq⟩ : ∃ q, size / 128 = q := ⟨_, rfl⟩
          rw [hpp, hqq] at HT
          rw [hqq] at hq
          rw [hpp] at hp
          have k1 : (size : Int) % 128 = (pp : Int) := by omega
          have k2 : (size : Int) / 128 = (q : Int) := by omega
          have k3 : ¬ pp = 0 := hp
          have k4 : pp < 128 := by omega
          clear hpp hqq hp
          have CA : Hid (∀ w, FileX B w g m n V2 l2 → Calls Tryz.prog 67 #[.pointer (some ⟨g, 0, none⟩), .int .i64 q] w fun e w' => e = .returned (.int .i64 (atI (atX V2 m l2 q))) ∧ Below w.heap.size w w') := fun w h => at_any q w hq h
          by_cases h0 : atX V2 m l2 q = 0
          · rw [if_neg (by simp [h0])] at HT
            rw [HT.out] at HSH
            rw [h0] at CA
            clear h0 HT
            go_wp2_with fail
            refine (CA.out _ HX.out).mono ?_
            rintro e w8 ⟨rfl, hb8⟩
            have H8 := Lib.hid (HX.out.below hb8)
            have B8 := Lib.hid (BX.out.trans (hb8.mono HX.out.base))
            clear hb8 CA HX BX
            unfold atI
            rw [if_pos rfl]
            go_wp2
            go_ret
            rw [HSH.out]
            exact ⟨rfl, H8.out, B8.out⟩
          · rw [if_pos ⟨k3, h0⟩] at HT
            rw [HT.out] at HSH
            have HD : Hid (datB V2 m (atX V2 m l2 q) = true) := atX_dat h0
            have hne : (((atX V2 m l2 q : Nat) : Int) != -1) = true := by simp
            have HA : Hid (atI (atX V2 m l2 q) = (atX V2 m l2 q : Nat)) := by show _ = _; unfold atI; rw [if_neg h0]
            rw [HA.out] at CA
            clear h0 HT HA
            generalize atX V2 m l2 q = a at *
            obtain ⟨z, hz⟩ : ∃ z, 128 - pp = z := ⟨_, rfl⟩
            rw [hz] at HSH
            have k5 : (128 : Int) - (pp : Int) = (z : Int) := by omega
            have k6 : z ≤ 128 := by omega
            have HZ : Hid (zerosB z = (⟨(Lib.repeatL (⟨#[0]⟩ : ByteArray).data.toList z).toArray⟩ : ByteArray)) := (repeat_zero z).symm
            have HP : Hid (pp + (zerosB z).size ≤ 128) := by show _ ≤ _; rw [zerosB_size]; omega
            have HL := Lib.hid (zerosB_list z)
            have CR : Hid (∀ w, Calls Tryz.prog 64 #[.string ⟨#[0]⟩, .int .i64 z] w fun e w' => e = .returned (.string (zerosB z)) ∧ Below w.heap.size w w') := fun w => by
              rw [HZ.out]
              exact Tryz.strings_Repeat ⟨#[0]⟩ z w (by omega) (by show 1 * z ≤ _; omega)
            rw [← HL.out] at HSH
            generalize zerosB z = zb at *
            clear hz HZ HL
            go_wp2_with fail
            refine (CA.out _ HX.out).mono ?_
            rintro e w8 ⟨rfl, hb8⟩
            have H8 := Lib.hid (HX.out.below hb8)
            have B8 := Lib.hid (BX.out.trans (hb8.mono HX.out.base))
            clear hb8 CA HX BX
            go_wp2_with fail
            refine (CR.out _).mono ?_
            rintro e w9 ⟨rfl, hb9⟩
            have H9 := Lib.hid (H8.out.below hb9)
            have B9 := Lib.hid (B8.out.trans (hb9.mono H8.out.base))
            clear hb9 CR H8 B8
            go_wp2_with fail
            refine (lay_any a pp zb w9 H9.out.base HD.out HP.out H9.out).mono ?_
            rintro e w10 ⟨rfl, hf, hb10⟩
            have H10 := Lib.hid hf
            have B10 := Lib.hid (B9.out.trans hb10)
            clear hf hb10 H9 B9
            go_wp2
            go_ret
            rw [HSH.out]
            exact ⟨rfl, H10.out, B10.out⟩
      · have HDI : Hid (dropI (putK n) m size (V1, l1) = (V1, l1)) := by show _ = _; unfold dropI; rw [if_neg h768]
        rw [HDI.out] at HSH
        have j1 : ¬ (size : Int) ≤ 768 := by omega
        have HX := HF
        have BX := HB
        clear HDI h768 HF HB
        have HT : Hid (tailZ m size (V1, l1) = if size % 128 ≠ 0 ∧ atX V1 m l1 (size / 128) ≠ 0 then (layX V1 (atX V1 m l1 (size / 128)) (size % 128) (List.replicate (128 - size % 128) 0), l1) else (V1, l1)) := rfl
        by_cases hp : size % 128 = 0
        · rw [if_neg (by simp [hp])] at HT
          rw [HT.out] at HSH
          have k1 : (size : Int) % 128 = 0 := by omega
          clear HT hp
          go_wp2
          go_ret
          rw [HSH.out]
          exact ⟨rfl, HX.out, BX.out⟩
        · obtain ⟨pp, hpp⟩ : ∃ pp, size % 128 = pp := ⟨_, rfl⟩
          obtain ⟨q, hqq⟩ : ∃ q, size / 128 = q := ⟨_, rfl⟩
          rw [hpp, hqq] at HT
          rw [hqq] at hq
          rw [hpp] at hp
          have k1 : (size : Int) % 128 = (pp : Int) := by omega
          have k2 : (size : Int) / 128 = (q : Int) := by omega
          have k3 : ¬ pp = 0 := hp
          have k4 : pp < 128 := by omega
          clear hpp hqq hp
          have CA : Hid (∀ w, FileX B w g m n V1 l1 → Calls Tryz.prog 67 #[.pointer (some ⟨g, 0, none⟩), .int .i64 q] w fun e w' => e = .returned (.int .i64 (atI (atX V1 m l1 q))) ∧ Below w.heap.size w w') := fun w h => at_any q w hq h
          by_cases h0 : atX V1 m l1 q = 0
          · rw [if_neg (by simp [h0])] at HT
            rw [HT.out] at HSH
            rw [h0] at CA
            clear h0 HT
            go_wp2_with fail
            refine (CA.out _ HX.out).mono ?_
            rintro e w8 ⟨rfl, hb8⟩
            have H8 := Lib.hid (HX.out.below hb8)
            have B8 := Lib.hid (BX.out.trans (hb8.mono HX.out.base))
            clear hb8 CA HX BX
            unfold atI
            rw [if_pos rfl]
            go_wp2
            go_ret
            rw [HSH.out]
            exact ⟨rfl, H8.out, B8.out⟩
          · rw [if_pos ⟨k3, h0⟩] at HT
            rw [HT.out] at HSH
            have HD : Hid (datB V1 m (atX V1 m l1 q) = true) := atX_dat h0
            have hne : (((atX V1 m l1 q : Nat) : Int) != -1) = true := by simp
            have HA : Hid (atI (atX V1 m l1 q) = (atX V1 m l1 q : Nat)) := by show _ = _; unfold atI; rw [if_neg h0]
            rw [HA.out] at CA
            clear h0 HT HA
            generalize atX V1 m l1 q = a at *
            obtain ⟨z, hz⟩ : ∃ z, 128 - pp = z := ⟨_, rfl⟩
            rw [hz] at HSH
            have k5 : (128 : Int) - (pp : Int) = (z : Int) := by omega
            have k6 : z ≤ 128 := by omega
            have HZ : Hid (zerosB z = (⟨(Lib.repeatL (⟨#[0]⟩ : ByteArray).data.toList z).toArray⟩ : ByteArray)) := (repeat_zero z).symm
            have HP : Hid (pp + (zerosB z).size ≤ 128) := by show _ ≤ _; rw [zerosB_size]; omega
            have HL := Lib.hid (zerosB_list z)
            have CR : Hid (∀ w, Calls Tryz.prog 64 #[.string ⟨#[0]⟩, .int .i64 z] w fun e w' => e = .returned (.string (zerosB z)) ∧ Below w.heap.size w w') := fun w => by
              rw [HZ.out]
              exact Tryz.strings_Repeat ⟨#[0]⟩ z w (by omega) (by show 1 * z ≤ _; omega)
            rw [← HL.out] at HSH
            generalize zerosB z = zb at *
            clear hz HZ HL
            go_wp2_with fail
            refine (CA.out _ HX.out).mono ?_
            rintro e w8 ⟨rfl, hb8⟩
            have H8 := Lib.hid (HX.out.below hb8)
            have B8 := Lib.hid (BX.out.trans (hb8.mono HX.out.base))
            clear hb8 CA HX BX
            go_wp2_with fail
            refine (CR.out _).mono ?_
            rintro e w9 ⟨rfl, hb9⟩
            have H9 := Lib.hid (H8.out.below hb9)
            have B9 := Lib.hid (B8.out.trans (hb9.mono H8.out.base))
            clear hb9 CR H8 B8
            go_wp2_with fail
            refine (lay_any a pp zb w9 H9.out.base HD.out HP.out H9.out).mono ?_
            rintro e w10 ⟨rfl, hf, hb10⟩
            have H10 := Lib.hid hf
            have B10 := Lib.hid (B9.out.trans hb10)
            clear hf hb10 H9 B9
            go_wp2
            go_ret
            rw [HSH.out]
            exact ⟨rfl, H10.out, B10.out⟩
end
end Go.Proofs.YtoanladhikdcaaaGreat

namespace Go.Proofs.YtoanladhikdcaaaGreat
open Go.RowKit
set_option linter.unusedVariables false
set_option linter.unusedSimpArgs false
set_option maxRecDepth 100000
set_option maxHeartbeats 8000000 in
theorem cut_neg (A : Option Addr) (c : Nat) (xs : List ByteArray) (n size : Int) (w : World) (hx : xs.length ≤ 1000000) (h : RowAt w w.heap.size A (xs.map .string)) (h0 : inoE xs n = 0) (hneg : size < 0) :
    Calls Tryz.prog 17 #[.slice A xs.length c, .int .i64 n, .int .i64 size] w (RowCode (cutO xs n size).1 (cutO xs n size).2 w) := by
  have CO := Lib.hid (opened_any A c xs n w hx h)
  unfold OpenPost at CO
  simp only [if_pos h0] at CO
  obtain ⟨m, k, hv, rfl, hk1, hk2, hk3⟩ := inoE_ok h0
  have hvl := hv.len
  have HO : Hid (∀ g w2 gv c, w.heap.size ≤ g → Blk w2 g 75 (fileC (.slice (some ⟨gv, 0, none⟩) xs.length c) xs.length (mO xs) (k : Int).toNat (getR xs (k : Int))) → w2.ownsRow w.heap.size 9 1 (.slice (some ⟨gv, 0, none⟩) xs.length c) xs.length (xs.map .string) → FileX w.heap.size w2 g m k xs (getR xs (k : Int))) := fun g w2 gv c a b c' => OpenPost.file (w' := w) hv hk1 hk2 a b c'
  have HLL : Hid (∀ sl, (fileC sl xs.length (mO xs) (k : Int).toNat (getR xs (k : Int))).size = 20) := fun sl => fileC_size _ _ _ _ _ (getR_len _ _)
  have HOK : Hid (OkS xs.length m (xs, getR xs (k : Int))) := ⟨hv, rfl, by rw [getR_vol hv hk1 hk2]; exact inoR_fit _ _⟩
  have HPS : Hid (putV xs k (getR xs (k : Int)) = xs) := by show _ = _; rw [getR_vol hv hk1 hk2]; exact putV_self hv hk1 hk2
  have HW0 : Hid (cutO xs (k : Int) size = if size < 0 then (([], 1) : List ByteArray × Int) else if 8960 < size then ([], 6)
    else (putV (cutG noK xs m (getR xs k) size.toNat).1 k (cutG noK xs m (getR xs k) size.toNat).2, 0)) := by
    show _ = _
    unfold cutO
    rw [if_neg (by rw [h0]; simp), mO_vol hv, Int.toNat_natCast]
  clear h0 hk3 hv
  rw [if_pos hneg] at HW0
  go_enter Tryz.func17, Tryz.ntmps17
  go_wp2_with fail
  refine CO.out.mono ?_
  rintro e w1 ⟨hb1, gv, cv, rfl, ho⟩
  have B1 := Lib.hid hb1
  have O1 := Lib.hid ho
  have hz1 := hb1.size
  clear hb1 ho CO
  go_wp2_with (refine store_blk 75 (.tmp 8) (.tmp 17) w1.heap.size 75 fileZ (fileC (.slice (some ⟨gv, 0, none⟩) xs.length cv) xs.length (mO xs) (k : Int).toNat (getR xs (k : Int))) rfl rfl rfl rfl (Blk.new w1 _ _) (by rw [HLL.out]; rfl) (by rw [HLL.out]; kernel_rfl) (fileC_one _ _ _ _ _ _ _) ?_; intro w2 hr2 hg2)
  have FX : Hid (FileX w.heap.size w2 w1.heap.size m k xs (getR xs (k : Int))) := HO.out _ _ gv cv hz1 hr2 (by
    refine (O1.out.alloc _).kept hg2 (.inr ?_)
    have := own_ne (O1.out.alloc _) (Blk.new w1 75 fileZ) (by decide)
    intro e; exact this e.symm)
  have BW : Hid (Below w.heap.size w w2) := (B1.out.alloc hz1 _).grown hg2 (by simp; omega) (fun k e => by cases e; exact hz1)
  go_ret2
  rw [HW0.out]
  exact ⟨⟨_, rfl, own_nil _ _⟩, BW.out⟩
set_option maxHeartbeats 8000000 in
theorem cut_big (A : Option Addr) (c : Nat) (xs : List ByteArray) (n size : Int) (w : World) (hx : xs.length ≤ 1000000) (h : RowAt w w.heap.size A (xs.map .string)) (h0 : inoE xs n = 0) (hneg : ¬ size < 0) (hbig : 8960 < size) :
    Calls Tryz.prog 17 #[.slice A xs.length c, .int .i64 n, .int .i64 size] w (RowCode (cutO xs n size).1 (cutO xs n size).2 w) := by
  have CO := Lib.hid (opened_any A c xs n w hx h)
  unfold OpenPost at CO
  simp only [if_pos h0] at CO
  obtain ⟨m, k, hv, rfl, hk1, hk2, hk3⟩ := inoE_ok h0
  have hvl := hv.len
  have HO : Hid (∀ g w2 gv c, w.heap.size ≤ g → Blk w2 g 75 (fileC (.slice (some ⟨gv, 0, none⟩) xs.length c) xs.length (mO xs) (k : Int).toNat (getR xs (k : Int))) → w2.ownsRow w.heap.size 9 1 (.slice (some ⟨gv, 0, none⟩) xs.length c) xs.length (xs.map .string) → FileX w.heap.size w2 g m k xs (getR xs (k : Int))) := fun g w2 gv c a b c' => OpenPost.file (w' := w) hv hk1 hk2 a b c'
  have HLL : Hid (∀ sl, (fileC sl xs.length (mO xs) (k : Int).toNat (getR xs (k : Int))).size = 20) := fun sl => fileC_size _ _ _ _ _ (getR_len _ _)
  have HOK : Hid (OkS xs.length m (xs, getR xs (k : Int))) := ⟨hv, rfl, by rw [getR_vol hv hk1 hk2]; exact inoR_fit _ _⟩
  have HPS : Hid (putV xs k (getR xs (k : Int)) = xs) := by show _ = _; rw [getR_vol hv hk1 hk2]; exact putV_self hv hk1 hk2
  have HW0 : Hid (cutO xs (k : Int) size = if size < 0 then (([], 1) : List ByteArray × Int) else if 8960 < size then ([], 6)
    else (putV (cutG noK xs m (getR xs k) size.toNat).1 k (cutG noK xs m (getR xs k) size.toNat).2, 0)) := by
    show _ = _
    unfold cutO
    rw [if_neg (by rw [h0]; simp), mO_vol hv, Int.toNat_natCast]
  clear h0 hk3 hv
  rw [if_neg hneg, if_pos hbig] at HW0
  go_enter Tryz.func17, Tryz.ntmps17
  go_wp2_with fail
  refine CO.out.mono ?_
  rintro e w1 ⟨hb1, gv, cv, rfl, ho⟩
  have B1 := Lib.hid hb1
  have O1 := Lib.hid ho
  have hz1 := hb1.size
  clear hb1 ho CO
  go_wp2_with (refine store_blk 75 (.tmp 8) (.tmp 17) w1.heap.size 75 fileZ (fileC (.slice (some ⟨gv, 0, none⟩) xs.length cv) xs.length (mO xs) (k : Int).toNat (getR xs (k : Int))) rfl rfl rfl rfl (Blk.new w1 _ _) (by rw [HLL.out]; rfl) (by rw [HLL.out]; kernel_rfl) (fileC_one _ _ _ _ _ _ _) ?_; intro w2 hr2 hg2)
  have FX : Hid (FileX w.heap.size w2 w1.heap.size m k xs (getR xs (k : Int))) := HO.out _ _ gv cv hz1 hr2 (by
    refine (O1.out.alloc _).kept hg2 (.inr ?_)
    have := own_ne (O1.out.alloc _) (Blk.new w1 75 fileZ) (by decide)
    intro e; exact this e.symm)
  have BW : Hid (Below w.heap.size w w2) := (B1.out.alloc hz1 _).grown hg2 (by simp; omega) (fun k e => by cases e; exact hz1)
  go_ret2
  rw [HW0.out]
  exact ⟨⟨_, rfl, own_nil _ _⟩, BW.out⟩
set_option maxHeartbeats 8000000 in
theorem cut_ok (A : Option Addr) (c : Nat) (xs : List ByteArray) (n size : Int) (w : World) (hx : xs.length ≤ 1000000) (h : RowAt w w.heap.size A (xs.map .string)) (h0 : inoE xs n = 0) (hneg : ¬ size < 0) (hbig : ¬ 8960 < size) :
    Calls Tryz.prog 17 #[.slice A xs.length c, .int .i64 n, .int .i64 size] w (RowCode (cutO xs n size).1 (cutO xs n size).2 w) := by
  have CO := Lib.hid (opened_any A c xs n w hx h)
  unfold OpenPost at CO
  simp only [if_pos h0] at CO
  obtain ⟨m, k, hv, rfl, hk1, hk2, hk3⟩ := inoE_ok h0
  have hvl := hv.len
  have HO : Hid (∀ g w2 gv c, w.heap.size ≤ g → Blk w2 g 75 (fileC (.slice (some ⟨gv, 0, none⟩) xs.length c) xs.length (mO xs) (k : Int).toNat (getR xs (k : Int))) → w2.ownsRow w.heap.size 9 1 (.slice (some ⟨gv, 0, none⟩) xs.length c) xs.length (xs.map .string) → FileX w.heap.size w2 g m k xs (getR xs (k : Int))) := fun g w2 gv c a b c' => OpenPost.file (w' := w) hv hk1 hk2 a b c'
  have HLL : Hid (∀ sl, (fileC sl xs.length (mO xs) (k : Int).toNat (getR xs (k : Int))).size = 20) := fun sl => fileC_size _ _ _ _ _ (getR_len _ _)
  have HOK : Hid (OkS xs.length m (xs, getR xs (k : Int))) := ⟨hv, rfl, by rw [getR_vol hv hk1 hk2]; exact inoR_fit _ _⟩
  have HPS : Hid (putV xs k (getR xs (k : Int)) = xs) := by show _ = _; rw [getR_vol hv hk1 hk2]; exact putV_self hv hk1 hk2
  have HW0 : Hid (cutO xs (k : Int) size = if size < 0 then (([], 1) : List ByteArray × Int) else if 8960 < size then ([], 6)
    else (putV (cutG noK xs m (getR xs k) size.toNat).1 k (cutG noK xs m (getR xs k) size.toNat).2, 0)) := by
    show _ = _
    unfold cutO
    rw [if_neg (by rw [h0]; simp), mO_vol hv, Int.toNat_natCast]
  clear h0 hk3 hv
  obtain ⟨sz, rfl⟩ := Int.eq_ofNat_of_zero_le (show 0 ≤ size by omega)
  rw [if_neg hneg, if_neg hbig, Int.toNat_natCast] at HW0
  have g0 : decide ((sz : Int) < 0) = false := by simp
  have g1 : ¬ 8960 < (sz : Int) := hbig
  have HPUT : Hid (cutO xs (k : Int) (sz : Int) = ((cutG (putK k) xs m (getR xs k) sz).1, 0)) := by
    show _ = _
    rw [HW0.out]
    have := cutG_put hk1 hk2 HOK.out (size := sz) (by omega)
    rw [HPS.out] at this
    rw [this]; rfl
  clear hneg hbig HW0 HPS
  go_enter Tryz.func17, Tryz.ntmps17
  go_wp2_with fail
  refine CO.out.mono ?_
  rintro e w1 ⟨hb1, gv, cv, rfl, ho⟩
  have B1 := Lib.hid hb1
  have O1 := Lib.hid ho
  have hz1 := hb1.size
  clear hb1 ho CO
  go_wp2_with (refine store_blk 75 (.tmp 8) (.tmp 17) w1.heap.size 75 fileZ (fileC (.slice (some ⟨gv, 0, none⟩) xs.length cv) xs.length (mO xs) (k : Int).toNat (getR xs (k : Int))) rfl rfl rfl rfl (Blk.new w1 _ _) (by rw [HLL.out]; rfl) (by rw [HLL.out]; kernel_rfl) (fileC_one _ _ _ _ _ _ _) ?_; intro w2 hr2 hg2)
  have FX : Hid (FileX w.heap.size w2 w1.heap.size m k xs (getR xs (k : Int))) := HO.out _ _ gv cv hz1 hr2 (by
    refine (O1.out.alloc _).kept hg2 (.inr ?_)
    have := own_ne (O1.out.alloc _) (Blk.new w1 75 fileZ) (by decide)
    intro e; exact this e.symm)
  have BW : Hid (Below w.heap.size w w2) := (B1.out.alloc hz1 _).grown hg2 (by simp; omega) (fun k e => by cases e; exact hz1)
  have hgg : w.heap.size ≤ w1.heap.size := hz1
  generalize hg : w1.heap.size = g at *
  generalize getR xs (k : Int) = l0 at *
  clear hr2 hg2 HO O1 B1 HLL hg hz1
  have CS := Lib.hid (size_any (B := w.heap.size) (g := g) (m := m) (n := k) (V := xs) (l := l0) w2 FX.out)
  obtain ⟨gv2, c2, hF⟩ := FX.out
  have c11 : w2.cell? ⟨g, 11, none⟩ = some (.int .i64 ((l0.getD 3 0 : Nat) : Int)) := hF.ino 3 (by omega)
  have c11f : w2.frozen? ⟨g, 11, none⟩ = false := hF.blk.frozen _
  have HP : Hid (FileX w.heap.size (w2.setCell ⟨g, 11, none⟩ (.int .i64 (sz : Int))) g m k xs (l0.set 3 sz)) := ⟨gv2, c2, hF.put 3 sz (hF.fit.size (by omega))⟩
  have BP : Hid (Below w.heap.size w (w2.setCell ⟨g, 11, none⟩ (.int .i64 (sz : Int)))) := BW.out.setCell hF.low _
  have HCG : Hid (cutG (putK k) xs m l0 sz = if sz < sizeX l0 then shortG (putK k) m sz (putV xs k (l0.set 3 sz), l0.set 3 sz) else (putV xs k (l0.set 3 sz), l0.set 3 sz)) := rfl
  have hsx := sizeX_le l0
  clear hF FX BW HOK
  generalize l0.set 3 sz = l3 at *
  generalize l0.getD 3 0 = l3v at *
  by_cases hless : sz < sizeX l0
  · rw [if_pos hless] at HCG
    rw [HCG.out] at HPUT
    have n1 : (sz : Int) < (sizeX l0 : Int) := by omega
    have hs : sz < 8960 := by omega
    generalize sizeX l0 = sx at *
    clear HCG hsx
    go_wp2_with fail
    refine CS.out.mono ?_
    rintro e w3 ⟨rfl, rfl⟩
    go_wp2_with fail
    refine (keep_any _ HP.out.base HP.out).mono ?_
    rintro e w4 ⟨rfl, hf, hb4⟩
    have H4 := Lib.hid hf
    have B4 := Lib.hid (BP.out.trans hb4)
    clear hf hb4 HP BP
    go_wp2_with fail
    refine (shorten_any sz w4 hs H4.out).mono ?_
    rintro e w5 ⟨rfl, hf, hb5⟩
    obtain ⟨gv3, c3, hF3⟩ := hf
    have HF3 := Lib.hid hF3
    have B5 := Lib.hid (B4.out.trans hb5)
    have c0 := hF3.c0
    clear hb5 hF3 H4 B4 c11 c11f
    go_wp2
    go_ret2
    rw [HPUT.out]
    exact ⟨⟨_, rfl, HF3.out.own⟩, B5.out⟩
  · rw [if_neg hless] at HCG
    rw [HCG.out] at HPUT
    have n1 : ¬ (sz : Int) < (sizeX l0 : Int) := by omega
    generalize sizeX l0 = sx at *
    clear HCG hsx
    go_wp2_with fail
    refine CS.out.mono ?_
    rintro e w3 ⟨rfl, rfl⟩
    go_wp2_with fail
    refine (keep_any _ HP.out.base HP.out).mono ?_
    rintro e w4 ⟨rfl, hf, hb4⟩
    have H4 := Lib.hid hf
    have B4 := Lib.hid (BP.out.trans hb4)
    clear hf hb4 HP BP
    obtain ⟨gv3, c3, hF3⟩ := H4.out
    have HF3 := Lib.hid hF3
    have c0 := hF3.c0
    clear hF3 c11 c11f
    go_wp2
    go_ret2
    rw [HPUT.out]
    exact ⟨⟨_, rfl, HF3.out.own⟩, B4.out⟩
set_option maxHeartbeats 8000000 in
theorem cut_none (A : Option Addr) (c : Nat) (xs : List ByteArray) (n size : Int) (w : World) (hx : xs.length ≤ 1000000) (h : RowAt w w.heap.size A (xs.map .string)) (h0 : ¬ inoE xs n = 0) :
    Calls Tryz.prog 17 #[.slice A xs.length c, .int .i64 n, .int .i64 size] w (RowCode (cutO xs n size).1 (cutO xs n size).2 w) := by
  have CO := Lib.hid (opened_any A c xs n w hx h)
  unfold OpenPost at CO
  simp only [if_neg h0] at CO
  have HW0 : Hid (cutO xs n size = ([], inoE xs n)) := by show _ = _; unfold cutO; rw [if_pos h0]
  have hn0 : (inoE xs n != 0) = true := by simpa using h0
  generalize inoE xs n = ie at *
  clear h0
  go_enter Tryz.func17, Tryz.ntmps17
  go_wp2_with fail
  refine CO.out.mono ?_
  rintro e w1 ⟨hb1, rfl⟩
  have B1 := Lib.hid hb1
  have hz1 := hb1.size
  clear hb1 CO
  go_wp2_with (refine store_blk 75 (.tmp 8) (.tmp 17) w1.heap.size 75 fileZ fileZ rfl rfl rfl rfl (Blk.new w1 _ _) rfl (by kernel_rfl) fileZ_one ?_; intro w2 hr2 hg2)
  have BW : Hid (Below w.heap.size w w2) := (B1.out.alloc hz1 _).grown hg2 (by simp; omega) (fun k e => by cases e; exact hz1)
  go_ret2
  rw [HW0.out]
  exact ⟨⟨_, rfl, own_nil _ _⟩, BW.out⟩
theorem cut_any (A : Option Addr) (c : Nat) (xs : List ByteArray) (n size : Int) (w : World) (hx : xs.length ≤ 1000000) (h : RowAt w w.heap.size A (xs.map .string)) :
    Calls Tryz.prog 17 #[.slice A xs.length c, .int .i64 n, .int .i64 size] w (RowCode (cutO xs n size).1 (cutO xs n size).2 w) := by
  by_cases h0 : inoE xs n = 0
  · by_cases hneg : size < 0
    · exact cut_neg A c xs n size w hx h h0 hneg
    · by_cases hbig : 8960 < size
      · exact cut_big A c xs n size w hx h h0 hneg hbig
      · exact cut_ok A c xs n size w hx h h0 hneg hbig
  · exact cut_none A c xs n size w hx h h0
end Go.Proofs.YtoanladhikdcaaaGreat

namespace Go.Proofs.YtoanladhikdcaaaGreat
open Go.RowKit Go.Shelf
set_option linter.unusedVariables false
set_option linter.unusedSimpArgs false
set_option maxRecDepth 100000
attribute [local go_sem] Oper.semAt_some
theorem upK_map (c : Nat) (h : c ≤ 70) : (upK c).map Fin.val = List.range c := by
  induction c with
  | zero => rfl
  | succ c ih => rw [upK_succ c (by omega), List.map_append, ih (by omega), List.range_succ]; rfl
/-- how many of these are -/
def cntF (V : List ByteArray) (m : Nat) (l : List Nat) (pre : List (Fin 70)) : Nat := (pre.filter fun i => atX V m l i.1 != 0).length
theorem cntF_snoc (V : List ByteArray) (m : Nat) (l : List Nat) (pre : List (Fin 70)) (x : Fin 70) : cntF V m l (pre ++ [x]) = cntF V m l pre + (if atX V m l x.1 != 0 then 1 else 0) := by
  unfold cntF
  rw [List.filter_append, List.length_append]
  by_cases h : (atX V m l x.1 != 0) = true <;> simp [h]
theorem cntF_le (V : List ByteArray) (m : Nat) (l : List Nat) (pre : List (Fin 70)) : cntF V m l pre ≤ pre.length := List.length_filter_le _ _
theorem cntF_all (V : List ByteArray) (m : Nat) (l : List Nat) : cntF V m l (upK 70) = manyX V m l 70 := by
  unfold cntF manyX
  rw [← upK_map 70 (Nat.le_refl _), List.filter_map, List.length_map]
  rfl
theorem FileX.own {B C : Nat} {g m n : Nat} {V : List ByteArray} {l : List Nat} {β : Type} : OwnFrom C (fun (_ : β) W => FileX B W g m n V l) := fun s X Y row hs hg hr => by
  have hr' : ∀ r, row = some r → ∃ o : Obj, X.heap[r]? = some o ∧ o.isCells = false := fun r e => (hr r e).2
  obtain ⟨gv, c, h⟩ := hs
  exact ⟨gv, c, h.low, Blk.own g _ (fun (_ : Unit) => _) () X Y row h.blk hg hr', own_own () h.own hg hr', h.vol, h.fit, h.one, h.top⟩
/-- while it is counted -/
structure CntI (w : World) (gc g m n : Nat) (V : List ByteArray) (l : List Nat) (pre : List (Fin 70)) (W : World) : Prop where
  fc : Blk W gc 3 #[.int .i64 (cntF V m l pre : Nat)]
  ff : FileX w.heap.size W g m n V l
  low : w.heap.size ≤ gc
  below : Below w.heap.size w W
theorem CntI.own {w : World} {gc g m n : Nat} {V : List ByteArray} {l : List Nat} {B : Nat} (hB : w.heap.size ≤ B) : OwnFrom B (fun pre W => CntI w gc g m n V l pre W) := fun s X Y row hs hg hr =>
  have hr' : ∀ r, row = some r → ∃ o : Obj, X.heap[r]? = some o ∧ o.isCells = false := fun r e => (hr r e).2
  ⟨Blk.own gc _ (fun (_ : Unit) => _) () X Y row hs.fc hg hr', FileX.own (β := Unit) (C := B) () X Y row hs.ff hg hr, hs.low, ownFrom_below (Nat.le_refl _) hB s X Y row hs.below hg hr⟩
theorem FileX.cell {w w' : World} {B g m n : Nat} {V : List ByteArray} {l : List Nat} (h : FileX B w g m n V l) {gc : Nat} {cs : Array Value} (hb : Blk w gc 3 cs) (hg : w.grownBy w' (some gc)) : FileX B w' g m n V l := by
  obtain ⟨gv, c, h⟩ := h
  refine ⟨gv, c, h.low, h.blk.grown hg (by intro e; exact h.blk.ne hb (by decide) (Option.some.inj e)), h.own.kept hg (.inr ?_), h.vol, h.fit, h.one, h.top⟩
  intro e
  have := own_ne h.own hb (by decide)
  exact this e.symm
theorem bool_nat (b : Bool) : (if b = true then 1 else 0 : Nat) = b.toNat := by cases b <;> rfl
end Go.Proofs.YtoanladhikdcaaaGreat

namespace Go.Proofs.YtoanladhikdcaaaGreat
open Go.RowKit Go.Shelf
set_option linter.unusedVariables false
set_option linter.unusedSimpArgs false
set_option maxRecDepth 100000
attribute [local go_sem] Oper.semAt_some
def intsC (l : List Int) : List Value := l.map (.int .i64 ·)
theorem intsC_snoc (l : List Int) (z : Int) : intsC (l ++ [z]) = intsC l ++ [.int .i64 z] := by unfold intsC; simp
/-- a slice of numbers of the call's own -/
def OwnInts (l : List Int) (w : World) (v : Value) (w' : World) : Prop := w'.ownsRow w.heap.size 3 1 v l.length (intsC l)
theorem OwnInts.read {ys : List Int} {w w' : World} {v : Value} (h : OwnInts ys w v w') : ∃ A c, v = .slice A ys.length c ∧ RowAt w' w'.heap.size A (intsC ys) := by
  unfold OwnInts at h
  by_cases hy : ys = []
  · subst hy
    rcases Go.Joins.ownsRow_forms h with ⟨e, _⟩ | ⟨g, cap, e⟩
    · exact ⟨none, 0, e, RowAt.nil⟩
    · exact ⟨_, cap, e, RowAt.nil⟩
  · obtain ⟨g, cap, rfl⟩ := Go.Joins.ownsRow_form h (List.length_pos_iff.2 hy)
    exact ⟨_, cap, rfl, RowAt.of_own h⟩
def toldF (f : Nat → Int) (pre : List (Fin 70)) : List Int := pre.map fun i => f i.1
theorem toldF_snoc (f : Nat → Int) (pre : List (Fin 70)) (x : Fin 70) : toldF f (pre ++ [x]) = toldF f pre ++ [f x.1] := by unfold toldF; simp
theorem toldF_all (f : Nat → Int) (c : Nat) (h : c ≤ 70) : toldF f (upK c) = (List.range c).map f := by
  unfold toldF
  rw [← upK_map c h, List.map_map]
  rfl
end Go.Proofs.YtoanladhikdcaaaGreat

namespace Go.Proofs.YtoanladhikdcaaaGreat
open Go.RowKit Go.Shelf
set_option linter.unusedVariables false
set_option linter.unusedSimpArgs false
set_option maxRecDepth 100000
/-- a builder is none the less one where no cells turn -/
theorem builderAt_grown {B b : Nat} {p : Value} {bs : List Value} {X Y : World} {row : Option Nat} (h : Lib.BuilderAtF 67 5 B b p bs X) (hg : X.grownBy Y row) (hr : ∀ r, row = some r → ∃ o : Obj, X.heap[r]? = some o ∧ o.isCells = false) : Lib.BuilderAtF 67 5 B b p bs Y := by
  obtain ⟨h1, v, h2, h3, h4⟩ := h
  have hlt : b < X.heap.size := by
    rcases Nat.lt_or_ge b X.heap.size with hlt | hge
    · exact hlt
    · rw [Array.getElem?_eq_none hge] at h2; cases h2
  refine ⟨h1, v, (hg.block b hlt ?_).trans h2, h3.kept hg ?_, h4⟩
  · intro e
    obtain ⟨o, ho, hc⟩ := hr b e.symm
    rw [h2] at ho; cases ho; cases hc
  · rcases h3.2 with ⟨rfl, _⟩ | ⟨g, cap, cur, fz, rfl, _, hh, _⟩
    · exact .inl rfl
    · right
      intro e
      obtain ⟨o, ho, hc⟩ := hr g e.symm
      rw [hh] at ho; cases ho; cases hc
theorem builder_grown {B b : Nat} {bs : List Value} {X Y : World} {row : Option Nat} (h : Lib.IsBuilderF 67 5 B b bs X) (hg : X.grownBy Y row) (hr : ∀ r, row = some r → ∃ o : Obj, X.heap[r]? = some o ∧ o.isCells = false) : Lib.IsBuilderF 67 5 B b bs Y :=
  h.elim (fun x => .inl (builderAt_grown x hg hr)) (fun x => .inr (builderAt_grown x hg hr))
theorem builder_below {B b : Nat} {bs : List Value} {X Y : World} (h : Lib.IsBuilderF 67 5 B b bs X) (hb : Below X.heap.size X Y) : Lib.IsBuilderF 67 5 B b bs Y :=
  builder_grown (row := none) h ⟨hb.os, hb.tape, hb.output, hb.size, fun k hk _ => hb.block k hk⟩ (fun r e => by cases e)
theorem builder_blk {B b : Nat} {bs : List Value} {X : World} (h : Lib.IsBuilderF 67 5 B b bs X) : ∃ cs, Blk X b 67 cs := by
  rcases h with ⟨_, v, h2, _⟩ | ⟨_, v, h2, _⟩ <;> exact ⟨_, h2⟩
theorem Blk.others {b g : Nat} {t : TypeId} {cs : Array Value} {X Y : World} (h : Blk X g t cs) (hk : Lib.OthersKept 5 (some b) X Y) (ht : t ≠ 5) (hne : g ≠ b) : Blk Y g t cs :=
  hk g _ h (by intro e; exact hne (Option.some.inj e)) (fun c fz e => by cases e; exact ht rfl)
theorem own_others {b : Nat} {e : TypeId} {base n : Nat} {v : Value} {xs : List Value} {X Y : World} (h : X.ownsRow base e 1 v n xs) (hk : Lib.OthersKept 5 (some b) X Y) (he : e ≠ 5) (hne : v.ownBlock ≠ some b) : Y.ownsRow base e 1 v n xs := by
  obtain ⟨h1, h2⟩ := h
  refine ⟨h1, ?_⟩
  rcases h2 with h2 | ⟨g, cap, cur, rfl, hg, hh, r⟩
  · exact .inl h2
  · exact .inr ⟨g, cap, cur, rfl, hg, hk g _ hh (by intro e'; exact hne e') (fun c fz e' => by cases e'; exact he rfl), r⟩
theorem FileX.others {b B g m n : Nat} {V : List ByteArray} {l : List Nat} {X Y : World} {cs : Array Value} (h : FileX B X g m n V l) (hb : Blk X b 67 cs) (hk : Lib.OthersKept 5 (some b) X Y) : FileX B Y g m n V l := by
  obtain ⟨gv, c, h⟩ := h
  refine ⟨gv, c, h.low, h.blk.others hk (by decide) (h.blk.ne hb (by decide)), own_others h.own hk (by decide) ?_, h.vol, h.fit, h.one, h.top⟩
  intro e
  have e' : gv = b := Option.some.inj e
  obtain ⟨cur, hc⟩ := own_blkT h.own
  exact hc.ne hb (by decide) e'
theorem keeps_others {b : Nat} {X Y : World} {cs : Array Value} (hb : Blk X b 67 cs) (hk : Lib.OthersKept 5 (some b) X Y) (hz : X.heap.size ≤ Y.heap.size) : KeepsOthers X Y :=
  ⟨hz, fun k o ho hc => hk k o ho (by
    intro e
    have e' : k = b := Option.some.inj e
    subst e'
    unfold Blk at hb
    rw [hb] at ho; cases ho; cases hc) (fun c fz e => by subst e; cases hc)⟩
/-- the greater, the lesser of two numbers, in a region that draws its order -/
theorem quiet_max {P : Program} {C : World → Prop} {K : Act → Prop} {o : Oper} {a : Act} (x y : Operand) (t : TypeId) (p q : Int) (ho : o.op = .call { callee := .builtin .max, args := #[x, y], argTypes := #[t, t] }) (hx : a.eval x = .int .i64 p) (hy : a.eval y = .int .i64 q)
    (hk : K (a.put o.dst (.int .i64 (max p q)))) : o.quiet P a C K :=
  ⟨.int .i64 (max p q), fun w hw => by
    unfold Oper.quietAt execOp
    simp only [ho, resolve, invoke, builtin, Sem.run_bind, Sem.run_pure, Result.andThen_ok, List.map_toArray, List.map_cons, List.map_nil, hx, hy]
    simp [go_sem], hk⟩
theorem quiet_min {P : Program} {C : World → Prop} {K : Act → Prop} {o : Oper} {a : Act} (x y : Operand) (t : TypeId) (p q : Int) (ho : o.op = .call { callee := .builtin .min, args := #[x, y], argTypes := #[t, t] }) (hx : a.eval x = .int .i64 p) (hy : a.eval y = .int .i64 q)
    (hk : K (a.put o.dst (.int .i64 (min p q)))) : o.quiet P a C K :=
  ⟨.int .i64 (min p q), fun w hw => by
    unfold Oper.quietAt execOp
    simp only [ho, resolve, invoke, builtin, Sem.run_bind, Sem.run_pure, Result.andThen_ok, List.map_toArray, List.map_cons, List.map_nil, hx, hy]
    simp [go_sem], hk⟩
theorem builder_new (B : Nat) (w : World) (h : B ≤ w.heap.size) : Lib.IsBuilderF 67 5 B w.heap.size (Lib.byteCells []) (w.alloc (.cells #[.pointer none, .slice none 0 0] 67)) :=
  .inl (Lib.BuilderAtF.of ⟨h, .slice none 0 0, Blk.new w _ _, World.ownsRow_nil _ _ _ _, by intro e; cases e⟩)
/-- what of a block's bytes is read -/
def pieF (xs : List ByteArray) (m : Nat) (l : List Nat) (off en k : Nat) : List UInt8 := (List.range' (max off (128 * k)) (min en (128 * (k + 1)) - max off (128 * k))).map (byteX xs m l)
def outF (xs : List ByteArray) (m : Nat) (l : List Nat) (off en : Nat) (pre : List (Fin 70)) : List UInt8 := pre.flatMap fun x => pieF xs m l off en x.1
section
variable (xs : List ByteArray) (m : Nat) (l : List Nat) (off en : Nat)
theorem outF_snoc (pre : List (Fin 70)) (x : Fin 70) : outF xs m l off en (pre ++ [x]) = outF xs m l off en pre ++ pieF xs m l off en x.1 := by
  unfold outF
  rw [List.flatMap_append]
  simp
theorem pieF_len (k : Nat) : (pieF xs m l off en k).length ≤ 128 := by
  unfold pieF
  rw [List.length_map, List.length_range']
  omega
theorem outF_len : ∀ pre : List (Fin 70), (outF xs m l off en pre).length ≤ 128 * pre.length
  | [] => by simp [outF]
  | x :: pre => by
    have ih := outF_len pre
    have hp := pieF_len xs m l off en x.1
    unfold outF at ih ⊢
    rw [List.flatMap_cons, List.length_append, List.length_cons]
    omega
theorem outF_all : ∀ c, c ≤ 70 → outF xs m l off en (upK c) = spanX xs m l off (min en (128 * c))
  | 0, _ => by
    rw [upK_zero]
    unfold outF spanX
    simp
  | c + 1, h => by
    rw [upK_succ c h, outF_snoc, outF_all c (by omega), spanX_step]
    rfl
theorem pieF_none (k : Nat) (h : en ≤ 128 * k ∨ en ≤ off ∨ 128 * (k + 1) ≤ off) : pieF xs m l off en k = [] := by
  unfold pieF
  rw [show min en (128 * (k + 1)) - max off (128 * k) = 0 by omega]
  rfl
theorem pieF_some (k p q : Nat) (hp : off - 128 * k = p) (hq : min en (128 * (k + 1)) = 128 * k + q) (hq2 : q ≤ 128) (hz : atX xs m l k ≠ 0 → (blkL xs (atX xs m l k)).length = 128) :
    pieF xs m l off en k = if atX xs m l k = 0 then List.replicate (q - p) 0 else ((blkL xs (atX xs m l k)).take q).drop p := by
  rw [← span_piece xs m l k p q hq2 hz]
  unfold pieF
  rw [hq, show max off (128 * k) = 128 * k + p by omega, show 128 * k + q - (128 * k + p) = q - p by omega]
theorem byteCells_app (a : List UInt8) (s : ByteArray) : Lib.byteCells a ++ Lib.strCells s = Lib.byteCells (a ++ s.data.toList) := by
  unfold Lib.byteCells Lib.strCells
  rw [List.map_append]
end
/-- while a file is read -/
structure RdI (w : World) (bo be gb Bc g m n : Nat) (V : List ByteArray) (l : List Nat) (off en : Nat) (cn : Int) (pre : List (Fin 70)) (W : World) : Prop where
  fb : Lib.IsBuilderF 67 5 w.heap.size gb (Lib.byteCells (outF V m l off en pre)) W
  ff : FileX w.heap.size W g m n V l
  fo : Blk W bo 3 #[.int .i64 (off : Int)]
  fe : Blk W be 3 #[.int .i64 (en : Int)]
  fc : Blk W Bc 3 #[.int .i64 cn]
  below : Below w.heap.size w W
theorem RdI.own {w : World} {bo be gb Bc g m n : Nat} {V : List ByteArray} {l : List Nat} {off en : Nat} {cn : Int} {B : Nat} (hB : w.heap.size ≤ B) : OwnFrom B (fun pre W => RdI w bo be gb Bc g m n V l off en cn pre W) := fun s X Y row hs hg hr =>
  have hr' : ∀ r, row = some r → ∃ o : Obj, X.heap[r]? = some o ∧ o.isCells = false := fun r e => (hr r e).2
  ⟨builder_grown hs.fb hg hr', FileX.own (β := Unit) (C := B) () X Y row hs.ff hg hr, Blk.own bo _ (fun (_ : Unit) => _) () X Y row hs.fo hg hr', Blk.own be _ (fun (_ : Unit) => _) () X Y row hs.fe hg hr', Blk.own Bc _ (fun (_ : Unit) => _) () X Y row hs.fc hg hr', ownFrom_below (Nat.le_refl _) hB s X Y row hs.below hg hr⟩
theorem RdI.later {w : World} {bo be gb Bc g m n : Nat} {V : List ByteArray} {l : List Nat} {off en : Nat} {cn : Int} {pre : List (Fin 70)} {X Y : World} (h : RdI w bo be gb Bc g m n V l off en cn pre X) (hb : Below X.heap.size X Y) : RdI w bo be gb Bc g m n V l off en cn pre Y :=
  ⟨builder_below h.fb hb, h.ff.below hb, h.fo.below hb h.fo.lt, h.fe.below hb h.fe.lt, h.fc.below hb h.fc.lt, h.below.trans (hb.mono h.below.size)⟩
/-- a string is written: what else there is lies as it lay -/
theorem RdI.wrote {w : World} {bo be gb Bc g m n : Nat} {V : List ByteArray} {l : List Nat} {off en : Nat} {cn : Int} {pre : List (Fin 70)} {X Y : World} {s : ByteArray} {x : Fin 70} (h : RdI w bo be gb Bc g m n V l off en cn pre X)
    (hs : pieF V m l off en x.1 = s.data.toList) (hb : Lib.BuilderAtF 67 5 w.heap.size gb (.pointer (some ⟨gb, 0, none⟩)) (Lib.byteCells (outF V m l off en pre) ++ Lib.strCells s) Y) (hw : Below w.heap.size X Y) (hk : Lib.OthersKept 5 (some gb) X Y) :
    RdI w bo be gb Bc g m n V l off en cn (pre ++ [x]) Y ∧ KeepsOthers X Y ∧ KeepB Bc X Y := by
  obtain ⟨cs, hB⟩ := builder_blk h.fb
  refine ⟨⟨?_, h.ff.others hB hk, h.fo.others hk (by decide) (h.fo.ne hB (by decide)), h.fe.others hk (by decide) (h.fe.ne hB (by decide)), h.fc.others hk (by decide) (h.fc.ne hB (by decide)), h.below.trans hw⟩, keeps_others hB hk hw.size, ?_⟩
  · rw [outF_snoc, hs, ← byteCells_app]
    exact .inr hb
  · intro cs' t hv
    have ht : t = 3 := by
      have a := hv
      have b := h.fc
      unfold Blk at a b
      rw [a] at b
      cases b
      rfl
    subst ht
    exact hv.others hk (by decide) (hv.ne hB (by decide))
end Go.Proofs.YtoanladhikdcaaaGreat

namespace Go.Proofs.YtoanladhikdcaaaGreat
open Go.RowKit Go.Shelf
set_option linter.unusedVariables false
set_option linter.unusedSimpArgs false
set_option maxRecDepth 100000
attribute [local go_sem] Oper.semAt_some
/-- what is read, and the code -/
def ReadPost (o : List UInt8 × Int) (w : World) (e : Ending) (w' : World) : Prop := e = .returned (.tuple #[.string ⟨o.1.toArray⟩, .int .i64 o.2]) ∧ Below w.heap.size w w'
theorem string_k (B b : Nat) (l : List UInt8) (w : World) (h : Lib.IsBuilderF 67 5 B b (Lib.byteCells l) w) (hBw : B ≤ w.heap.size) :
    Calls Tryz.prog 34 #[.pointer (some ⟨b, 0, none⟩)] w fun e w' => e = .returned (.string ⟨l.toArray⟩) ∧ (Lib.IsBuilderF 67 5 B b (Lib.byteCells l) w' ∧ Below B w w' ∧ Lib.OthersKept 5 (some b) w w') :=
  Any.Builder_String_any_k Tryz.lays169 Tryz.Builder_Extra_169 B b l w h hBw
set_option maxHeartbeats 8000000 in
theorem read_less (A : Option Addr) (c : Nat) (xs : List ByteArray) (n : Int) (off : Nat) (size : Int) (w : World) (hx : xs.length ≤ 1000000) (h : RowAt w w.heap.size A (xs.map .string)) (h0 : inoE xs n = 0) (hs0 : 0 ≤ size)
    (hof : off < sizeX (getR xs n)) (hsz : size < (sizeX (getR xs n) : Int) - (off : Int)) :
    Calls Tryz.prog 28 #[.slice A xs.length c, .int .i64 n, .int .i64 (off : Int), .int .i64 size] w (ReadPost (readO xs n (off : Int) size) w) := by
  have R0 := Lib.hid ((h.below ((Below.refl w.heap.size w).alloc (Nat.le_refl _) (.cells #[.int .i64 (off : Int)] 3))).mono (show w.heap.size ≤ (w.alloc (.cells #[.int .i64 (off : Int)] 3)).heap.size by simp))
  have CO := Lib.hid (opened_any A c xs n _ hx R0.out)
  unfold OpenPost at CO
  simp only [if_pos h0] at CO
  obtain ⟨m, k, hv, rfl, hk1, hk2, hk3⟩ := inoE_ok h0
  have hvl := hv.len
  have HO : Hid (∀ B g w2 gv c, B ≤ g → Blk w2 g 75 (fileC (.slice (some ⟨gv, 0, none⟩) xs.length c) xs.length (mO xs) (k : Int).toNat (getR xs (k : Int))) → w2.ownsRow B 9 1 (.slice (some ⟨gv, 0, none⟩) xs.length c) xs.length (xs.map .string) → FileX B w2 g m k xs (getR xs (k : Int))) := fun B g w2 gv c a b c' => by
    have hfit : FitN (getR xs (k : Int)) := by rw [getR_vol hv hk1 hk2]; exact inoR_fit _ _
    rw [mO_vol hv, Int.toNat_natCast] at b
    exact ⟨gv, c, a, b, c', hv, hfit, hk1, hk2⟩
  have HLL : Hid (∀ sl, (fileC sl xs.length (mO xs) (k : Int).toNat (getR xs (k : Int))).size = 20) := fun sl => fileC_size _ _ _ _ _ (getR_len _ _)
  have hsx := sizeX_le (getR xs (k : Int))
  have HBL128 : Hid (∀ b, b < xs.length → (xs.getD b ⟨#[]⟩).size = 128) := fun b hb => hv.size b hb
  obtain ⟨en, hen⟩ : ∃ en, min (off + size.toNat) (sizeX (getR xs (k : Int))) = en := ⟨_, rfl⟩
  have HW0 : Hid (readO xs (k : Int) (off : Int) size = (spanX xs m (getR xs (k : Int)) off en, 0)) := by
    show _ = _
    unfold readO readX
    rw [if_neg (by rw [h0]; simp), if_neg (by omega), mO_vol hv, Int.toNat_natCast, hen]
  obtain ⟨cn, hcn⟩ : ∃ cn, needN en = cn := ⟨_, rfl⟩
  have he1 : en ≤ 8960 := by omega
  have he2 : off ≤ en := by omega
  have hc70 : cn ≤ 70 := by rw [← hcn]; exact needN_le he1
  have hd1 : decide ((off : Int) < 0) = false := by simp
  have hd2 : decide (size < 0) = false := by simp; omega
  have hcd : ((en : Int) + 128 - 1) / 128 = (cn : Int) := by rw [← hcn]; unfold needN; omega
  have HEN : Hid (min en (128 * cn) = en) := by show _ = _; rw [← hcn]; unfold needN; omega
  have hen1 : (off : Int) + size = (en : Int) := by omega
  have hlt1 : size < (sizeX (getR xs (k : Int)) : Int) - (off : Int) := hsz
  have CS := Lib.hid (fun (B g : Nat) (w : World) (h : FileX B w g m k xs (getR xs (k : Int))) => size_any w h)
  have HATX : Hid (∀ j, atX xs m (getR xs (k : Int)) j < xs.length) := fun j => by
    unfold atX
    split
    · rename_i hd; exact (datB_iff.1 hd).2
    · omega
  clear h0 hk3 hv h hcn hen
  generalize hsxe : sizeX (getR xs (k : Int)) = sx at *
  have HSXE := Lib.hid hsxe
  clear hsxe CS
  refine (callsIn_wide (n := 4)).1 ?_
  refine callsIn_of_wp_marks Tryz.func28 rfl trivial ?_
  simp only [Tryz.ntmps28, List.size_toArray, List.length_cons, List.length_nil, Nat.reduceAdd, Nat.reduceSub, Array.replicate_succ, Array.replicate_zero, List.push_toArray, List.append_toArray, List.nil_append, List.cons_append]
  refine wpIn_wide.2 ?_
  have BB0 := Lib.hid ((Below.refl w.heap.size w).alloc (Nat.le_refl _) (.cells #[.int .i64 (off : Int)] 3))
  have FO0 := Lib.hid (Blk.new w 3 #[.int .i64 (off : Int)])
  go_wp2_with fail
  obtain ⟨w0, hw0⟩ : ∃ w0, w.alloc (.cells #[.int .i64 (off : Int)] 3) = w0 := ⟨_, rfl⟩
  rw [hw0] at CO R0 BB0 FO0 ⊢
  clear hw0
  refine CO.out.mono ?_
  rintro e w1 ⟨hb1, gv, cv, rfl, ho⟩
  have FO1 := Lib.hid (FO0.out.below hb1 FO0.out.lt)
  have B1 := Lib.hid (BB0.out.trans (hb1.mono BB0.out.size))
  have O1 := Lib.hid (own_low ho BB0.out.size)
  have hz1 := B1.out.size
  clear hb1 ho CO FO0 BB0 R0
  go_wp2_with (refine store_blk 75 (.tmp 10) (.tmp 22) w1.heap.size 75 fileZ (fileC (.slice (some ⟨gv, 0, none⟩) xs.length cv) xs.length (mO xs) (k : Int).toNat (getR xs (k : Int))) rfl rfl rfl rfl (Blk.new w1 _ _) (by rw [HLL.out]; rfl) (by rw [HLL.out]; kernel_rfl) (fileC_one _ _ _ _ _ _ _) ?_; intro w2 hr2 hg2; have FO2 := ((FO1.out.alloc _).grown hg2 (by intro e; have := FO1.out.lt; have := Option.some.inj e; omega)); have co2 := FO2.cell 0 rfl)
  have FX : Hid (FileX w.heap.size w2 w1.heap.size m k xs (getR xs (k : Int))) := HO.out _ _ _ gv cv hz1 hr2 (by
    refine (O1.out.alloc _).kept hg2 (.inr ?_)
    have := own_ne (O1.out.alloc _) (Blk.new w1 75 fileZ) (by decide)
    intro e; exact this e.symm)
  have BW : Hid (Below w.heap.size w w2) := (B1.out.alloc hz1 _).grown hg2 (by simp; omega) (fun k e => by cases e; exact hz1)
  have FO := Lib.hid FO2
  have CS2 := Lib.hid (size_any _ FX.out)
  rw [HSXE.out] at CS2
  generalize hg : w1.heap.size = g at *
  generalize getR xs (k : Int) = l at *
  clear hr2 hg2 HO O1 B1 HLL hg hz1 FO2 FO1
  refine CS2.out.mono ?_
  rintro e w3 ⟨rfl, rfl⟩
  have G3 := Lib.hid (Blk.new w2 3 #[.int .i64 (sx : Int)])
  have I3 := (Below.refl w2.heap.size w2).alloc (Nat.le_refl _) (.cells #[.int .i64 (sx : Int)] 3)
  have F3 := Lib.hid (FX.out.below I3)
  have O3 := Lib.hid (FO.out.below I3 FO.out.lt)
  have B3 := Lib.hid (BW.out.alloc BW.out.size (.cells #[.int .i64 (sx : Int)] 3))
  have c3 := O3.out.cell 0 rfl
  have hlt0 : w.heap.size < w2.heap.size := FO.out.lt
  have v1 : IntKind.i64.wrap ((sx : Int) - (off : Int)) = (sx : Int) - (off : Int) := IntWalk.i64_in _ (by omega)
  have v2 : ¬ (sx : Int) ≤ (off : Int) := by omega
  have v3 : decide (sx ≤ off) = false := by simp; omega
  have v4 : ¬ sx ≤ off := by omega
  clear I3
  go_wp2_with fail
  obtain ⟨W4, hW4⟩ : ∃ W4, ((w2.alloc (.cells #[.int .i64 (en : Int)] 3)).alloc (.cells #[.pointer none, .slice none 0 0] 67)) = W4 := ⟨_, rfl⟩
  have I4 : Below w2.heap.size w2 W4 := hW4 ▸ ((Below.refl _ _).alloc (Nat.le_refl _) _).alloc (by simp) _
  have FE4 : Hid (Blk W4 w2.heap.size 3 #[.int .i64 (en : Int)]) := hW4 ▸ (Blk.new w2 _ _).alloc _
  have FB4 : Hid (Lib.IsBuilderF 67 5 w.heap.size (w2.heap.size + 1) (Lib.byteCells []) W4) := by
    rw [← hW4]
    have := builder_new w.heap.size (w2.alloc (.cells #[.int .i64 (en : Int)] 3)) (by rw [World.size_alloc]; omega)
    rw [World.size_alloc] at this
    exact this
  have FO4 := Lib.hid (FO.out.below I4 FO.out.lt)
  have FX4 := Lib.hid (FX.out.below I4)
  have BW4 := Lib.hid (BW.out.trans (I4.mono BW.out.size))
  rw [hW4]
  clear hW4 I4 G3 F3 O3 B3 c3 FO FX BW co2 CS2
  refine (first_file (cn : Int) _ FX4.out).mono ?_
  rintro e w4 ⟨Bl, Bc, rfl, hbc, hlc, hbl, hbb, hb4⟩
  have H0 : Hid (RdI w w.heap.size w2.heap.size (w2.heap.size + 1) Bc g m k xs l off en (cn : Int) [] w4) := ⟨builder_below FB4.out hb4, FX4.out.below hb4, FO4.out.below hb4 FO4.out.lt, FE4.out.below hb4 FE4.out.lt, hbb, BW4.out.trans (hb4.mono BW4.out.size)⟩
  have HBL := Lib.hid hbl
  have HBB := Lib.hid hbb
  have hz4 : w.heap.size ≤ w4.heap.size := H0.out.below.size
  clear hbl hbb hb4 FB4 FX4 FO4 FE4 BW4 hbc hlc
  generalize w2.heap.size = be at *
  generalize be + 1 = gb at *
  go_wp2_with fail
  refine (wpIn_wide (n := 4)).1 ?_
  apply wpIn_rangeFunc_ownG rfl (by omega) (gf := 88) (lb := #[.pointer (some ⟨Bl, 0, none⟩), .pointer (some ⟨Bc, 0, none⟩)]) rfl trivial (enters_of Tryz.func88 (by kernel_rfl) rfl)
    (first_stops (atF xs m l) cn 3 hc70 (by omega) Bl Bc w4 HBL.out HBB.out)
    (fun h k => h.trans k) (fun W l o o' _ ho hc _ => KeepB.putObj W l o o' ho hc) (Below.refl _ _) (fun _ => rfl)
    (fun pre W => RdI w w.heap.size be gb Bc g m k xs l off en (cn : Int) pre W) (fun _ _ _ => False)
    (RdI.own hz4) (fun _ _ _ _ _ hs _ _ => hs) H0.out
  case hassign =>
    intro l x W K hK
    gi_wp2
    exact hK
  case hbody =>
    rintro ll pre x W hi hlt
    have HI := Lib.hid hi
    have hle := outF_len xs m l off en pre
    have u1 : ∀ u : Ext W, u.val.cell? ⟨w.heap.size, 0, none⟩ = some (.int .i64 (off : Int)) := fun u => u.cell (HI.out.fo.cell 0 rfl)
    have u2 : ∀ u : Ext W, u.val.cell? ⟨be, 0, none⟩ = some (.int .i64 (en : Int)) := fun u => u.cell (HI.out.fe.cell 0 rfl)
    have HXK : Hid (∃ j, x.1 = j ∧ j < 70) := ⟨_, rfl, x.2⟩
    obtain ⟨j, hj, hj70⟩ := HXK.out
    have HJ := Lib.hid hj
    have HAT : Hid (atF xs m l x.1 = atI (atX xs m l j)) := by show _ = _; rw [hj]; rfl
    rw [HAT.out]
    rw [hj]
    obtain ⟨P, hP⟩ : ∃ P : Nat, off - 128 * j = P := ⟨_, rfl⟩
    obtain ⟨Q, hQ⟩ : ∃ Q : Int, min ((en : Int) - (j : Int) * 128) 128 = Q := ⟨_, rfl⟩
    have e1 : max ((off : Int) - (j : Int) * 128) 0 = (P : Int) := by omega
    have w1' : IntKind.i64.wrap ((j : Int) * 128) = (j : Int) * 128 := IntWalk.i64_in _ (by omega)
    have w2' : IntKind.i64.wrap ((off : Int) - (j : Int) * 128) = (off : Int) - (j : Int) * 128 := IntWalk.i64_in _ (by omega)
    have w3' : IntKind.i64.wrap ((en : Int) - (j : Int) * 128) = (en : Int) - (j : Int) * 128 := IntWalk.i64_in _ (by omega)
    clear hi hj
    gi_wp2_with fail
    refine wpIn_round_ext (by kernel_rfl) (by kernel_rfl) (by kernel_rfl) ?_
    repeat (first
      | (go_big_quiet_want; refine quiet_max (.tmp 55) (.const (.int .i64 0)) 3 _ _ rfl rfl rfl ?_; rw [e1]; go_frame; go_big_quiet_on)
      | (go_big_quiet_want; refine quiet_min (.tmp 60) (.const (.int .i64 128)) 3 _ _ rfl rfl rfl ?_; rw [hQ]; go_frame; go_big_quiet_on)
      | go_big_quiet_step (fail))
    refine wpQuiet_nil ?_
    rintro _ ⟨u, rfl⟩
    have HI2 := Lib.hid (HI.out.later u.below)
    have S2 : Hid (KeepsOthers W u.val) := keeps_below u.below
    have K2 : Hid (KeepB Bc W u.val) := KeepB.below u.below
    generalize u.val = W2 at *
    clear u1 u2
    by_cases hQP : Q ≤ (P : Int)
    · have HN : Hid (pieF xs m l off en j = []) := pieF_none _ _ _ _ _ _ (by omega)
      gi_wp2
      refine ⟨S2.out.from _, K2.out, ?_⟩
      have := HI2.out
      exact ⟨by rw [outF_snoc, HJ.out, HN.out, List.append_nil]; exact this.fb, this.ff, this.fo, this.fe, this.fc, this.below⟩
    · obtain ⟨q, rfl⟩ := Int.eq_ofNat_of_zero_le (show 0 ≤ Q by omega)
      have hq2 : q ≤ 128 := by omega
      have hqm : min en (128 * (j + 1)) = 128 * j + q := by omega
      have hqp : ¬ q ≤ P := by omega
      have HPS := Lib.hid (pieF_some xs m l off en j P q hP hqm hq2 (fun hz => by
        unfold blkL
        rw [Array.length_toList]
        exact HBL128.out _ (HATX.out j)))
      obtain ⟨z, hzq⟩ : ∃ z, q - P = z := ⟨_, rfl⟩
      rw [hzq] at HPS
      have v5 : IntKind.i64.wrap ((q : Int) - (P : Int)) = (z : Int) := by rw [show (q : Int) - (P : Int) = (z : Int) by omega]; exact IntWalk.i64_in _ (by omega)
      have hz70 : z ≤ 128 := by omega
      clear hzq
      have hbl : (Lib.byteCells (outF xs m l off en pre)).length ≤ 8960 := by rw [Lib.byteCells_length]; omega
      have hsz2 := HI2.out.below.size
      clear hQ e1 w1' w2' w3' hqm
      by_cases hz : atX xs m l j = 0
      · have hv : atI (atX xs m l j) = -1 := by unfold atI; rw [if_pos hz]
        rw [if_pos hz] at HPS
        rw [hv]
        clear hv hz
        gi_wp2_with fail
        refine ⟨trivial, ?_⟩
        refine (CallsIn.inRound ll (callsIn_wide.2 (Tryz.strings_Repeat ⟨#[0]⟩ z W2 (by omega) (by show 1 * z ≤ _; omega)))).mono ?_
        rw [repeat_zero z]
        rintro e w5 ⟨rfl, hb5⟩
        have HI5 := Lib.hid (HI2.out.later hb5)
        have S5 : Hid (KeepsOthers W w5) := S2.out.trans (keeps_below hb5)
        have K5 : Hid (KeepB Bc W w5) := K2.out.trans (KeepB.below hb5)
        have hsz5 := HI5.out.below.size
        clear hb5 HI2 S2 K2
        have hz128 : (zerosB z).size = z := by show (List.replicate z (0 : UInt8)).toArray.size = z; simp
        have HZL : Hid ((zerosB z).data.toList = List.replicate z 0) := rfl
        have CW := Lib.hid (Tryz.Builder_WriteString_k w.heap.size gb _ (zerosB z) w5 HI5.out.fb (by rw [hz128]; omega) hsz5)
        clear hz128
        generalize zerosB z = zs at *
        gi_wp2_with fail
        refine ⟨trivial, ?_⟩
        refine (CallsIn.inRound ll (callsIn_wide.2 CW.out)).mono ?_
        rintro e w6 ⟨rfl, hba, hbw, hok⟩
        obtain ⟨r1, r2, r3⟩ := HI5.out.wrote (x := x) (s := zs) (by rw [HJ.out, HPS.out, HZL.out]) hba hbw hok
        have R1 := Lib.hid r1
        have R2 := Lib.hid (S5.out.trans r2)
        have R3 := Lib.hid (K5.out.trans r3)
        clear r1 r2 r3 hba hbw hok CW HI5
        gi_wp2
        exact ⟨R2.out.from _, R3.out, R1.out⟩
      · rw [if_neg hz] at HPS
        obtain ⟨b, hb⟩ : ∃ b, atX xs m l j = b := ⟨_, rfl⟩
        rw [hb] at hz
        have hv : atI (atX xs m l j) = (b : Int) := by unfold atI; rw [hb, if_neg hz]
        have hbx : b < xs.length := by rw [← hb]; exact HATX.out j
        rw [hb] at HPS
        rw [hv]
        obtain ⟨gv3, c3, hF3⟩ := HI2.out.ff
        have cv0 : W2.cell? ⟨g, 0, none⟩ = some (.slice (some ⟨gv3, 0, none⟩) xs.length c3) := hF3.blk.cell 0 rfl
        have cb : W2.cell? ⟨gv3, b, none⟩ = some (.string (xs.getD b ⟨#[]⟩)) := by
          rw [hF3.own.cellAt b (by omega)]
          rw [List.getElem?_map, List.getD_eq_getElem?_getD, List.getElem?_eq_getElem hbx]; rfl
        have hs128 := HBL128.out b hbx
        unfold blkL at HPS
        generalize xs.getD b ⟨#[]⟩ = s at *
        have s1 : (P : Int) ≤ (q : Int) := by omega
        have s2 : (q : Int) ≤ (s.size : Int) := by omega
        have s3 : (b : Int) < (xs.length : Int) := by omega
        have s4 : ¬ (b : Int) = -1 := by omega
        have s5 : ((b : Int) == -1) = false := by simp
        have HXS : Hid ((s.extract P q).size ≤ 128) := by show _ ≤ _; rw [ByteArray.size_extract]; omega
        have HXD : Hid ((s.data.toList.take q).drop P = (s.extract P q).data.toList) := by show _ = _; rw [Lib.extract_data, List.drop_take]
        have CW := Lib.hid (Tryz.Builder_WriteString_k w.heap.size gb _ (s.extract P q) W2 HI2.out.fb (by have := HXS.out; omega) hsz2)
        clear hv hb hF3 hs128
        gi_wp2_with fail
        refine ⟨trivial, ?_⟩
        refine (CallsIn.inRound ll (callsIn_wide.2 CW.out)).mono ?_
        rintro e w6 ⟨rfl, hba, hbw, hok⟩
        obtain ⟨r1, r2, r3⟩ := HI2.out.wrote (x := x) (s := s.extract P q) (by rw [HJ.out, HPS.out, HXD.out]) hba hbw hok
        have R1 := Lib.hid r1
        have R2 := Lib.hid (S2.out.trans r2)
        have R3 := Lib.hid (K2.out.trans r3)
        clear r1 r2 r3 hba hbw hok CW
        gi_wp2
        exact ⟨R2.out.from _, R3.out, R1.out⟩
  case hdone =>
    rintro D ys W hD rfl hi hK
    have HI := Lib.hid hi
    have HK := Lib.hid hK
    have HS := Lib.hid (string_k w.heap.size gb _ W hi.fb hi.below.size)
    have HDG : Hid (D ≠ gb) := by
      obtain ⟨cs, hB⟩ := builder_blk hi.fb
      intro e
      subst e
      unfold Blk at hB
      rw [hB] at hK
      cases hK
    rw [outF_all _ _ _ _ _ _ hc70, HEN.out] at HS
    have HW := Lib.hid HW0.out
    clear hi hK
    generalize spanX xs m l off en = sp at *
    go_wp2_with fail
    refine HS.out.mono ?_
    rintro e w6 ⟨rfl, hbb, hbw, hok⟩
    have HK6 : Hid (w6.heap[D]? = some (.deferred (some []))) := hok D _ HK.out (by intro e; exact HDG.out (Option.some.inj e)) (fun c fz e => by cases e)
    have B6 := Lib.hid (HI.out.below.trans hbw)
    go_wp2
    refine ⟨by simp, .inl ⟨_, _, rfl, run_takeDeferred HK6.out, ?_⟩⟩
    refine ⟨_, results_tmp2 rfl _ _ _, ⟨?_, ?_⟩⟩
    · rw [HW.out]; rfl
    · exact B6.out.trans (belowK_b (w := w4) (by omega) w6 D _ _ (by omega) HK6.out rfl rfl)
  case hstop =>
    rintro D c pre W _ _ h _
    exact h.elim
set_option maxHeartbeats 8000000 in
theorem read_full (A : Option Addr) (c : Nat) (xs : List ByteArray) (n : Int) (off : Nat) (size : Int) (w : World) (hx : xs.length ≤ 1000000) (h : RowAt w w.heap.size A (xs.map .string)) (h0 : inoE xs n = 0) (hs0 : 0 ≤ size)
    (hof : off < sizeX (getR xs n)) (hsz : ¬ size < (sizeX (getR xs n) : Int) - (off : Int)) :
    Calls Tryz.prog 28 #[.slice A xs.length c, .int .i64 n, .int .i64 (off : Int), .int .i64 size] w (ReadPost (readO xs n (off : Int) size) w) := by
  have R0 := Lib.hid ((h.below ((Below.refl w.heap.size w).alloc (Nat.le_refl _) (.cells #[.int .i64 (off : Int)] 3))).mono (show w.heap.size ≤ (w.alloc (.cells #[.int .i64 (off : Int)] 3)).heap.size by simp))
  have CO := Lib.hid (opened_any A c xs n _ hx R0.out)
  unfold OpenPost at CO
  simp only [if_pos h0] at CO
  obtain ⟨m, k, hv, rfl, hk1, hk2, hk3⟩ := inoE_ok h0
  have hvl := hv.len
  have HO : Hid (∀ B g w2 gv c, B ≤ g → Blk w2 g 75 (fileC (.slice (some ⟨gv, 0, none⟩) xs.length c) xs.length (mO xs) (k : Int).toNat (getR xs (k : Int))) → w2.ownsRow B 9 1 (.slice (some ⟨gv, 0, none⟩) xs.length c) xs.length (xs.map .string) → FileX B w2 g m k xs (getR xs (k : Int))) := fun B g w2 gv c a b c' => by
    have hfit : FitN (getR xs (k : Int)) := by rw [getR_vol hv hk1 hk2]; exact inoR_fit _ _
    rw [mO_vol hv, Int.toNat_natCast] at b
    exact ⟨gv, c, a, b, c', hv, hfit, hk1, hk2⟩
  have HLL : Hid (∀ sl, (fileC sl xs.length (mO xs) (k : Int).toNat (getR xs (k : Int))).size = 20) := fun sl => fileC_size _ _ _ _ _ (getR_len _ _)
  have hsx := sizeX_le (getR xs (k : Int))
  have HBL128 : Hid (∀ b, b < xs.length → (xs.getD b ⟨#[]⟩).size = 128) := fun b hb => hv.size b hb
  obtain ⟨en, hen⟩ : ∃ en, min (off + size.toNat) (sizeX (getR xs (k : Int))) = en := ⟨_, rfl⟩
  have HW0 : Hid (readO xs (k : Int) (off : Int) size = (spanX xs m (getR xs (k : Int)) off en, 0)) := by
    show _ = _
    unfold readO readX
    rw [if_neg (by rw [h0]; simp), if_neg (by omega), mO_vol hv, Int.toNat_natCast, hen]
  obtain ⟨cn, hcn⟩ : ∃ cn, needN en = cn := ⟨_, rfl⟩
  have he1 : en ≤ 8960 := by omega
  have he2 : off ≤ en := by omega
  have hc70 : cn ≤ 70 := by rw [← hcn]; exact needN_le he1
  have hd1 : decide ((off : Int) < 0) = false := by simp
  have hd2 : decide (size < 0) = false := by simp; omega
  have hcd : ((en : Int) + 128 - 1) / 128 = (cn : Int) := by rw [← hcn]; unfold needN; omega
  have HEN : Hid (min en (128 * cn) = en) := by show _ = _; rw [← hcn]; unfold needN; omega
  have hen1 : sizeX (getR xs (k : Int)) = en := by omega
  have hlt1 : ¬ size < (sizeX (getR xs (k : Int)) : Int) - (off : Int) := hsz
  have CS := Lib.hid (fun (B g : Nat) (w : World) (h : FileX B w g m k xs (getR xs (k : Int))) => size_any w h)
  have HATX : Hid (∀ j, atX xs m (getR xs (k : Int)) j < xs.length) := fun j => by
    unfold atX
    split
    · rename_i hd; exact (datB_iff.1 hd).2
    · omega
  clear h0 hk3 hv h hcn hen
  generalize hsxe : sizeX (getR xs (k : Int)) = sx at *
  have HSXE := Lib.hid hsxe
  clear hsxe CS
  refine (callsIn_wide (n := 4)).1 ?_
  refine callsIn_of_wp_marks Tryz.func28 rfl trivial ?_
  simp only [Tryz.ntmps28, List.size_toArray, List.length_cons, List.length_nil, Nat.reduceAdd, Nat.reduceSub, Array.replicate_succ, Array.replicate_zero, List.push_toArray, List.append_toArray, List.nil_append, List.cons_append]
  refine wpIn_wide.2 ?_
  have BB0 := Lib.hid ((Below.refl w.heap.size w).alloc (Nat.le_refl _) (.cells #[.int .i64 (off : Int)] 3))
  have FO0 := Lib.hid (Blk.new w 3 #[.int .i64 (off : Int)])
  go_wp2_with fail
  obtain ⟨w0, hw0⟩ : ∃ w0, w.alloc (.cells #[.int .i64 (off : Int)] 3) = w0 := ⟨_, rfl⟩
  rw [hw0] at CO R0 BB0 FO0 ⊢
  clear hw0
  refine CO.out.mono ?_
  rintro e w1 ⟨hb1, gv, cv, rfl, ho⟩
  have FO1 := Lib.hid (FO0.out.below hb1 FO0.out.lt)
  have B1 := Lib.hid (BB0.out.trans (hb1.mono BB0.out.size))
  have O1 := Lib.hid (own_low ho BB0.out.size)
  have hz1 := B1.out.size
  clear hb1 ho CO FO0 BB0 R0
  go_wp2_with (refine store_blk 75 (.tmp 10) (.tmp 22) w1.heap.size 75 fileZ (fileC (.slice (some ⟨gv, 0, none⟩) xs.length cv) xs.length (mO xs) (k : Int).toNat (getR xs (k : Int))) rfl rfl rfl rfl (Blk.new w1 _ _) (by rw [HLL.out]; rfl) (by rw [HLL.out]; kernel_rfl) (fileC_one _ _ _ _ _ _ _) ?_; intro w2 hr2 hg2; have FO2 := ((FO1.out.alloc _).grown hg2 (by intro e; have := FO1.out.lt; have := Option.some.inj e; omega)); have co2 := FO2.cell 0 rfl)
  have FX : Hid (FileX w.heap.size w2 w1.heap.size m k xs (getR xs (k : Int))) := HO.out _ _ _ gv cv hz1 hr2 (by
    refine (O1.out.alloc _).kept hg2 (.inr ?_)
    have := own_ne (O1.out.alloc _) (Blk.new w1 75 fileZ) (by decide)
    intro e; exact this e.symm)
  have BW : Hid (Below w.heap.size w w2) := (B1.out.alloc hz1 _).grown hg2 (by simp; omega) (fun k e => by cases e; exact hz1)
  have FO := Lib.hid FO2
  have CS2 := Lib.hid (size_any _ FX.out)
  rw [HSXE.out] at CS2
  generalize hg : w1.heap.size = g at *
  generalize getR xs (k : Int) = l at *
  clear hr2 hg2 HO O1 B1 HLL hg hz1 FO2 FO1
  refine CS2.out.mono ?_
  rintro e w3 ⟨rfl, rfl⟩
  have G3 := Lib.hid (Blk.new w2 3 #[.int .i64 (sx : Int)])
  have I3 := (Below.refl w2.heap.size w2).alloc (Nat.le_refl _) (.cells #[.int .i64 (sx : Int)] 3)
  have F3 := Lib.hid (FX.out.below I3)
  have O3 := Lib.hid (FO.out.below I3 FO.out.lt)
  have B3 := Lib.hid (BW.out.alloc BW.out.size (.cells #[.int .i64 (sx : Int)] 3))
  have c3 := O3.out.cell 0 rfl
  have hlt0 : w.heap.size < w2.heap.size := FO.out.lt
  have v1 : IntKind.i64.wrap ((sx : Int) - (off : Int)) = (sx : Int) - (off : Int) := IntWalk.i64_in _ (by omega)
  have v2 : ¬ (sx : Int) ≤ (off : Int) := by omega
  have v3 : decide (sx ≤ off) = false := by simp; omega
  have v4 : ¬ sx ≤ off := by omega
  clear I3
  go_wp2_with fail
  obtain ⟨W4, hW4⟩ : ∃ W4, ((w2.alloc (.cells #[.int .i64 (en : Int)] 3)).alloc (.cells #[.pointer none, .slice none 0 0] 67)) = W4 := ⟨_, rfl⟩
  have I4 : Below w2.heap.size w2 W4 := hW4 ▸ ((Below.refl _ _).alloc (Nat.le_refl _) _).alloc (by simp) _
  have FE4 : Hid (Blk W4 w2.heap.size 3 #[.int .i64 (en : Int)]) := hW4 ▸ (Blk.new w2 _ _).alloc _
  have FB4 : Hid (Lib.IsBuilderF 67 5 w.heap.size (w2.heap.size + 1) (Lib.byteCells []) W4) := by
    rw [← hW4]
    have := builder_new w.heap.size (w2.alloc (.cells #[.int .i64 (en : Int)] 3)) (by rw [World.size_alloc]; omega)
    rw [World.size_alloc] at this
    exact this
  have FO4 := Lib.hid (FO.out.below I4 FO.out.lt)
  have FX4 := Lib.hid (FX.out.below I4)
  have BW4 := Lib.hid (BW.out.trans (I4.mono BW.out.size))
  rw [hW4]
  clear hW4 I4 G3 F3 O3 B3 c3 FO FX BW co2 CS2
  refine (first_file (cn : Int) _ FX4.out).mono ?_
  rintro e w4 ⟨Bl, Bc, rfl, hbc, hlc, hbl, hbb, hb4⟩
  have H0 : Hid (RdI w w.heap.size w2.heap.size (w2.heap.size + 1) Bc g m k xs l off en (cn : Int) [] w4) := ⟨builder_below FB4.out hb4, FX4.out.below hb4, FO4.out.below hb4 FO4.out.lt, FE4.out.below hb4 FE4.out.lt, hbb, BW4.out.trans (hb4.mono BW4.out.size)⟩
  have HBL := Lib.hid hbl
  have HBB := Lib.hid hbb
  have hz4 : w.heap.size ≤ w4.heap.size := H0.out.below.size
  clear hbl hbb hb4 FB4 FX4 FO4 FE4 BW4 hbc hlc
  generalize w2.heap.size = be at *
  generalize be + 1 = gb at *
  go_wp2_with fail
  refine (wpIn_wide (n := 4)).1 ?_
  apply wpIn_rangeFunc_ownG rfl (by omega) (gf := 88) (lb := #[.pointer (some ⟨Bl, 0, none⟩), .pointer (some ⟨Bc, 0, none⟩)]) rfl trivial (enters_of Tryz.func88 (by kernel_rfl) rfl)
    (first_stops (atF xs m l) cn 3 hc70 (by omega) Bl Bc w4 HBL.out HBB.out)
    (fun h k => h.trans k) (fun W l o o' _ ho hc _ => KeepB.putObj W l o o' ho hc) (Below.refl _ _) (fun _ => rfl)
    (fun pre W => RdI w w.heap.size be gb Bc g m k xs l off en (cn : Int) pre W) (fun _ _ _ => False)
    (RdI.own hz4) (fun _ _ _ _ _ hs _ _ => hs) H0.out
  case hassign =>
    intro l x W K hK
    gi_wp2
    exact hK
  case hbody =>
    rintro ll pre x W hi hlt
    have HI := Lib.hid hi
    have hle := outF_len xs m l off en pre
    have u1 : ∀ u : Ext W, u.val.cell? ⟨w.heap.size, 0, none⟩ = some (.int .i64 (off : Int)) := fun u => u.cell (HI.out.fo.cell 0 rfl)
    have u2 : ∀ u : Ext W, u.val.cell? ⟨be, 0, none⟩ = some (.int .i64 (en : Int)) := fun u => u.cell (HI.out.fe.cell 0 rfl)
    have HXK : Hid (∃ j, x.1 = j ∧ j < 70) := ⟨_, rfl, x.2⟩
    obtain ⟨j, hj, hj70⟩ := HXK.out
    have HJ := Lib.hid hj
    have HAT : Hid (atF xs m l x.1 = atI (atX xs m l j)) := by show _ = _; rw [hj]; rfl
    rw [HAT.out]
    rw [hj]
    obtain ⟨P, hP⟩ : ∃ P : Nat, off - 128 * j = P := ⟨_, rfl⟩
    obtain ⟨Q, hQ⟩ : ∃ Q : Int, min ((en : Int) - (j : Int) * 128) 128 = Q := ⟨_, rfl⟩
    have e1 : max ((off : Int) - (j : Int) * 128) 0 = (P : Int) := by omega
    have w1' : IntKind.i64.wrap ((j : Int) * 128) = (j : Int) * 128 := IntWalk.i64_in _ (by omega)
    have w2' : IntKind.i64.wrap ((off : Int) - (j : Int) * 128) = (off : Int) - (j : Int) * 128 := IntWalk.i64_in _ (by omega)
    have w3' : IntKind.i64.wrap ((en : Int) - (j : Int) * 128) = (en : Int) - (j : Int) * 128 := IntWalk.i64_in _ (by omega)
    clear hi hj
    gi_wp2_with fail
    refine wpIn_round_ext (by kernel_rfl) (by kernel_rfl) (by kernel_rfl) ?_
    repeat (first
      | (go_big_quiet_want; refine quiet_max (.tmp 55) (.const (.int .i64 0)) 3 _ _ rfl rfl rfl ?_; rw [e1]; go_frame; go_big_quiet_on)
      | (go_big_quiet_want; refine quiet_min (.tmp 60) (.const (.int .i64 128)) 3 _ _ rfl rfl rfl ?_; rw [hQ]; go_frame; go_big_quiet_on)
      | go_big_quiet_step (fail))
    refine wpQuiet_nil ?_
    rintro _ ⟨u, rfl⟩
    have HI2 := Lib.hid (HI.out.later u.below)
    have S2 : Hid (KeepsOthers W u.val) := keeps_below u.below
    have K2 : Hid (KeepB Bc W u.val) := KeepB.below u.below
    generalize u.val = W2 at *
    clear u1 u2
    by_cases hQP : Q ≤ (P : Int)
    · have HN : Hid (pieF xs m l off en j = []) := pieF_none _ _ _ _ _ _ (by omega)
      gi_wp2
      refine ⟨S2.out.from _, K2.out, ?_⟩
      have := HI2.out
      exact ⟨by rw [outF_snoc, HJ.out, HN.out, List.append_nil]; exact this.fb, this.ff, this.fo, this.fe, this.fc, this.below⟩
    · obtain ⟨q, rfl⟩ := Int.eq_ofNat_of_zero_le (show 0 ≤ Q by omega)
      have hq2 : q ≤ 128 := by omega
      have hqm : min en (128 * (j + 1)) = 128 * j + q := by omega
      have hqp : ¬ q ≤ P := by omega
      have HPS := Lib.hid (pieF_some xs m l off en j P q hP hqm hq2 (fun hz => by
        unfold blkL
        rw [Array.length_toList]
        exact HBL128.out _ (HATX.out j)))
      obtain ⟨z, hzq⟩ : ∃ z, q - P = z := ⟨_, rfl⟩
      rw [hzq] at HPS
      have v5 : IntKind.i64.wrap ((q : Int) - (P : Int)) = (z : Int) := by rw [show (q : Int) - (P : Int) = (z : Int) by omega]; exact IntWalk.i64_in _ (by omega)
      have hz70 : z ≤ 128 := by omega
      clear hzq
      have hbl : (Lib.byteCells (outF xs m l off en pre)).length ≤ 8960 := by rw [Lib.byteCells_length]; omega
      have hsz2 := HI2.out.below.size
      clear hQ e1 w1' w2' w3' hqm
      by_cases hz : atX xs m l j = 0
      · have hv : atI (atX xs m l j) = -1 := by unfold atI; rw [if_pos hz]
        rw [if_pos hz] at HPS
        rw [hv]
        clear hv hz
        gi_wp2_with fail
        refine ⟨trivial, ?_⟩
        refine (CallsIn.inRound ll (callsIn_wide.2 (Tryz.strings_Repeat ⟨#[0]⟩ z W2 (by omega) (by show 1 * z ≤ _; omega)))).mono ?_
        rw [repeat_zero z]
        rintro e w5 ⟨rfl, hb5⟩
        have HI5 := Lib.hid (HI2.out.later hb5)
        have S5 : Hid (KeepsOthers W w5) := S2.out.trans (keeps_below hb5)
        have K5 : Hid (KeepB Bc W w5) := K2.out.trans (KeepB.below hb5)
        have hsz5 := HI5.out.below.size
        clear hb5 HI2 S2 K2
        have hz128 : (zerosB z).size = z := by show (List.replicate z (0 : UInt8)).toArray.size = z; simp
        have HZL : Hid ((zerosB z).data.toList = List.replicate z 0) := rfl
        have CW := Lib.hid (Tryz.Builder_WriteString_k w.heap.size gb _ (zerosB z) w5 HI5.out.fb (by rw [hz128]; omega) hsz5)
        clear hz128
        generalize zerosB z = zs at *
        gi_wp2_with fail
        refine ⟨trivial, ?_⟩
        refine (CallsIn.inRound ll (callsIn_wide.2 CW.out)).mono ?_
        rintro e w6 ⟨rfl, hba, hbw, hok⟩
        obtain ⟨r1, r2, r3⟩ := HI5.out.wrote (x := x) (s := zs) (by rw [HJ.out, HPS.out, HZL.out]) hba hbw hok
        have R1 := Lib.hid r1
        have R2 := Lib.hid (S5.out.trans r2)
        have R3 := Lib.hid (K5.out.trans r3)
        clear r1 r2 r3 hba hbw hok CW HI5
        gi_wp2
        exact ⟨R2.out.from _, R3.out, R1.out⟩
      · rw [if_neg hz] at HPS
        obtain ⟨b, hb⟩ : ∃ b, atX xs m l j = b := ⟨_, rfl⟩
        rw [hb] at hz
        have hv : atI (atX xs m l j) = (b : Int) := by unfold atI; rw [hb, if_neg hz]
        have hbx : b < xs.length := by rw [← hb]; exact HATX.out j
        rw [hb] at HPS
        rw [hv]
        obtain ⟨gv3, c3, hF3⟩ := HI2.out.ff
        have cv0 : W2.cell? ⟨g, 0, none⟩ = some (.slice (some ⟨gv3, 0, none⟩) xs.length c3) := hF3.blk.cell 0 rfl
        have cb : W2.cell? ⟨gv3, b, none⟩ = some (.string (xs.getD b ⟨#[]⟩)) := by
          rw [hF3.own.cellAt b (by omega)]
          rw [List.getElem?_map, List.getD_eq_getElem?_getD, List.getElem?_eq_getElem hbx]; rfl
        have hs128 := HBL128.out b hbx
        unfold blkL at HPS
        generalize xs.getD b ⟨#[]⟩ = s at *
        have s1 : (P : Int) ≤ (q : Int) := by omega
        have s2 : (q : Int) ≤ (s.size : Int) := by omega
        have s3 : (b : Int) < (xs.length : Int) := by omega
        have s4 : ¬ (b : Int) = -1 := by omega
        have s5 : ((b : Int) == -1) = false := by simp
        have HXS : Hid ((s.extract P q).size ≤ 128) := by show _ ≤ _; rw [ByteArray.size_extract]; omega
        have HXD : Hid ((s.data.toList.take q).drop P = (s.extract P q).data.toList) := by show _ = _; rw [Lib.extract_data, List.drop_take]
        have CW := Lib.hid (Tryz.Builder_WriteString_k w.heap.size gb _ (s.extract P q) W2 HI2.out.fb (by have := HXS.out; omega) hsz2)
        clear hv hb hF3 hs128
        gi_wp2_with fail
        refine ⟨trivial, ?_⟩
        refine (CallsIn.inRound ll (callsIn_wide.2 CW.out)).mono ?_
        rintro e w6 ⟨rfl, hba, hbw, hok⟩
        obtain ⟨r1, r2, r3⟩ := HI2.out.wrote (x := x) (s := s.extract P q) (by rw [HJ.out, HPS.out, HXD.out]) hba hbw hok
        have R1 := Lib.hid r1
        have R2 := Lib.hid (S2.out.trans r2)
        have R3 := Lib.hid (K2.out.trans r3)
        clear r1 r2 r3 hba hbw hok CW
        gi_wp2
        exact ⟨R2.out.from _, R3.out, R1.out⟩
  case hdone =>
    rintro D ys W hD rfl hi hK
    have HI := Lib.hid hi
    have HK := Lib.hid hK
    have HS := Lib.hid (string_k w.heap.size gb _ W hi.fb hi.below.size)
    have HDG : Hid (D ≠ gb) := by
      obtain ⟨cs, hB⟩ := builder_blk hi.fb
      intro e
      subst e
      unfold Blk at hB
      rw [hB] at hK
      cases hK
    rw [outF_all _ _ _ _ _ _ hc70, HEN.out] at HS
    have HW := Lib.hid HW0.out
    clear hi hK
    generalize spanX xs m l off en = sp at *
    go_wp2_with fail
    refine HS.out.mono ?_
    rintro e w6 ⟨rfl, hbb, hbw, hok⟩
    have HK6 : Hid (w6.heap[D]? = some (.deferred (some []))) := hok D _ HK.out (by intro e; exact HDG.out (Option.some.inj e)) (fun c fz e => by cases e)
    have B6 := Lib.hid (HI.out.below.trans hbw)
    go_wp2
    refine ⟨by simp, .inl ⟨_, _, rfl, run_takeDeferred HK6.out, ?_⟩⟩
    refine ⟨_, results_tmp2 rfl _ _ _, ⟨?_, ?_⟩⟩
    · rw [HW.out]; rfl
    · exact B6.out.trans (belowK_b (w := w4) (by omega) w6 D _ _ (by omega) HK6.out rfl rfl)
  case hstop =>
    rintro D c pre W _ _ h _
    exact h.elim
set_option maxHeartbeats 4000000 in
theorem read_none (A : Option Addr) (c : Nat) (xs : List ByteArray) (n off size : Int) (w : World) (hx : xs.length ≤ 1000000) (h : RowAt w w.heap.size A (xs.map .string)) (h0 : ¬ inoE xs n = 0) :
    Calls Tryz.prog 28 #[.slice A xs.length c, .int .i64 n, .int .i64 off, .int .i64 size] w (ReadPost (readO xs n off size) w) := by
  have B0 := Lib.hid ((Below.refl w.heap.size w).alloc (Nat.le_refl _) (.cells #[.int .i64 off] 3))
  have R0 := Lib.hid ((h.below B0.out).mono B0.out.size)
  have CO := Lib.hid (opened_any A c xs n _ hx R0.out)
  unfold OpenPost at CO
  simp only [if_neg h0] at CO
  have HW0 : Hid (readO xs n off size = ([], inoE xs n)) := by show _ = _; unfold readO; rw [if_pos h0]
  have hn0 : (inoE xs n != 0) = true := by simpa using h0
  generalize inoE xs n = ie at *
  clear h0 h R0
  go_enter Tryz.func28, Tryz.ntmps28
  go_wp2_with fail
  obtain ⟨w0, hw0⟩ : ∃ w0, w.alloc (.cells #[.int .i64 off] 3) = w0 := ⟨_, rfl⟩
  rw [hw0] at CO B0 ⊢
  clear hw0
  refine CO.out.mono ?_
  rintro e w1 ⟨hb1, rfl⟩
  have B1 := Lib.hid (B0.out.trans (hb1.mono B0.out.size))
  have hz1 := B1.out.size
  clear hb1 CO B0
  go_wp2_with (refine store_blk 75 (.tmp 10) (.tmp 22) w1.heap.size 75 fileZ fileZ rfl rfl rfl rfl (Blk.new w1 _ _) rfl (by kernel_rfl) fileZ_one ?_; intro w2 hr2 hg2)
  have BW : Hid (Below w.heap.size w w2) := (B1.out.alloc hz1 _).grown hg2 (by simp; omega) (fun k e => by cases e; exact hz1)
  go_ret2
  unfold ReadPost
  rw [HW0.out]
  exact ⟨rfl, BW.out⟩
set_option maxHeartbeats 4000000 in
theorem read_neg1 (A : Option Addr) (c : Nat) (xs : List ByteArray) (n off size : Int) (w : World) (hx : xs.length ≤ 1000000) (h : RowAt w w.heap.size A (xs.map .string)) (h0 : inoE xs n = 0) (hf : off < 0) :
    Calls Tryz.prog 28 #[.slice A xs.length c, .int .i64 n, .int .i64 off, .int .i64 size] w (ReadPost (readO xs n off size) w) := by
  have BB0 := Lib.hid ((Below.refl w.heap.size w).alloc (Nat.le_refl _) (.cells #[.int .i64 off] 3))
  have FO0 := Lib.hid (Blk.new w 3 #[.int .i64 off])
  have R0 := Lib.hid ((h.below BB0.out).mono BB0.out.size)
  have CO := Lib.hid (opened_any A c xs n _ hx R0.out)
  unfold OpenPost at CO
  simp only [if_pos h0] at CO
  obtain ⟨m, k, hv, rfl, hk1, hk2, hk3⟩ := inoE_ok h0
  have HLL : Hid (∀ sl, (fileC sl xs.length (mO xs) (k : Int).toNat (getR xs (k : Int))).size = 20) := fun sl => fileC_size _ _ _ _ _ (getR_len _ _)
  have HO : Hid (∀ B g w2 gv c, B ≤ g → Blk w2 g 75 (fileC (.slice (some ⟨gv, 0, none⟩) xs.length c) xs.length (mO xs) (k : Int).toNat (getR xs (k : Int))) → w2.ownsRow B 9 1 (.slice (some ⟨gv, 0, none⟩) xs.length c) xs.length (xs.map .string) → FileX B w2 g m k xs (getR xs (k : Int))) := fun B g w2 gv c a b c' => by
    have hfit : FitN (getR xs (k : Int)) := by rw [getR_vol hv hk1 hk2]; exact inoR_fit _ _
    rw [mO_vol hv, Int.toNat_natCast] at b
    exact ⟨gv, c, a, b, c', hv, hfit, hk1, hk2⟩
  have HW0 : Hid (readO xs (k : Int) off size = ([], 1)) := by show _ = _; unfold readO; rw [if_neg (by rw [h0]; simp), if_pos (by omega)]
  have d1 : decide (off < 0) = true := by simp; omega
  clear h0 hk3 h
  generalize hsxe : sizeX (getR xs (k : Int)) = sx at *
  have HSXE := Lib.hid hsxe
  clear hsxe
  go_enter Tryz.func28, Tryz.ntmps28
  go_wp2_with fail
  obtain ⟨w0, hw0⟩ : ∃ w0, w.alloc (.cells #[.int .i64 off] 3) = w0 := ⟨_, rfl⟩
  rw [hw0] at CO R0 BB0 FO0 ⊢
  clear hw0
  refine CO.out.mono ?_
  rintro e w1 ⟨hb1, gv, cv, rfl, ho⟩
  have FO1 := Lib.hid (FO0.out.below hb1 FO0.out.lt)
  have B1 := Lib.hid (BB0.out.trans (hb1.mono BB0.out.size))
  have O1 := Lib.hid (own_low ho BB0.out.size)
  have hz1 := B1.out.size
  clear hb1 ho CO FO0 BB0 R0
  go_wp2_with (refine store_blk 75 (.tmp 10) (.tmp 22) w1.heap.size 75 fileZ (fileC (.slice (some ⟨gv, 0, none⟩) xs.length cv) xs.length (mO xs) (k : Int).toNat (getR xs (k : Int))) rfl rfl rfl rfl (Blk.new w1 _ _) (by rw [HLL.out]; rfl) (by rw [HLL.out]; kernel_rfl) (fileC_one _ _ _ _ _ _ _) ?_; intro w2 hr2 hg2; have FO2 := ((FO1.out.alloc _).grown hg2 (by intro e; have := FO1.out.lt; have := Option.some.inj e; omega)); have co2 := FO2.cell 0 rfl)
  have BW : Hid (Below w.heap.size w w2) := (B1.out.alloc hz1 _).grown hg2 (by simp; omega) (fun k e => by cases e; exact hz1)
  go_ret2
  unfold ReadPost
  rw [HW0.out]
  exact ⟨rfl, BW.out⟩
set_option maxHeartbeats 4000000 in
theorem read_neg2 (A : Option Addr) (c : Nat) (xs : List ByteArray) (n off size : Int) (w : World) (hx : xs.length ≤ 1000000) (h : RowAt w w.heap.size A (xs.map .string)) (h0 : inoE xs n = 0) (ho0 : 0 ≤ off) (hf : size < 0) :
    Calls Tryz.prog 28 #[.slice A xs.length c, .int .i64 n, .int .i64 off, .int .i64 size] w (ReadPost (readO xs n off size) w) := by
  have BB0 := Lib.hid ((Below.refl w.heap.size w).alloc (Nat.le_refl _) (.cells #[.int .i64 off] 3))
  have FO0 := Lib.hid (Blk.new w 3 #[.int .i64 off])
  have R0 := Lib.hid ((h.below BB0.out).mono BB0.out.size)
  have CO := Lib.hid (opened_any A c xs n _ hx R0.out)
  unfold OpenPost at CO
  simp only [if_pos h0] at CO
  obtain ⟨m, k, hv, rfl, hk1, hk2, hk3⟩ := inoE_ok h0
  have HLL : Hid (∀ sl, (fileC sl xs.length (mO xs) (k : Int).toNat (getR xs (k : Int))).size = 20) := fun sl => fileC_size _ _ _ _ _ (getR_len _ _)
  have HO : Hid (∀ B g w2 gv c, B ≤ g → Blk w2 g 75 (fileC (.slice (some ⟨gv, 0, none⟩) xs.length c) xs.length (mO xs) (k : Int).toNat (getR xs (k : Int))) → w2.ownsRow B 9 1 (.slice (some ⟨gv, 0, none⟩) xs.length c) xs.length (xs.map .string) → FileX B w2 g m k xs (getR xs (k : Int))) := fun B g w2 gv c a b c' => by
    have hfit : FitN (getR xs (k : Int)) := by rw [getR_vol hv hk1 hk2]; exact inoR_fit _ _
    rw [mO_vol hv, Int.toNat_natCast] at b
    exact ⟨gv, c, a, b, c', hv, hfit, hk1, hk2⟩
  have HW0 : Hid (readO xs (k : Int) off size = ([], 1)) := by show _ = _; unfold readO; rw [if_neg (by rw [h0]; simp), if_pos (by omega)]
  have d1 : decide (off < 0) = false := by simp; omega
  have d2 : decide (size < 0) = true := by simp; omega
  clear h0 hk3 h
  generalize hsxe : sizeX (getR xs (k : Int)) = sx at *
  have HSXE := Lib.hid hsxe
  clear hsxe
  go_enter Tryz.func28, Tryz.ntmps28
  go_wp2_with fail
  obtain ⟨w0, hw0⟩ : ∃ w0, w.alloc (.cells #[.int .i64 off] 3) = w0 := ⟨_, rfl⟩
  rw [hw0] at CO R0 BB0 FO0 ⊢
  clear hw0
  refine CO.out.mono ?_
  rintro e w1 ⟨hb1, gv, cv, rfl, ho⟩
  have FO1 := Lib.hid (FO0.out.below hb1 FO0.out.lt)
  have B1 := Lib.hid (BB0.out.trans (hb1.mono BB0.out.size))
  have O1 := Lib.hid (own_low ho BB0.out.size)
  have hz1 := B1.out.size
  clear hb1 ho CO FO0 BB0 R0
  go_wp2_with (refine store_blk 75 (.tmp 10) (.tmp 22) w1.heap.size 75 fileZ (fileC (.slice (some ⟨gv, 0, none⟩) xs.length cv) xs.length (mO xs) (k : Int).toNat (getR xs (k : Int))) rfl rfl rfl rfl (Blk.new w1 _ _) (by rw [HLL.out]; rfl) (by rw [HLL.out]; kernel_rfl) (fileC_one _ _ _ _ _ _ _) ?_; intro w2 hr2 hg2; have FO2 := ((FO1.out.alloc _).grown hg2 (by intro e; have := FO1.out.lt; have := Option.some.inj e; omega)); have co2 := FO2.cell 0 rfl)
  have BW : Hid (Below w.heap.size w w2) := (B1.out.alloc hz1 _).grown hg2 (by simp; omega) (fun k e => by cases e; exact hz1)
  go_ret2
  unfold ReadPost
  rw [HW0.out]
  exact ⟨rfl, BW.out⟩
set_option maxHeartbeats 4000000 in
theorem read_far (A : Option Addr) (c : Nat) (xs : List ByteArray) (n off size : Int) (w : World) (hx : xs.length ≤ 1000000) (h : RowAt w w.heap.size A (xs.map .string)) (h0 : inoE xs n = 0) (ho0 : 0 ≤ off) (hs0 : 0 ≤ size) (hf : (sizeX (getR xs n) : Int) ≤ off) :
    Calls Tryz.prog 28 #[.slice A xs.length c, .int .i64 n, .int .i64 off, .int .i64 size] w (ReadPost (readO xs n off size) w) := by
  have BB0 := Lib.hid ((Below.refl w.heap.size w).alloc (Nat.le_refl _) (.cells #[.int .i64 off] 3))
  have FO0 := Lib.hid (Blk.new w 3 #[.int .i64 off])
  have R0 := Lib.hid ((h.below BB0.out).mono BB0.out.size)
  have CO := Lib.hid (opened_any A c xs n _ hx R0.out)
  unfold OpenPost at CO
  simp only [if_pos h0] at CO
  obtain ⟨m, k, hv, rfl, hk1, hk2, hk3⟩ := inoE_ok h0
  have HLL : Hid (∀ sl, (fileC sl xs.length (mO xs) (k : Int).toNat (getR xs (k : Int))).size = 20) := fun sl => fileC_size _ _ _ _ _ (getR_len _ _)
  have HO : Hid (∀ B g w2 gv c, B ≤ g → Blk w2 g 75 (fileC (.slice (some ⟨gv, 0, none⟩) xs.length c) xs.length (mO xs) (k : Int).toNat (getR xs (k : Int))) → w2.ownsRow B 9 1 (.slice (some ⟨gv, 0, none⟩) xs.length c) xs.length (xs.map .string) → FileX B w2 g m k xs (getR xs (k : Int))) := fun B g w2 gv c a b c' => by
    have hfit : FitN (getR xs (k : Int)) := by rw [getR_vol hv hk1 hk2]; exact inoR_fit _ _
    rw [mO_vol hv, Int.toNat_natCast] at b
    exact ⟨gv, c, a, b, c', hv, hfit, hk1, hk2⟩
  have HW0 : Hid (readO xs (k : Int) off size = ([], 0)) := by
    show _ = _
    unfold readO readX spanX
    rw [if_neg (by rw [h0]; simp), if_neg (by omega), mO_vol hv, show min (off.toNat + size.toNat) (sizeX (getR xs (k : Int))) - off.toNat = 0 by omega]
    rfl
  have d1 : decide (off < 0) = false := by simp; omega
  have d2 : decide (size < 0) = false := by simp; omega
  have d3 : (sizeX (getR xs (k : Int)) : Int) ≤ off := hf
  clear h0 hk3 h
  generalize hsxe : sizeX (getR xs (k : Int)) = sx at *
  have HSXE := Lib.hid hsxe
  clear hsxe
  go_enter Tryz.func28, Tryz.ntmps28
  go_wp2_with fail
  obtain ⟨w0, hw0⟩ : ∃ w0, w.alloc (.cells #[.int .i64 off] 3) = w0 := ⟨_, rfl⟩
  rw [hw0] at CO R0 BB0 FO0 ⊢
  clear hw0
  refine CO.out.mono ?_
  rintro e w1 ⟨hb1, gv, cv, rfl, ho⟩
  have FO1 := Lib.hid (FO0.out.below hb1 FO0.out.lt)
  have B1 := Lib.hid (BB0.out.trans (hb1.mono BB0.out.size))
  have O1 := Lib.hid (own_low ho BB0.out.size)
  have hz1 := B1.out.size
  clear hb1 ho CO FO0 BB0 R0
  go_wp2_with (refine store_blk 75 (.tmp 10) (.tmp 22) w1.heap.size 75 fileZ (fileC (.slice (some ⟨gv, 0, none⟩) xs.length cv) xs.length (mO xs) (k : Int).toNat (getR xs (k : Int))) rfl rfl rfl rfl (Blk.new w1 _ _) (by rw [HLL.out]; rfl) (by rw [HLL.out]; kernel_rfl) (fileC_one _ _ _ _ _ _ _) ?_; intro w2 hr2 hg2; have FO2 := ((FO1.out.alloc _).grown hg2 (by intro e; have := FO1.out.lt; have := Option.some.inj e; omega)); have co2 := FO2.cell 0 rfl)
  have BW : Hid (Below w.heap.size w w2) := (B1.out.alloc hz1 _).grown hg2 (by simp; omega) (fun k e => by cases e; exact hz1)
  have FX : Hid (FileX w.heap.size w2 w1.heap.size m k xs (getR xs (k : Int))) := HO.out _ _ _ gv cv hz1 hr2 (by
    refine (O1.out.alloc _).kept hg2 (.inr ?_)
    have := own_ne (O1.out.alloc _) (Blk.new w1 75 fileZ) (by decide)
    intro e; exact this e.symm)
  have FO := Lib.hid FO2
  have CS2 := Lib.hid (size_any _ FX.out)
  rw [HSXE.out] at CS2
  refine CS2.out.mono ?_
  rintro e w3 ⟨rfl, rfl⟩
  have I3 := (Below.refl w2.heap.size w2).alloc (Nat.le_refl _) (.cells #[.int .i64 (sx : Int)] 3)
  have O3 := Lib.hid (FO.out.below I3 FO.out.lt)
  have B3 := Lib.hid (BW.out.alloc BW.out.size (.cells #[.int .i64 (sx : Int)] 3))
  have c3 := O3.out.cell 0 rfl
  clear I3
  go_wp2
  go_ret2
  unfold ReadPost
  rw [HW0.out]
  exact ⟨rfl, B3.out⟩
theorem read_any (A : Option Addr) (c : Nat) (xs : List ByteArray) (n off size : Int) (w : World) (hx : xs.length ≤ 1000000) (h : RowAt w w.heap.size A (xs.map .string)) :
    Calls Tryz.prog 28 #[.slice A xs.length c, .int .i64 n, .int .i64 off, .int .i64 size] w (ReadPost (readO xs n off size) w) := by
  by_cases h0 : inoE xs n = 0
  · by_cases h1 : off < 0
    · exact read_neg1 A c xs n off size w hx h h0 h1
    · by_cases h2 : size < 0
      · exact read_neg2 A c xs n off size w hx h h0 (by omega) h2
      · by_cases h3 : (sizeX (getR xs n) : Int) ≤ off
        · exact read_far A c xs n off size w hx h h0 (by omega) (by omega) h3
        · obtain ⟨o, rfl⟩ := Int.eq_ofNat_of_zero_le (show 0 ≤ off by omega)
          by_cases h4 : size < (sizeX (getR xs n) : Int) - (o : Int)
          · exact read_less A c xs n o size w hx h h0 (by omega) (by omega) h4
          · exact read_full A c xs n o size w hx h h0 (by omega) (by omega) h4
  · exact read_none A c xs n off size w hx h h0
end Go.Proofs.YtoanladhikdcaaaGreat

namespace Go.Proofs.YtoanladhikdcaaaGreat
open Go.RowKit
set_option linter.unusedVariables false
set_option linter.unusedSimpArgs false
set_option maxRecDepth 100000
/-- an owner's limit, as it is written down -/
def limN (xs : List ByteArray) (o : Nat) : Nat := numAt (blkL xs 1) (2 * o) 2
/-- is it an owner of a volume? why not? -/
def quoE (xs : List ByteArray) (owner : Int) : Int := match ofR xs with
  | none => 3
  | some _ => if owner < 0 ∨ 16 ≤ owner then 1 else 0
def limitO (xs : List ByteArray) (owner : Int) : Int × Int := if quoE xs owner = 0 then ((limN xs owner.toNat : Nat), 0) else (0, quoE xs owner)
/-- is it one of the owner's? -/
def hisB (xs : List ByteArray) (owner : Int) (n : Nat) : Bool := decide ((((getR xs (n : Int)).getD 2 0 : Nat) : Int) = owner)
def usedL (xs : List ByteArray) (owner : Int) (ns : List Nat) : Nat := ((ns.filter (hisB xs owner)).map fun n : Nat => countO xs (n : Int)).sum
/-- how many blocks an owner has -/
def usedO (xs : List ByteArray) (owner : Int) : Nat := usedL xs owner (allO xs)
/-- has an owner more than that? -/
def overB (xs : List ByteArray) (owner limit : Int) : Bool := decide (limit ≠ 0 ∧ limit < (usedO xs owner : Int))
def setO (xs : List ByteArray) (owner limit : Int) : List ByteArray × Int :=
  if quoE xs owner ≠ 0 then ([], quoE xs owner) else if limit < 0 ∨ 65535 < limit then ([], 2) else if overB xs owner limit = true then ([], 13)
  else (layX xs 1 (2 * owner.toNat) (putL limit.toNat 2), 0)
def checkO (xs : List ByteArray) : Int := match ofR xs with
  | none => 3
  | some _ => if (List.range 16).any (fun o => overB xs (o : Int) (limN xs o : Int)) = true then 13 else 0
theorem limN_lt (xs : List ByteArray) (o : Nat) : limN xs o < 65536 := numAt_lt _ _ 2
theorem usedL_snoc (xs : List ByteArray) (owner : Int) (ns : List Nat) (n : Nat) : usedL xs owner (ns ++ [n]) = usedL xs owner ns + (if hisB xs owner n = true then countO xs (n : Int) else 0) := by
  unfold usedL
  rw [List.filter_append, List.map_append, List.sum_append]
  by_cases h : hisB xs owner n = true <;> simp [h]
theorem countO_le (xs : List ByteArray) (n : Int) : countO xs n ≤ 72 := by
  unfold countO
  split
  · omega
  · have := manyX_le xs (mO xs) (getR xs n) 70
    unfold countX
    split <;> split <;> omega
theorem usedL_le (xs : List ByteArray) (owner : Int) : ∀ ns : List Nat, usedL xs owner ns ≤ 72 * ns.length
  | [] => by simp [usedL]
  | n :: ns => by
    have ih := usedL_le xs owner ns
    have hc := countO_le xs (n : Int)
    unfold usedL at ih ⊢
    rw [List.filter_cons, List.length_cons]
    by_cases h : hisB xs owner n = true
    · rw [if_pos h, List.map_cons, List.sum_cons]
      omega
    · rw [if_neg h]
      omega
theorem allO_len (xs : List ByteArray) : (allO xs).length ≤ 64 := by
  unfold allO
  cases h : ofR xs with
  | none => simp
  | some m =>
    have := (ofR_some.1 h).len
    have := allR_len xs m
    dsimp only
    omega
theorem usedO_le (xs : List ByteArray) (owner : Int) : usedO xs owner ≤ 4608 := by
  have := usedL_le xs owner (allO xs)
  have := allO_len xs
  unfold usedO
  omega
theorem allO_ok {xs : List ByteArray} {n : Nat} (h : n ∈ allO xs) : inoE xs (n : Int) = 0 := by
  unfold allO at h
  cases ho : ofR xs with
  | none => rw [ho] at h; simp at h
  | some m =>
    rw [ho] at h
    unfold allR at h
    have := List.mem_filter.1 h
    have := List.mem_range'_1.1 this.1
    exact inoE_zero (ofR_some.1 ho) (by omega) (by omega)
end Go.Proofs.YtoanladhikdcaaaGreat
