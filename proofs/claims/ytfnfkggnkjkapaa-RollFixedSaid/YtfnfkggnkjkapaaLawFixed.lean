/-
  The walk of the law RollFixed.
-/
import Derived.Test.YtfnfkggnkjkapaaLawCuts
namespace Go.Proofs.Ytfnfkggnkjkapaa
open Go.RowKit
set_option linter.unusedVariables false
set_option linter.unusedSimpArgs false

/-- bytes cut at every m -/
def fixed (m : Nat) : Nat → List UInt8 → List (List UInt8)
  | 0, _ => []
  | f + 1, l => if l = [] then [] else l.take m :: fixed m f (l.drop m)

theorem bits_zero (z : Int) : (bits .and .u32 z 0 == 0) = true := by
  have : bits .and .u32 z 0 = 0 := by
    show IntKind.u32.wrap _ = 0
    simp [IntKind.wrap_u32]
  rw [this]; rfl
/-- with no bits asked, or with no room, a chunk has m bytes -/
theorem endN_mask0 {W m M : Nat} {l : List UInt8} (h1 : 1 ≤ m) (hM : m ≤ M) : P.endN W m M 0 l = min l.length m := by
  rcases P.endN_cases W m M 0 l with ⟨k, hk, hno, hhit, he⟩ | ⟨hno, he⟩
  · unfold P.hitB at hhit
    simp only [Bool.and_eq_true, decide_eq_true_eq] at hhit
    rw [he]
    by_cases hkm : k + 1 = m
    · omega
    · have := hno (m - 1) (by omega)
      unfold P.hitB at this
      rw [show m - 1 + 1 = m by omega, bits_zero] at this
      simp at this
  · rw [he]
    by_cases hl : l.length < m
    · omega
    · have := hno (m - 1) (by omega)
      unfold P.hitB at this
      rw [show m - 1 + 1 = m by omega, bits_zero] at this
      simp at this
theorem endN_same {W m : Nat} {mask : Int} {l : List UInt8} : P.endN W m m mask l = min l.length m := by
  have h1 := P.endN_le W m m mask l
  have h2 := P.endN_min (W := W) (m := m) (M := m) (mask := mask) (l := l) (Nat.le_refl _)
  omega
/-- chunks of m bytes -/
theorem cuts_fixed {W m M : Nat} {mask : Int} (he : ∀ l, P.endN W m M mask l = min l.length m) {l : List UInt8} {ls : List (List UInt8)} (hm : 1 ≤ m) (h : P.Cuts W m M mask l ls) :
    ls.length = (l.length + m - 1) / m ∧ ∀ j (hj : j < ls.length), ls[j].length ≤ m ∧ (j + 1 < ls.length → ls[j].length = m) := by
  induction h with
  | nil => refine ⟨?_, fun j hj => by simp at hj⟩; simp; rw [Nat.div_eq_of_lt (by omega)]
  | @cons l ls hl hc ih =>
    obtain ⟨ih1, ih2⟩ := ih
    have hpos : 0 < l.length := List.length_pos_iff.2 hl
    rw [he] at ih1 hc ⊢
    simp only [List.length_drop] at ih1
    refine ⟨?_, fun j hj => ?_⟩
    · rw [List.length_cons, ih1]
      by_cases hlm : l.length ≤ m
      · rw [show l.length - min l.length m + m - 1 = m - 1 by omega, Nat.div_eq_of_lt (by omega)]
        rw [show l.length + m - 1 = (l.length - 1) + m by omega, Nat.add_div_right _ (by omega), Nat.div_eq_of_lt (by omega)]
      · rw [show l.length + m - 1 = (l.length - min l.length m + m - 1) + m by omega, Nat.add_div_right _ (by omega)]
    · cases j with
      | zero =>
        simp only [List.getElem_cons_zero, List.length_take]
        refine ⟨by omega, fun h => ?_⟩
        simp only [List.length_cons] at h
        have : 0 < (l.length - min l.length m + m - 1) / m := by omega
        have := (Nat.div_pos_iff.1 this).2
        omega
      | succ j =>
        simp only [List.getElem_cons_succ, List.length_cons] at hj ⊢
        obtain ⟨a, b⟩ := ih2 j (by omega)
        exact ⟨a, fun h => b (by omega)⟩
theorem cuts_same {W m M M' : Nat} {mask mask' : Int} (he : ∀ l, P.endN W m M mask l = P.endN W m M' mask' l) {l : List UInt8} {ls : List (List UInt8)} (h : P.Cuts W m M mask l ls) : P.Cuts W m M' mask' l ls := by
  induction h with
  | nil => exact .nil
  | cons hl _ ih => rw [he] at ih ⊢; exact .cons hl ih

set_option maxHeartbeats 800000 in
theorem law_fixed (d : ByteArray) (W m M mask : Int) (w : World) (hd : d.size ≤ 9223372036854775807) :
    Calls Try.prog 6 #[.string d, cutsV W m M mask] w fun e w' => e = .returned (.bool true) ∧ Below w.heap.size w w' := by
  go_enter Try.func6, Try.ntmps6
  go_wp2_with fail
  refine (alive_any _).mono ?_
  rintro e w1 ⟨rfl, hb1⟩
  have g1 := (Blk.new w 24 #[.int .i64 W, .int .i64 m, .int .i64 M, .int .u32 mask]).below hb1 (by simp)
  have b1 : Below w.heap.size w w1 := ((Below.refl _ _).alloc (Nat.le_refl _) _).trans (hb1.mono (by simp))
  have G1 := Lib.hid g1
  have B1 := Lib.hid b1
  have q0 : w1.cell? ⟨w.heap.size, 0, none⟩ = some (.int .i64 W) := g1.cell 0 rfl
  have q1 : w1.cell? ⟨w.heap.size, 1, none⟩ = some (.int .i64 m) := g1.cell 1 rfl
  have q2 : w1.cell? ⟨w.heap.size, 2, none⟩ = some (.int .i64 M) := g1.cell 2 rfl
  have q3 : w1.cell? ⟨w.heap.size, 3, none⟩ = some (.int .u32 mask) := g1.cell 3 rfl
  clear g1 b1 hb1
  by_cases h1 : 3000 < d.size
  · go_wp2
    go_ret
    exact ⟨rfl, B1.out⟩
  go_wp2_with fail
  refine (check_any W m M mask _).mono ?_
  rintro e w2 ⟨rfl, hb2⟩
  have G2 := Lib.hid (G1.out.below hb2 G1.out.lt)
  have B2 := Lib.hid (B1.out.trans (hb2.mono B1.out.size))
  clear hb2 q0 q1 q2 q3
  have q0 : w2.cell? ⟨w.heap.size, 0, none⟩ = some (.int .i64 W) := G2.out.cell 0 rfl
  have q1 : w2.cell? ⟨w.heap.size, 1, none⟩ = some (.int .i64 m) := G2.out.cell 1 rfl
  have q2 : w2.cell? ⟨w.heap.size, 2, none⟩ = some (.int .i64 M) := G2.out.cell 2 rfl
  have q3 : w2.cell? ⟨w.heap.size, 3, none⟩ = some (.int .u32 mask) := G2.out.cell 3 rfl
  have q4 := G2.out.frozen 3
  have hz2 := G2.out.lt
  by_cases hv : 1 ≤ W ∧ W ≤ 64 ∧ W ≤ m ∧ m ≤ M ∧ M ≤ 65536
  · rw [chk_ok hv]
    obtain ⟨W, rfl⟩ := Int.eq_ofNat_of_zero_le (show 0 ≤ W by omega)
    obtain ⟨m, rfl⟩ := Int.eq_ofNat_of_zero_le (show 0 ≤ m by omega)
    obtain ⟨M, rfl⟩ := Int.eq_ofNat_of_zero_le (show 0 ≤ M by omega)
    go_wp2_with fail
    refine (cut_ok d W m M 0 _ (by omega) (by omega) (by omega) (by omega) (by omega) (by omega)).mono ?_
    rintro e w3 ⟨v, xs, rfl, own, hb3, hc⟩
    have G3 := Lib.hid (((G2.out.set_ 3 (.int .u32 0)).alloc _).below hb3 (by simp; omega))
    have D3 : Hid (Blk w3 w2.heap.size 24 #[.int .i64 W, .int .i64 m, .int .i64 m, .int .u32 mask]) := by
      have := Blk.new (w2.setCell ⟨w.heap.size, 3, none⟩ (.int .u32 0)) 24 #[.int .i64 W, .int .i64 m, .int .i64 m, .int .u32 mask]
      simp only [World.size_setCell] at this
      exact this.below hb3 (by simp)
    have B3 := Lib.hid (((B2.out.setCell (p := ⟨w.heap.size, 3, none⟩) (Nat.le_refl _) (.int .u32 0)).alloc (by simp; omega) (.cells #[.int .i64 W, .int .i64 m, .int .i64 m, .int .u32 mask] 24)).trans (hb3.mono (by simp; omega)))
    have p0 : w3.cell? ⟨w2.heap.size, 0, none⟩ = some (.int .i64 W) := D3.out.cell 0 rfl
    have p1 : w3.cell? ⟨w2.heap.size, 1, none⟩ = some (.int .i64 m) := D3.out.cell 1 rfl
    have p2 : w3.cell? ⟨w2.heap.size, 2, none⟩ = some (.int .i64 m) := D3.out.cell 2 rfl
    have p3 : w3.cell? ⟨w2.heap.size, 3, none⟩ = some (.int .u32 mask) := D3.out.cell 3 rfl
    obtain ⟨A, c, rfl⟩ := own_form own
    have OWN := Lib.hid own
    have HC := Lib.hid hc
    have hxs : xs.length ≤ 3000 := by have := cuts_le (by omega) hc; simp at this; omega
    clear own hc hb3 q0 q1 q2 q3 q4
    go_wp2_with fail
    refine (cut_ok d W m m mask _ (by omega) (by omega) (by omega) (by omega) (by omega) (by omega)).mono ?_
    rintro e w4 ⟨v, ys, rfl, own, hb4, hc⟩
    obtain rfl : xs = ys := map_data_inj (HC.out.det (cuts_same (fun l => by rw [endN_same, endN_mask0 (by omega) (by omega)]) hc))
    have B4 := Lib.hid (B3.out.trans (hb4.mono B3.out.size))
    have G4 := Lib.hid (G3.out.below hb4 G3.out.lt)
    have hz4 := hb4.size
    obtain ⟨A2, c2, rfl⟩ := own_form own
    have R1 := Lib.hid (((RowAt.of_own OWN.out).below hb4).mono hz4)
    have R2 := Lib.hid (RowAt.of_own own)
    clear own hc hb4 p0 p1 p2 p3
    go_wp2_with fail
    refine (same_eq A A2 _ _ c c2 xs xs true _ rfl rfl (by unfold maxLen; omega) (by unfold maxLen; omega) (by simp [eqL]) R1.out R2.out).mono ?_
    rintro e w5 ⟨rfl, kd, rfl⟩
    have hcf := cuts_fixed (fun l => endN_mask0 (by omega) (by omega)) (by omega) HC.out
    simp only [List.length_map, List.getElem_map] at hcf
    have HF := Lib.hid hcf
    have q1 : w4.cell? ⟨w.heap.size, 1, none⟩ = some (.int .i64 m) := G4.out.cell 1 rfl
    clear hcf
    go_wp2
    go_loop [12, 13, 66] (fun _ _ i => ∃ k : Nat, k ≤ xs.length ∧ i = .int .i64 k) (fun _ _ i => xs.length - (intOf i).toNat)
    case atStart => exact ⟨0, Nat.zero_le _, rfl⟩
    case round =>
      obtain ⟨k, hk, rfl⟩ := hrel
      by_cases hlt : k < xs.length
      · obtain ⟨b, o, rfl, hbl, hcell⟩ := R1.out.at_ (by simpa using (by omega))
        have g1 : w4.cell? ⟨b, o + k, none⟩ = some (.string xs[k]) := hcell k _ (by simp [hlt])
        clear hcell
        have f1 : xs[k].size ≤ m := by have := (HF.out.2 k hlt).1; simpa using this
        by_cases hlast : k + 1 < xs.length
        · have f2 : xs[k].size = m := by have := (HF.out.2 k hlt).2 hlast; simpa using this
          have f3 : ((xs[k].size : Int) != (m : Int)) = false := by simp [f2]
          clear f2
          go_wp2
          go_round
          case rel => exact ⟨k + 1, by omega, by go_num⟩
          case measure => simp [intOf]; omega
        · have f3 : decide ((k : Int) < (xs.length : Int) - 1) = false := by simp; omega
          go_wp2
          go_round
          case rel => exact ⟨k + 1, by omega, by go_num⟩
          case measure => simp [intOf]; omega
      · go_wp2
        go_ret
        refine ⟨ret_bool ?_, below_drewN B4.out kd⟩
        show ((xs.length : Int) == ((d.size : Int) + (m : Int) - 1) / (m : Int)) = true
        rw [beq_iff_eq, show ((d.size : Int) + (m : Int) - 1) = ((d.size + m - 1 : Nat) : Int) by omega, ← Int.natCast_ediv]
        have := HF.out.1
        simp only [Array.length_toList, ByteArray.size_data] at this
        rw [this]
  · rw [chk_no hv]
    go_wp2_with fail
    refine (cut_no d W m M mask _ hv).mono ?_
    rintro e w3 ⟨rfl, hb3⟩
    go_wp2
    go_ret
    exact ⟨rfl, B2.out.trans (hb3.mono B2.out.size)⟩
end Go.Proofs.Ytfnfkggnkjkapaa
