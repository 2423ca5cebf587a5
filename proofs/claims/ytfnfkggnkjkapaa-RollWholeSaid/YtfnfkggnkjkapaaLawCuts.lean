/-
  The walk of the law RollCuts.
-/
import Derived.Test.YtfnfkggnkjkapaaAlive
namespace Go.Proofs.Ytfnfkggnkjkapaa
open Go.RowKit
set_option linter.unusedVariables false
set_option linter.unusedSimpArgs false

/-- what either Cut hands back -/
theorem cut_any (d : ByteArray) (W m M mask : Int) (w : World) (hs : d.size ≤ 100000) : Calls Try.prog 10 #[.string d, cutsV W m M mask] w fun e w' =>
    ∃ (v : Value) (xs : List ByteArray), e = .returned (.tuple #[v, .int .i64 (chk W m M)]) ∧ w'.ownsRow w.heap.size 9 1 v xs.length (xs.map .string) ∧ Below w.heap.size w w' ∧
      (chk W m M = 2 ∧ xs = [] ∨ chk W m M = 0 ∧ P.Cuts W.toNat m.toNat M.toNat mask d.data.toList (xs.map fun x => x.data.toList)) := by
  by_cases h : 1 ≤ W ∧ W ≤ 64 ∧ W ≤ m ∧ m ≤ M ∧ M ≤ 65536
  · obtain ⟨W, rfl⟩ := Int.eq_ofNat_of_zero_le (show 0 ≤ W by omega)
    obtain ⟨m, rfl⟩ := Int.eq_ofNat_of_zero_le (show 0 ≤ m by omega)
    obtain ⟨M, rfl⟩ := Int.eq_ofNat_of_zero_le (show 0 ≤ M by omega)
    refine (cut_ok d W m M mask w hs (by omega) (by omega) (by omega) (by omega) (by omega)).mono ?_
    rintro e w' ⟨v, xs, rfl, own, hb, hc⟩
    exact ⟨v, xs, by rw [chk_ok h], own, hb, .inr ⟨chk_ok h, hc⟩⟩
  · refine (cut_no d W m M mask w h).mono ?_
    rintro e w' ⟨rfl, hb⟩
    exact ⟨_, [], by rw [chk_no h], ⟨rfl, .inl ⟨rfl, rfl⟩⟩, hb, .inl ⟨chk_no h, rfl⟩⟩
theorem refcut_any (d : ByteArray) (W m M mask : Int) (w : World) (hs : d.size ≤ 100000) : Calls Try.prog 11 #[.string d, cutsV W m M mask] w fun e w' =>
    ∃ (v : Value) (xs : List ByteArray), e = .returned (.tuple #[v, .int .i64 (chk W m M)]) ∧ w'.ownsRow w.heap.size 9 1 v xs.length (xs.map .string) ∧ Below w.heap.size w w' ∧
      (chk W m M = 2 ∧ xs = [] ∨ chk W m M = 0 ∧ P.Cuts W.toNat m.toNat M.toNat mask d.data.toList (xs.map fun x => x.data.toList)) := by
  by_cases h : 1 ≤ W ∧ W ≤ 64 ∧ W ≤ m ∧ m ≤ M ∧ M ≤ 65536
  · obtain ⟨W, rfl⟩ := Int.eq_ofNat_of_zero_le (show 0 ≤ W by omega)
    obtain ⟨m, rfl⟩ := Int.eq_ofNat_of_zero_le (show 0 ≤ m by omega)
    obtain ⟨M, rfl⟩ := Int.eq_ofNat_of_zero_le (show 0 ≤ M by omega)
    refine (refcut_ok d W m M mask w hs (by omega) (by omega) (by omega) (by omega) (by omega)).mono ?_
    rintro e w' ⟨v, xs, rfl, own, hb, hc⟩
    exact ⟨v, xs, by rw [chk_ok h], own, hb, .inr ⟨chk_ok h, hc⟩⟩
  · refine (refcut_no d W m M mask w h).mono ?_
    rintro e w' ⟨rfl, hb⟩
    exact ⟨_, [], by rw [chk_no h], ⟨rfl, .inl ⟨rfl, rfl⟩⟩, hb, .inl ⟨chk_no h, rfl⟩⟩
theorem chunks_one {c : Int} {W m M : Nat} {mask : Int} {l : List UInt8} {xs ys : List ByteArray} (h1 : c = 2 ∧ xs = [] ∨ c = 0 ∧ P.Cuts W m M mask l (xs.map fun x => x.data.toList)) (h2 : c = 2 ∧ ys = [] ∨ c = 0 ∧ P.Cuts W m M mask l (ys.map fun x => x.data.toList)) : xs = ys := by
  rcases h1 with ⟨a, rfl⟩ | ⟨a, b⟩ <;> rcases h2 with ⟨c, rfl⟩ | ⟨c, d⟩
  · rfl
  · omega
  · omega
  · exact map_data_inj (b.det d)
theorem cuts_le {W m M : Nat} {mask : Int} {l : List UInt8} {ls : List (List UInt8)} (hM : 1 ≤ M) (h : P.Cuts W m M mask l ls) : ls.length ≤ l.length := by
  induction h with
  | nil => simp
  | cons hl _ ih =>
    rename_i l ls _
    have := P.endN_pos (W := W) (m := m) (M := M) (mask := mask) hl hM
    have h2 := P.endN_le W m M mask l
    simp only [List.length_cons, List.length_drop] at *
    omega

set_option maxHeartbeats 400000 in
theorem law_cuts (d s : ByteArray) (W m M mask : Int) (w : World) (hd : d.size ≤ 9223372036854775807) (hs : s.size ≤ 9223372036854775807) :
    Calls Try.prog 3 #[.string d, .string s, cutsV W m M mask] w fun e w' => e = .returned (.bool true) ∧ Below w.heap.size w w' := by
  go_enter Try.func3, Try.ntmps3
  go_wp2_with fail
  refine (alive_any _).mono ?_
  rintro e w1 ⟨rfl, hb1⟩
  have g1 := (Blk.new w 24 #[.int .i64 W, .int .i64 m, .int .i64 M, .int .u32 mask]).below hb1 (by simp)
  have b1 : Below w.heap.size w w1 := ((Below.refl _ _).alloc (Nat.le_refl _) _).trans (hb1.mono (by simp))
  have G1 := Lib.hid g1
  have B1 := Lib.hid b1
  have q0 : w1.cell? ⟨w.heap.size, 0, none⟩ = some (.int .i64 W) := g1.cell 0 rfl
  have q1 : w1.cell? ⟨w.heap.size, 1, none⟩ = some (.int .i64 m) := g1.cell 1 rfl
  have q2 : w1.cell? ⟨w.heap.size, 2, none⟩ = some (.int .i64 M) := g1.cell 2 rfl
  have q3 : w1.cell? ⟨w.heap.size, 3, none⟩ = some (.int .u32 mask) := g1.cell 3 rfl
  clear g1 b1 hb1
  by_cases h1 : 2500 < d.size
  · go_wp2
    go_ret
    exact ⟨rfl, B1.out⟩
  by_cases h2 : 500 < s.size
  · go_wp2
    go_ret
    exact ⟨rfl, B1.out⟩
  go_wp2_with fail
  refine (cut_any d W m M mask _ (by omega)).mono ?_
  rintro e w2 ⟨v, xs, rfl, own, hb2, hc⟩
  have G2 := Lib.hid (G1.out.below hb2 G1.out.lt)
  have B2 := Lib.hid (B1.out.trans (hb2.mono B1.out.size))
  have q0 : w2.cell? ⟨w.heap.size, 0, none⟩ = some (.int .i64 W) := G2.out.cell 0 rfl
  have q1 : w2.cell? ⟨w.heap.size, 1, none⟩ = some (.int .i64 m) := G2.out.cell 1 rfl
  have q2 : w2.cell? ⟨w.heap.size, 2, none⟩ = some (.int .i64 M) := G2.out.cell 2 rfl
  have q3 : w2.cell? ⟨w.heap.size, 3, none⟩ = some (.int .u32 mask) := G2.out.cell 3 rfl
  obtain ⟨A, c, rfl⟩ := own_form own
  have OWN := Lib.hid own
  have HC := Lib.hid hc
  clear own hc hb2
  go_wp2_with fail
  refine (refcut_any d W m M mask _ (by omega)).mono ?_
  rintro e w3 ⟨v, ys, rfl, own, hb3, hc⟩
  obtain rfl : xs = ys := chunks_one HC.out hc
  have hlen : xs.length ≤ 9223372036854775807 := by
    rcases hc with ⟨_, rfl⟩ | ⟨h, hc⟩
    · simp
    · have := cuts_le (by unfold chk at h; split at h <;> omega) hc
      simp at this; omega
  have G3 := Lib.hid (G2.out.below hb3 G2.out.lt)
  have B3 := Lib.hid (B2.out.trans (hb3.mono B2.out.size))
  obtain ⟨A2, c2, rfl⟩ := own_form own
  have R1 := Lib.hid ((RowAt.of_own OWN.out).below hb3)
  have hz3 := hb3.size
  have R2 := Lib.hid (RowAt.of_own own)
  have q0 : ∀ u : Ext w3, u.val.cell? ⟨w.heap.size, 0, none⟩ = some (.int .i64 W) := fun u => u.cell (G3.out.cell 0 rfl)
  have q1 : ∀ u : Ext w3, u.val.cell? ⟨w.heap.size, 1, none⟩ = some (.int .i64 m) := fun u => u.cell (G3.out.cell 1 rfl)
  have q2 : ∀ u : Ext w3, u.val.cell? ⟨w.heap.size, 2, none⟩ = some (.int .i64 M) := fun u => u.cell (G3.out.cell 2 rfl)
  have q3 : ∀ u : Ext w3, u.val.cell? ⟨w.heap.size, 3, none⟩ = some (.int .u32 mask) := fun u => u.cell (G3.out.cell 3 rfl)
  clear own hc hb3
  have hcc : (chk W m M == chk W m M) = true := by simp
  go_wp2
  refine wp_region_ext (by kernel_rfl) (by kernel_rfl) ?_
  have hsd : P.sm s.data.toList = P.sm s.data.toList := rfl
  repeat (go_big_quiet_step (first
    | (go_at_call 12; exact Ext.call_drew (same_eq _ _ _ _ _ _ xs xs true _ rfl rfl (by unfold maxLen; omega) (by unfold maxLen; omega) (by simp [eqL]) ((R1.out.mono hz3).ext _) (R2.out.ext _)))
    | (go_at_call 13; exact Ext.call (check_any _ _ _ _ _))
    | (go_at_call 14; exact Ext.call (refcheck_any _ _ _ _ _))
    | (go_at_call 15; exact Ext.call_same (sum_any _ _ hs))
    | (go_at_call 16; exact Ext.call_same (refsum_any _ _ hs))))
  refine wpQuiet_nil ?_
  rintro _ ⟨u, rfl⟩
  go_wp2
  go_ret
  exact ⟨rfl, B3.out.trans (u.below.mono B3.out.size)⟩
end Go.Proofs.Ytfnfkggnkjkapaa
