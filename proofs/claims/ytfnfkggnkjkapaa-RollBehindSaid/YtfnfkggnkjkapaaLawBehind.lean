/-
  The walk of the law RollBehind: a cut forgets.
-/
import Derived.Test.YtfnfkggnkjkapaaLawWhole
import Derived.Deep.RegionWith
namespace Go.Proofs.Ytfnfkggnkjkapaa
open Go.RowKit
set_option linter.unusedVariables false
set_option linter.unusedSimpArgs false

/-- behind any chunk all is cut as if the bytes began there -/
theorem cuts_behind {W m M : Nat} {mask : Int} {l : List UInt8} {ls : List (List UInt8)} (h : P.Cuts W m M mask l ls) : ∀ n, P.Cuts W m M mask (ls.drop n).flatten (ls.drop n) := by
  induction h with
  | nil => intro n; simp; exact .nil
  | @cons l ls hl hc ih =>
    intro n
    cases n with
    | zero => rw [List.drop_zero, cuts_flat (.cons hl hc)]; exact .cons hl hc
    | succ n => exact ih n
theorem flat_le {ls : List (List UInt8)} : ∀ n, (ls.drop n).flatten.length ≤ ls.flatten.length := by
  induction ls with
  | nil => intro n; simp
  | cons x ls ih =>
    intro n
    cases n with
    | zero => simp
    | succ n => have := ih n; simp only [List.drop_succ_cons, List.flatten_cons, List.length_append]; omega

/-- what of the chunks' row is seen behind the first ones -/
theorem row_drop {w : World} {B : Nat} {A : Option Addr} {xs : List ByteArray} (n : Nat) (h : RowAt w B A (xs.map .string)) (hA : ∃ b o, A = some ⟨b, o, none⟩) : ∀ b o, A = some ⟨b, o, none⟩ → RowAt w B (some ⟨b, o + n, none⟩) ((xs.drop n).map .string) := by
  rintro b o rfl
  rw [List.map_drop]
  exact h.drop n

set_option maxHeartbeats 1600000 in
theorem law_behind (d : ByteArray) (W m M mask k : Int) (w : World) (hd : d.size ≤ 9223372036854775807) (hk0 : 0 ≤ k) (hk1 : k ≤ 255) :
    Calls Try.prog 8 #[.string d, cutsV W m M mask, .int .u8 k] w fun e w' => e = .returned (.bool true) ∧ Below w.heap.size w w' := by
  obtain ⟨k, rfl⟩ := Int.eq_ofNat_of_zero_le hk0
  go_enter Try.func8, Try.ntmps8
  go_wp2_with fail
  refine (alive_any _).mono ?_
  rintro e w1 ⟨rfl, hb1⟩
  have g1 := (Blk.new w 24 #[.int .i64 W, .int .i64 m, .int .i64 M, .int .u32 mask]).below hb1 (by simp)
  have b1 : Below w.heap.size w w1 := ((Below.refl _ _).alloc (Nat.le_refl _) _).trans (hb1.mono (by simp))
  have G1 := Lib.hid g1
  have B1 := Lib.hid b1
  have q0 : w1.cell? ⟨w.heap.size, 0, none⟩ = some (.int .i64 W) := g1.cell 0 rfl
  have q1 : w1.cell? ⟨w.heap.size, 1, none⟩ = some (.int .i64 m) := g1.cell 1 rfl
  have q2 : w1.cell? ⟨w.heap.size, 2, none⟩ = some (.int .i64 M) := g1.cell 2 rfl
  have q3 : w1.cell? ⟨w.heap.size, 3, none⟩ = some (.int .u32 mask) := g1.cell 3 rfl
  clear g1 b1 hb1
  by_cases h1 : 5000 < d.size
  · go_wp2
    go_ret
    exact ⟨rfl, B1.out⟩
  by_cases hv : 1 ≤ W ∧ W ≤ 64 ∧ W ≤ m ∧ m ≤ M ∧ M ≤ 65536
  · obtain ⟨W, rfl⟩ := Int.eq_ofNat_of_zero_le (show 0 ≤ W by omega)
    obtain ⟨m, rfl⟩ := Int.eq_ofNat_of_zero_le (show 0 ≤ m by omega)
    obtain ⟨M, rfl⟩ := Int.eq_ofNat_of_zero_le (show 0 ≤ M by omega)
    go_wp2_with fail
    refine (cut_ok d W m M mask _ (by omega) (by omega) (by omega) (by omega) (by omega) (by omega)).mono ?_
    rintro e w2 ⟨v, xs, rfl, own, hb2, hc⟩
    have G2 := Lib.hid (G1.out.below hb2 G1.out.lt)
    have B2 := Lib.hid (B1.out.trans (hb2.mono B1.out.size))
    clear hb2 q0 q1 q2 q3
    have q0 : w2.cell? ⟨w.heap.size, 0, none⟩ = some (.int .i64 W) := G2.out.cell 0 rfl
    have q1 : w2.cell? ⟨w.heap.size, 1, none⟩ = some (.int .i64 m) := G2.out.cell 1 rfl
    have q2 : w2.cell? ⟨w.heap.size, 2, none⟩ = some (.int .i64 M) := G2.out.cell 2 rfl
    have q3 : w2.cell? ⟨w.heap.size, 3, none⟩ = some (.int .u32 mask) := G2.out.cell 3 rfl
    obtain ⟨A, c, rfl⟩ := own_form own
    have hcap := own_cap own
    have R1 := Lib.hid (RowAt.of_own own)
    have hxs : xs.length ≤ 5000 := by have := cuts_le (by omega) hc; simp at this; omega
    by_cases h0 : xs.length = 0
    · have h0' : ((xs.length : Int) == 0) = true := by simp [h0]
      clear h0
      go_wp2
      go_ret
      exact ⟨rfl, B2.out⟩
    have h0' : ((xs.length : Int) == 0) = false := by simpa using h0
    obtain ⟨b, o, rfl, hbl, hcell⟩ := R1.out.at_ (by simp; omega)
    have hfl := flat_le (ls := xs.map fun x => x.data.toList) (k % xs.length)
    rw [cuts_flat hc] at hfl
    have hbh := cuts_behind hc (k % xs.length)
    rw [← List.map_drop] at hfl hbh
    obtain ⟨s, hsd⟩ : ∃ s : ByteArray, s.data.toList = ((xs.drop (k % xs.length)).map fun x => x.data.toList).flatten := ⟨⟨_⟩, List.toList_toArray⟩
    have hsz : s.size ≤ 5000 := by rw [← hsd] at hfl; simp at hfl; omega
    rw [← hsd] at hbh
    have hn : k % xs.length < xs.length := Nat.mod_lt _ (by omega)
    have HS := Lib.hid hsd
    have HB := Lib.hid hbh
    have RD := Lib.hid (row_drop (k % xs.length) R1.out ⟨b, o, rfl⟩ b o rfl)
    have hmod : ((k : Int) % (xs.length : Int)) = ((k % xs.length : Nat) : Int) := rfl
    have hpos : (0 : Int) < (xs.length : Int) := by omega
    have hposn : 0 < xs.length := by omega
    clear own hc hfl hbh hsd hcell h0
    go_wp2
    rw [hmod]
    clear hmod
    generalize k % xs.length = N at HS HB RD hn ⊢
    have i1 : (0 : Int) ≤ (N : Int) := by omega
    have i2 : (N : Int) ≤ (xs.length : Int) := by omega
    have i3 : ¬ c = N := by omega
    have i4 : N ≤ xs.length := by omega
    have hz2 := G2.out.lt
    go_region_with (first
      | (go_at_call 17
         refine (join_any _ _ _ (xs.drop N) _ s (by simp) (by omega) ?_ HS.out (by omega) (by omega)).mono ?_
         · exact RD.out
         rintro e w3 ⟨rfl, hb3⟩
         have G3 := Lib.hid (G2.out.drew.below hb3 hz2)
         have hz3 := hb3.size
         have q0 : w3.cell? ⟨w.heap.size, 0, none⟩ = some (.int .i64 W) := G3.out.cell 0 rfl
         have q1 : w3.cell? ⟨w.heap.size, 1, none⟩ = some (.int .i64 m) := G3.out.cell 1 rfl
         have q2 : w3.cell? ⟨w.heap.size, 2, none⟩ = some (.int .i64 M) := G3.out.cell 2 rfl
         have q3 : w3.cell? ⟨w.heap.size, 3, none⟩ = some (.int .u32 mask) := G3.out.cell 3 rfl
         have HB3 : Hid (Below w2.heap.size w2 w3) := Lib.hid ⟨hb3.os, hb3.tape, hb3.output, hb3.size, hb3.block⟩
         clear hb3)
      | (go_at_call 10
         refine (cut_ok s W m M mask _ (by omega) (by omega) (by omega) (by omega) (by omega) (by omega)).mono ?_
         rintro e w4 ⟨v, ys, rfl, own, hb4, hc⟩
         obtain ⟨A2, c2, rfl⟩ := own_form own
         have OWN4 := Lib.hid own
         have HB4 := Lib.hid hb4
         have HC4 := Lib.hid hc
         clear own hb4 hc))
    all_goals
      obtain rfl : xs.drop N = ys := map_data_inj (HB.out.det HC4.out)
      have hz4 := HB4.out.size
      have R4 := Lib.hid (((RD.out.below HB3.out).mono hz3).below HB4.out |>.mono hz4)
      have R5 := Lib.hid (RowAt.of_own OWN4.out)
      have B4 := Lib.hid ((B2.out.trans (HB3.out.mono B2.out.size)).trans (HB4.out.mono (Nat.le_trans B2.out.size hz3)))
      go_wp2_with fail
      refine (same_eq _ _ _ _ _ _ (xs.drop N) (xs.drop N) true _ (by simp) (by simp) (by unfold maxLen; omega) (by unfold maxLen; omega) (by simp [eqL]) R5.out R4.out).mono ?_
      rintro e w5 ⟨rfl, kd, rfl⟩
      go_wp2
      go_ret
      exact ⟨rfl, below_drewN B4.out kd⟩
  · go_wp2_with fail
    refine (cut_no d W m M mask _ hv).mono ?_
    rintro e w2 ⟨rfl, hb2⟩
    go_wp2
    go_ret
    exact ⟨rfl, B1.out.trans (hb2.mono B1.out.size)⟩
end Go.Proofs.Ytfnfkggnkjkapaa
