/-
  The walk of the law RollWhole; chunks are the bytes, whole.
-/
import Derived.Test.YtfnfkggnkjkapaaLawCuts
import Derived.Test.YtfnfkggnkjkapaaJoin
namespace Go.Proofs.Ytfnfkggnkjkapaa
open Go.RowKit
set_option linter.unusedVariables false
set_option linter.unusedSimpArgs false

theorem join_empty (xs : List (List UInt8)) : Lib.join xs [] = xs.flatten := by
  unfold Lib.join
  induction xs with
  | nil => rfl
  | cons x xs ih =>
    cases xs with
    | nil => simp
    | cons y ys => simp only [List.intercalate_cons_cons, List.flatten_cons] at ih ⊢; rw [ih]; simp
theorem cuts_flat {W m M : Nat} {mask : Int} {l : List UInt8} {ls : List (List UInt8)} (h : P.Cuts W m M mask l ls) : ls.flatten = l := by
  induction h with
  | nil => rfl
  | cons _ _ ih => rw [List.flatten_cons, ih, List.take_append_drop]
theorem cuts_each {W m M : Nat} {mask : Int} {l : List UInt8} {ls : List (List UInt8)} (hm : m ≤ M) (hM : 1 ≤ M) (h : P.Cuts W m M mask l ls) :
    ∀ j (hj : j < ls.length), 1 ≤ ls[j].length ∧ ls[j].length ≤ M ∧ (j + 1 < ls.length → m ≤ ls[j].length) := by
  induction h with
  | nil => intro j hj; simp at hj
  | @cons l ls hl hc ih =>
    intro j hj
    have h1 := P.endN_pos (W := W) (m := m) (M := M) (mask := mask) hl hM
    have h2 := P.endN_le W m M mask l
    have h3 := P.endN_min (W := W) (m := m) (M := M) (mask := mask) (l := l) hm
    cases j with
    | zero =>
      simp only [List.getElem_cons_zero, List.length_take]
      refine ⟨by omega, by omega, fun h => ?_⟩
      simp only [List.length_cons] at h
      have : l.drop (P.endN W m M mask l) ≠ [] := by
        intro e
        rw [e] at hc
        cases hc with
        | nil => simp at h
        | cons h' _ => exact absurd rfl h'
      have := List.length_pos_iff.2 this
      simp only [List.length_drop] at this
      omega
    | succ j =>
      simp only [List.getElem_cons_succ, List.length_cons] at hj ⊢
      obtain ⟨a, b, c⟩ := ih j (by omega)
      exact ⟨a, b, fun h => c (by omega)⟩

theorem own_cap {w : World} {base : Nat} {e : TypeId} {size : Nat} {A : Option Addr} {n c : Nat} {xs : List Value} (h : w.ownsRow base e size (.slice A n c) n xs) : n ≤ c := by
  rcases h.2 with ⟨hv, rfl⟩ | ⟨g, cap, cur, hv, _, _, hn, _⟩
  · exact Nat.zero_le _
  · injection hv with _ _ hc; omega
theorem join_any (A : Option Addr) (n c : Nat) (xs : List ByteArray) (w : World) (s : ByteArray) (hn : xs.length = n) (hc : n ≤ c) (h : RowAt w w.heap.size A (xs.map .string)) (hs : s.data.toList = (xs.map fun x => x.data.toList).flatten) (hlen : s.size ≤ 100000) (hl : n ≤ 100000) :
    Calls Try.prog 17 #[.slice A n c, .string ⟨#[]⟩] w fun e w' => e = .returned (.string s) ∧ Below w.heap.size w w' := by
  subst hn
  have hsd : s = ⟨s.data.toList.toArray⟩ := by cases s; simp
  by_cases h0 : xs = []
  · subst h0
    refine (Try.strings_Join_none A c _ w).mono ?_
    rintro e w' ⟨rfl, rfl⟩
    simp at hs
    exact ⟨by rw [hsd]; simp [hs], Below.refl _ _⟩
  · obtain ⟨b, o, rfl, hb, hcell⟩ := h.at_ (by simpa using List.length_pos_iff.2 h0)
    have e1 : (⟨#[]⟩ : ByteArray).data.toList = [] := rfl
    have hsl : s.data.toList.length = s.size := by simp
    refine (Try.strings_Join b o c xs ⟨#[]⟩ w (fun j x hx => hcell j _ (by simp [hx])) hb (by omega) hc (by rw [e1, join_empty, ← hs, hsl]; omega)).mono ?_
    rintro e w' ⟨rfl, hb'⟩
    rw [e1, join_empty, ← hs, ← hsd]
    exact ⟨rfl, hb'⟩

theorem str_same (a : ByteArray) : (a.toList == a.toList) = true := by simp

set_option maxHeartbeats 800000 in
theorem law_whole (d : ByteArray) (W m M mask : Int) (w : World) (hd : d.size ≤ 9223372036854775807) :
    Calls Try.prog 7 #[.string d, cutsV W m M mask] w fun e w' => e = .returned (.bool true) ∧ Below w.heap.size w w' := by
  go_enter Try.func7, Try.ntmps7
  go_wp2_with fail
  refine (alive_any _).mono ?_
  rintro e w1 ⟨rfl, hb1⟩
  have g1 := (Blk.new w 24 #[.int .i64 W, .int .i64 m, .int .i64 M, .int .u32 mask]).below hb1 (by simp)
  have b1 : Below w.heap.size w w1 := ((Below.refl _ _).alloc (Nat.le_refl _) _).trans (hb1.mono (by simp))
  have G1 := Lib.hid g1
  have B1 := Lib.hid b1
  have q0 : w1.cell? ⟨w.heap.size, 0, none⟩ = some (.int .i64 W) := g1.cell 0 rfl
  have q1 : w1.cell? ⟨w.heap.size, 1, none⟩ = some (.int .i64 m) := g1.cell 1 rfl
  have q2 : w1.cell? ⟨w.heap.size, 2, none⟩ = some (.int .i64 M) := g1.cell 2 rfl
  have q3 : w1.cell? ⟨w.heap.size, 3, none⟩ = some (.int .u32 mask) := g1.cell 3 rfl
  clear g1 b1 hb1
  by_cases h1 : 5000 < d.size
  · go_wp2
    go_ret
    exact ⟨rfl, B1.out⟩
  by_cases hv : 1 ≤ W ∧ W ≤ 64 ∧ W ≤ m ∧ m ≤ M ∧ M ≤ 65536
  · obtain ⟨W, rfl⟩ := Int.eq_ofNat_of_zero_le (show 0 ≤ W by omega)
    obtain ⟨m, rfl⟩ := Int.eq_ofNat_of_zero_le (show 0 ≤ m by omega)
    obtain ⟨M, rfl⟩ := Int.eq_ofNat_of_zero_le (show 0 ≤ M by omega)
    go_wp2_with fail
    refine (cut_ok d W m M mask _ (by omega) (by omega) (by omega) (by omega) (by omega) (by omega)).mono ?_
    rintro e w2 ⟨v, xs, rfl, own, hb2, hc⟩
    have G2 := Lib.hid (G1.out.below hb2 G1.out.lt)
    have B2 := Lib.hid (B1.out.trans (hb2.mono B1.out.size))
    clear hb2 q0 q1 q2 q3
    have q1 : w2.cell? ⟨w.heap.size, 1, none⟩ = some (.int .i64 m) := G2.out.cell 1 rfl
    have q2 : w2.cell? ⟨w.heap.size, 2, none⟩ = some (.int .i64 M) := G2.out.cell 2 rfl
    obtain ⟨A, c, rfl⟩ := own_form own
    have hcap := own_cap own
    have R1 := Lib.hid (RowAt.of_own own)
    have hxs : xs.length ≤ 5000 := by have := cuts_le (by omega) hc; simp at this; omega
    have HF := Lib.hid (cuts_flat hc)
    have hce := cuts_each (by omega) (by omega) hc
    simp only [List.length_map, List.getElem_map] at hce
    have HE := Lib.hid hce
    clear own hc hce
    go_wp2
    go_loop [7, 8, 33] (fun _ _ i => ∃ k : Nat, k ≤ xs.length ∧ i = .int .i64 k) (fun _ _ i => xs.length - (intOf i).toNat)
    case atStart => exact ⟨0, Nat.zero_le _, rfl⟩
    case round =>
      obtain ⟨k, hk, rfl⟩ := hrel
      by_cases hlt : k < xs.length
      · obtain ⟨b, o, rfl, hbl, hcell⟩ := R1.out.at_ (by simpa using (by omega))
        have g1 : w2.cell? ⟨b, o + k, none⟩ = some (.string xs[k]) := hcell k _ (by simp [hlt])
        clear hcell
        have f1 : xs[k].size ≤ M := by have := (HE.out k hlt).2.1; simpa using this
        have f0 : 1 ≤ xs[k].size := by have := (HE.out k hlt).1; simpa using this
        have f1' : decide (M < xs[k].size) = false := by simpa using f1
        have f0' : decide (((xs[k].size : Nat) : Int) < 1) = false := by simp; omega
        by_cases hmm : xs[k].size < m
        · have f2 : ¬ (k : Int) < (xs.length : Int) - 1 := by
            intro h
            have := (HE.out k hlt).2.2 (by omega)
            simp at this; omega
          have f2' : decide ((k : Int) < (xs.length : Int) - 1) = false := by simpa using f2
          go_wp2
          go_round
          case rel => exact ⟨k + 1, by omega, by go_num⟩
          case measure => simp [intOf]; omega
        · have f2' : decide (xs[k].size < m) = false := by simpa using hmm
          go_wp2
          go_round
          case rel => exact ⟨k + 1, by omega, by go_num⟩
          case measure => simp [intOf]; omega
      · go_wp2_with fail
        refine (join_any A _ c xs _ d rfl hcap R1.out HF.out.symm (by omega) (by omega)).mono ?_
        rintro e w3 ⟨rfl, hb3⟩
        have hss := str_same d
        go_wp2
        go_ret
        exact ⟨rfl, B2.out.trans (hb3.mono B2.out.size)⟩
  · have HC := Lib.hid (chk_no hv)
    go_wp2_with fail
    refine (cut_no d W m M mask _ hv).mono ?_
    rintro e w2 ⟨rfl, hb2⟩
    have G2 := Lib.hid (G1.out.below hb2 G1.out.lt)
    have B2 := Lib.hid (B1.out.trans (hb2.mono B1.out.size))
    clear hb2 q0 q1 q2 q3
    have q0 : w2.cell? ⟨w.heap.size, 0, none⟩ = some (.int .i64 W) := G2.out.cell 0 rfl
    have q1 : w2.cell? ⟨w.heap.size, 1, none⟩ = some (.int .i64 m) := G2.out.cell 1 rfl
    have q2 : w2.cell? ⟨w.heap.size, 2, none⟩ = some (.int .i64 M) := G2.out.cell 2 rfl
    have q3 : w2.cell? ⟨w.heap.size, 3, none⟩ = some (.int .u32 mask) := G2.out.cell 3 rfl
    go_wp2_with fail
    refine (check_any W m M mask _).mono ?_
    rintro e w3 ⟨rfl, hb3⟩
    rw [HC.out]
    go_wp2
    go_ret
    exact ⟨rfl, B2.out.trans (hb3.mono B2.out.size)⟩
end Go.Proofs.Ytfnfkggnkjkapaa
