/-
  InodeGets: the walk.
-/
import Derived.Test.YtclmocppphojfaaRInoAll
namespace Go.Proofs.Ytclmocppphojfaa
open Go.RowKit
set_option linter.unusedVariables false
set_option linter.unusedSimpArgs false
set_option maxRecDepth 100000
theorem rget_lit2 (A : Option Addr) (c : Nat) (xs : List ByteArray) (n : Int) (hx : xs.length ≤ 1000000) {L : List Nat} {code : Int} (hL : getR xs n = L) (hc : inoE xs n = code) (w : World) (h : RowAt w w.heap.size A (xs.map .string)) :
    Calls Try.prog 39 #[.slice A xs.length c, .int .i64 n] w fun e w' => e = .returned (.tuple #[.agg (inoC L), .int .i64 code]) ∧ Below w.heap.size w w' := by
  rw [← hL, ← hc]; exact rget_ino A c xs n w hx h
theorem rall_read (A : Option Addr) (c : Nat) (xs : List ByteArray) (hx : xs.length ≤ 1000000) (w : World) (h : RowAt w w.heap.size A (xs.map .string)) :
    Calls Try.prog 41 #[.slice A xs.length c] w fun e w' => (∃ A' c', e = .returned (.slice A' (allO xs).length c') ∧ RowAt w' w'.heap.size A' (numsC (allO xs))) ∧ Below w.heap.size w w' :=
  (rall_ino A c xs w hx h).mono fun e w' hq => by
    obtain ⟨⟨v, he, hn⟩, hb⟩ := hq
    obtain ⟨A', c', rfl, hr⟩ := hn.read
    exact ⟨⟨A', c', he, hr⟩, hb⟩
theorem allO_len (xs : List ByteArray) : (allO xs).length ≤ 1000 := by
  unfold allO
  cases h : ofR xs with
  | none => simp
  | some m =>
    have := (ofR_some.1 h).len
    have := allR_len xs m
    dsimp only
    omega
set_option maxHeartbeats 4000000 in
theorem law_gets (A : Option Addr) (c : Nat) (xs : List ByteArray) (n : Int) (w : World) (hx : xs.length ≤ maxLen) (hs : ∀ s ∈ xs, s.size ≤ 140737488355328) (h : RowAt w w.heap.size A (xs.map .string)) :
    Calls Try.prog 8 #[.slice A xs.length c, .int .i64 n] w fun e w' => e = .returned (.bool true) ∧ Below w.heap.size w w' := by
  have HR := Lib.hid h
  have HX := Lib.hid hx
  have HS := Lib.hid hs
  clear h hx hs
  go_enter Try.func8, Try.ntmps8
  go_wp2_with fail
  refine (alive18_any _).mono ?_
  rintro e w1 ⟨rfl, hb1⟩
  have B := Lib.hid hb1
  have R := Lib.hid (HR.out.next hb1)
  clear hb1
  go_wp2_with fail
  refine (great18_any A c xs _ HX.out (fun s h => Nat.le_trans (HS.out s h) (by decide)) R.out).mono ?_
  rintro e w' ⟨⟨r, rfl, rfl | ⟨rfl, hl80⟩⟩, rfl⟩
  · go_wp2
    go_ret
    exact ⟨rfl, B.out⟩
  have hx6 : xs.length ≤ 1000000 := by omega
  have HX6 := Lib.hid hx6
  obtain ⟨c0, c1, c2, c3, c4, c5, c6, c7, c8, c9, c10, c11, hc⟩ := len12 (getR_len xs n)
  have litc : inoC [c0, c1, c2, c3, c4, c5, c6, c7, c8, c9, c10, c11] = #[.int .i64 (c0 : Int), .int .i64 (c1 : Int), .int .i64 (c2 : Int), .int .i64 (c3 : Int), .int .i64 (c4 : Int), .int .i64 (c5 : Int), .int .i64 (c6 : Int), .int .i64 (c7 : Int), .int .i64 (c8 : Int), .int .i64 (c9 : Int), .int .i64 (c10 : Int), .int .i64 (c11 : Int)] := rfl
  have C1 := Lib.hid (get_lit A c xs n HX6.out hc rfl)
  have C2 := Lib.hid (rget_lit2 A c xs n HX6.out hc rfl)
  have C3 := Lib.hid (all_read A c xs HX6.out)
  have C4 := Lib.hid (rall_read A c xs HX6.out)
  have hal := allO_len xs
  rw [litc] at C1 C2
  have q0 := fun w => ino_neq (c0 : Int) (c1 : Int) (c2 : Int) (c3 : Int) (c4 : Int) (c5 : Int) (c6 : Int) (c7 : Int) (c8 : Int) (c9 : Int) (c10 : Int) (c11 : Int) w
  unfold inoA at q0
  clear hc litc
  generalize inoE xs n = code at *
  generalize allO xs = gs at *
  go_wp2_with fail
  refine (C1.out _ R.out).mono ?_
  rintro e w2 ⟨rfl, hb2⟩
  replace B := Lib.hid (B.out.trans (hb2.mono B.out.size))
  replace R := Lib.hid (R.out.next hb2)
  clear hb2
  have G5 := Lib.hid (Blk.new w2 50 #[.int .i64 (c0 : Int), .int .i64 (c1 : Int), .int .i64 (c2 : Int), .int .i64 (c3 : Int), .int .i64 (c4 : Int), .int .i64 (c5 : Int), .int .i64 (c6 : Int), .int .i64 (c7 : Int), .int .i64 (c8 : Int), .int .i64 (c9 : Int), .int .i64 (c10 : Int), .int .i64 (c11 : Int)])
  have hz2 := B.out.size
  replace B := Lib.hid (B.out.alloc hz2 (.cells #[.int .i64 (c0 : Int), .int .i64 (c1 : Int), .int .i64 (c2 : Int), .int .i64 (c3 : Int), .int .i64 (c4 : Int), .int .i64 (c5 : Int), .int .i64 (c6 : Int), .int .i64 (c7 : Int), .int .i64 (c8 : Int), .int .i64 (c9 : Int), .int .i64 (c10 : Int), .int .i64 (c11 : Int)] 50))
  replace R := Lib.hid (R.out.next ((Below.refl w2.heap.size w2).alloc (Nat.le_refl _) (.cells #[.int .i64 (c0 : Int), .int .i64 (c1 : Int), .int .i64 (c2 : Int), .int .i64 (c3 : Int), .int .i64 (c4 : Int), .int .i64 (c5 : Int), .int .i64 (c6 : Int), .int .i64 (c7 : Int), .int .i64 (c8 : Int), .int .i64 (c9 : Int), .int .i64 (c10 : Int), .int .i64 (c11 : Int)] 50)))
  go_wp2_with fail
  refine (C2.out _ R.out).mono ?_
  rintro e w3 ⟨rfl, hb3⟩
  replace G5 := Lib.hid (G5.out.below hb3 G5.out.lt)
  replace B := Lib.hid (B.out.trans (hb3.mono B.out.size))
  replace R := Lib.hid (R.out.next hb3)
  clear hb3 hz2
  generalize w2.heap.size = g5 at *
  have G7 := Lib.hid (Blk.new w3 50 #[.int .i64 (c0 : Int), .int .i64 (c1 : Int), .int .i64 (c2 : Int), .int .i64 (c3 : Int), .int .i64 (c4 : Int), .int .i64 (c5 : Int), .int .i64 (c6 : Int), .int .i64 (c7 : Int), .int .i64 (c8 : Int), .int .i64 (c9 : Int), .int .i64 (c10 : Int), .int .i64 (c11 : Int)])
  replace G5 := Lib.hid (G5.out.alloc (.cells #[.int .i64 (c0 : Int), .int .i64 (c1 : Int), .int .i64 (c2 : Int), .int .i64 (c3 : Int), .int .i64 (c4 : Int), .int .i64 (c5 : Int), .int .i64 (c6 : Int), .int .i64 (c7 : Int), .int .i64 (c8 : Int), .int .i64 (c9 : Int), .int .i64 (c10 : Int), .int .i64 (c11 : Int)] 50))
  have hz3 := B.out.size
  replace B := Lib.hid (B.out.alloc hz3 (.cells #[.int .i64 (c0 : Int), .int .i64 (c1 : Int), .int .i64 (c2 : Int), .int .i64 (c3 : Int), .int .i64 (c4 : Int), .int .i64 (c5 : Int), .int .i64 (c6 : Int), .int .i64 (c7 : Int), .int .i64 (c8 : Int), .int .i64 (c9 : Int), .int .i64 (c10 : Int), .int .i64 (c11 : Int)] 50))
  replace R := Lib.hid (R.out.next ((Below.refl w3.heap.size w3).alloc (Nat.le_refl _) (.cells #[.int .i64 (c0 : Int), .int .i64 (c1 : Int), .int .i64 (c2 : Int), .int .i64 (c3 : Int), .int .i64 (c4 : Int), .int .i64 (c5 : Int), .int .i64 (c6 : Int), .int .i64 (c7 : Int), .int .i64 (c8 : Int), .int .i64 (c9 : Int), .int .i64 (c10 : Int), .int .i64 (c11 : Int)] 50)))
  go_wp2_with fail
  refine (C3.out _ R.out).mono ?_
  rintro e w4 ⟨⟨A4, cc4, rfl, R4⟩, hb4⟩
  replace G5 := Lib.hid (G5.out.below hb4 G5.out.lt)
  replace G7 := Lib.hid (G7.out.below hb4 G7.out.lt)
  replace B := Lib.hid (B.out.trans (hb4.mono B.out.size))
  replace R := Lib.hid (R.out.next hb4)
  replace R4 := Lib.hid R4
  clear hb4 hz3
  generalize w3.heap.size = g7 at *
  go_wp2_with fail
  refine (C4.out _ R.out).mono ?_
  rintro e w5 ⟨⟨A5, cc5, rfl, R5⟩, hb5⟩
  replace G5 := Lib.hid (G5.out.below hb5 G5.out.lt)
  replace G7 := Lib.hid (G7.out.below hb5 G7.out.lt)
  replace B := Lib.hid (B.out.trans (hb5.mono B.out.size))
  replace R4 := Lib.hid (R4.out.next hb5)
  replace R5 := Lib.hid R5
  clear hb5
  have k5_0 := G5.out.cell 0 rfl
  have k5_1 := G5.out.cell 1 rfl
  have k5_2 := G5.out.cell 2 rfl
  have k5_3 := G5.out.cell 3 rfl
  have k5_4 := G5.out.cell 4 rfl
  have k5_5 := G5.out.cell 5 rfl
  have k5_6 := G5.out.cell 6 rfl
  have k5_7 := G5.out.cell 7 rfl
  have k5_8 := G5.out.cell 8 rfl
  have k5_9 := G5.out.cell 9 rfl
  have k5_10 := G5.out.cell 10 rfl
  have k5_11 := G5.out.cell 11 rfl
  have k7_0 := G7.out.cell 0 rfl
  have k7_1 := G7.out.cell 1 rfl
  have k7_2 := G7.out.cell 2 rfl
  have k7_3 := G7.out.cell 3 rfl
  have k7_4 := G7.out.cell 4 rfl
  have k7_5 := G7.out.cell 5 rfl
  have k7_6 := G7.out.cell 6 rfl
  have k7_7 := G7.out.cell 7 rfl
  have k7_8 := G7.out.cell 8 rfl
  have k7_9 := G7.out.cell 9 rfl
  have k7_10 := G7.out.cell 10 rfl
  have k7_11 := G7.out.cell 11 rfl
  have t1 : (code != code) = false := by simp
  have t2 : (((gs.length : Nat) : Int) != (gs.length : Int)) = false := by simp
  go_wp2
  go_loopw [11] (fun i wr => ∃ j : Nat, j ≤ gs.length ∧ i = .int .i64 j ∧ Hid (RowAt wr wr.heap.size A4 (numsC gs)) ∧ Hid (RowAt wr wr.heap.size A5 (numsC gs)) ∧ Hid (Below w.heap.size w wr)) (fun i _ => gs.length - (intOf i).toNat)
  case atStart => exact ⟨0, Nat.zero_le _, rfl, R4, R5, B⟩
  case round =>
    obtain ⟨j, hj, rfl, P4, P5, BK⟩ := hrel
    by_cases hlt : j < gs.length
    · obtain ⟨b, o, rfl, hb, hcb⟩ := P4.out.at_ (by unfold numsC; simp; omega)
      obtain ⟨b', o', rfl, hb', hcb'⟩ := P5.out.at_ (by unfold numsC; simp; omega)
      have hcj : wr.cell? ⟨b, o + j, none⟩ = some (.int .i64 ((gs[j] : Nat) : Int)) := hcb j _ (by unfold numsC; simp [hlt])
      have hcj' : wr.cell? ⟨b', o' + j, none⟩ = some (.int .i64 ((gs[j] : Nat) : Int)) := hcb' j _ (by unfold numsC; simp [hlt])
      have i1 : (0 : Int) ≤ (j : Int) := by omega
      have i2 : (j : Int) < (gs.length : Int) := by omega
      clear hcb hcb'
      generalize gs[j] = g at *
      have t3 : ((g : Int) != (g : Int)) = false := by simp
      go_wp2
      go_quiet (fail)
      go_wp2
      go_roundw
      case rel => exact ⟨j + 1, by omega, by go_num, P4, P5, below_drewN BK.out _⟩
      case measure => simp [intOf]; omega
    · go_wp2
      go_ret
      exact ⟨rfl, BK.out⟩
end Go.Proofs.Ytclmocppphojfaa
