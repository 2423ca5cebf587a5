/-
  GeomReads: the walk.
-/
import Derived.Test.YtclmocppphojfaaLawGeomPlans
namespace Go.Proofs.Ytclmocppphojfaa
open Go.RowKit
set_option linter.unusedVariables false
set_option linter.unusedSimpArgs false
set_option maxRecDepth 100000
set_option maxHeartbeats 2000000 in
theorem great_any (A : Option Addr) (c : Nat) (xs : List ByteArray) (w : World) (hx : xs.length ≤ maxLen) (hs : ∀ s ∈ xs, s.size ≤ 140737488355328) (h : RowAt w w.heap.size A (xs.map .string)) :
    Calls Try.prog 22 #[.slice A xs.length c] w fun e w' => (∃ r : Int, e = .returned (.int .i64 r) ∧ (r = 1 ∨ r = 0 ∧ xs.length ≤ 30000)) ∧ w = w' := by
  have HR := Lib.hid h
  have HS : Hid (∀ j (hj : j < xs.length), xs[j].size ≤ 140737488355328) := fun j hj => hs _ (List.getElem_mem hj)
  have HX := Lib.hid hx
  clear h hs hx
  go_enter Try.func22, Try.ntmps22
  go_wp2
  go_loop [3, 8] (fun n i => ∃ k q : Nat, k ≤ xs.length ∧ k ≤ q ∧ q ≤ 30000 ∧ i = .int .i64 k ∧ n = .int .i64 q) (fun _ i => xs.length - (intOf i).toNat)
  case atStart => exact ⟨0, 0, Nat.zero_le _, Nat.le_refl _, by omega, rfl, rfl⟩
  case round =>
    obtain ⟨k, q, hk, hq, hq2, rfl, rfl⟩ := hrel
    by_cases hlt : k < xs.length
    · obtain ⟨b, o, rfl, hb, hc⟩ := row_get HR.out k hlt
      rw [getD_eq xs k hlt] at hc
      have hsz := HS.out k hlt
      generalize xs[k] = s at *
      have i1 : (0 : Int) ≤ (k : Int) := by omega
      have i2 : (k : Int) < (xs.length : Int) := by omega
      by_cases hg : (30000 : Int) < (q : Int) + ((s.size : Int) + 1)
      · go_wp2
        go_ret
        exact ⟨⟨1, rfl, .inl rfl⟩, rfl⟩
      · go_wp2
        go_round
        case rel => exact ⟨k + 1, q + (s.size + 1), by omega, by omega, by omega, by go_num, by go_num⟩
        case measure => simp [intOf]; omega
    · go_wp2
      go_ret
      exact ⟨⟨0, rfl, .inr ⟨rfl, by omega⟩⟩, rfl⟩
/-- what Take hands back -/
def takeO (xs : List ByteArray) : List ByteArray × Int × Int := match ofR xs with
  | none => ([], 0, 3)
  | some m => match freeR xs m with
    | none => ([], 0, 10)
    | some i => (takeV xs i, i, 0)
def giveO (xs : List ByteArray) (i : Int) : List ByteArray × Int := match ofR xs with
  | none => ([], 3)
  | some m => if i < (dataN m : Int) ∨ (xs.length : Int) ≤ i then ([], 2) else if bitL (blkL xs 2) i.toNat = false then ([], 9) else (turnV xs i.toNat, 0)
theorem takeO_length (xs : List ByteArray) : (takeO xs).1.length ≤ xs.length := by
  unfold takeO
  cases ofR xs with
  | none => simp
  | some m => dsimp only; cases freeR xs m with
    | none => simp
    | some i => dsimp only; rw [takeV_length]; exact Nat.le_refl _
theorem giveO_length (xs : List ByteArray) (i : Int) : (giveO xs i).1.length ≤ xs.length := by
  unfold giveO
  cases ofR xs with
  | none => simp
  | some m => dsimp only; split
              · simp
              · split
                · simp
                · dsimp only; rw [turnV_length]; exact Nat.le_refl _
def TakeRead (xs : List ByteArray) (w : World) (e : Ending) (w' : World) : Prop := (∃ A c, e = .returned (.tuple #[.slice A (takeO xs).1.length c, .int .i64 (takeO xs).2.1, .int .i64 (takeO xs).2.2]) ∧ RowAt w' w'.heap.size A ((takeO xs).1.map .string)) ∧ Below w.heap.size w w'
def GiveRead (xs : List ByteArray) (i : Int) (w : World) (e : Ending) (w' : World) : Prop := (∃ A c, e = .returned (.tuple #[.slice A (giveO xs i).1.length c, .int .i64 (giveO xs i).2]) ∧ RowAt w' w'.heap.size A ((giveO xs i).1.map .string)) ∧ Below w.heap.size w w'
theorem NewRow.read {ys : List ByteArray} {w w' : World} {v : Value} (h : NewRow ys w v w') : ∃ A c, v = .slice A ys.length c ∧ RowAt w' w'.heap.size A (ys.map .string) := by
  obtain ⟨g, rfl, hg, hn⟩ := h
  exact ⟨_, _, rfl, hn.row⟩
theorem take_read {xs : List ByteArray} {w w' : World} {e : Ending} (h : TakePost xs w e w') : TakeRead xs w e w' := by
  obtain ⟨hb, h⟩ := h
  refine ⟨?_, hb⟩
  unfold takeO
  cases ho : ofR xs with
  | none => rw [ho] at h; exact ⟨none, 0, h, RowAt.nil⟩
  | some m =>
    rw [ho] at h
    dsimp only at h ⊢
    cases hf : freeR xs m with
    | none => rw [hf] at h; exact ⟨none, 0, h, RowAt.nil⟩
    | some i =>
      rw [hf] at h
      obtain ⟨v, he, hn⟩ := h
      obtain ⟨A, c, hv, hr⟩ := hn.read
      exact ⟨A, c, by rw [he, hv], hr⟩
theorem rtake_read {xs : List ByteArray} {w w' : World} {e : Ending} (h : RTakePost xs w e w') : TakeRead xs w e w' := by
  obtain ⟨hb, h⟩ := h
  refine ⟨?_, hb⟩
  unfold takeO
  cases ho : ofR xs with
  | none => rw [ho] at h; exact ⟨none, 0, h, RowAt.nil⟩
  | some m =>
    rw [ho] at h
    dsimp only at h ⊢
    cases hf : freeR xs m with
    | none => rw [hf] at h; exact ⟨none, 0, h, RowAt.nil⟩
    | some i =>
      rw [hf] at h
      obtain ⟨v, he, hn⟩ := h
      obtain ⟨A, c, hv, hr⟩ := hn.read
      exact ⟨A, c, by rw [he, hv], hr⟩
theorem give_read {xs : List ByteArray} {i : Int} {w w' : World} {e : Ending} (h : GivePost xs i w e w') : GiveRead xs i w e w' := by
  obtain ⟨hb, h⟩ := h
  refine ⟨?_, hb⟩
  unfold giveO
  cases ho : ofR xs with
  | none => rw [ho] at h; exact ⟨none, 0, h, RowAt.nil⟩
  | some m =>
    rw [ho] at h
    dsimp only at h ⊢
    by_cases h1 : i < (dataN m : Int) ∨ (xs.length : Int) ≤ i
    · rw [if_pos h1] at h ⊢; exact ⟨none, 0, h, RowAt.nil⟩
    · rw [if_neg h1] at h ⊢
      by_cases h2 : bitL (blkL xs 2) i.toNat = false
      · rw [if_pos h2] at h ⊢; exact ⟨none, 0, h, RowAt.nil⟩
      · rw [if_neg h2] at h ⊢
        obtain ⟨v, he, hn⟩ := h
        obtain ⟨A, c, hv, hr⟩ := hn.read
        exact ⟨A, c, by rw [he, hv], hr⟩
theorem rgive_read {xs : List ByteArray} {i : Int} {w w' : World} {e : Ending} (h : RGivePost xs i w e w') : GiveRead xs i w e w' := by
  obtain ⟨hb, h⟩ := h
  refine ⟨?_, hb⟩
  unfold giveO
  cases ho : ofR xs with
  | none => rw [ho] at h; exact ⟨none, 0, h, RowAt.nil⟩
  | some m =>
    rw [ho] at h
    dsimp only at h ⊢
    by_cases h1 : i < (dataN m : Int) ∨ (xs.length : Int) ≤ i
    · rw [if_pos h1] at h ⊢; exact ⟨none, 0, h, RowAt.nil⟩
    · rw [if_neg h1] at h ⊢
      by_cases h2 : bitL (blkL xs 2) i.toNat = false
      · rw [if_pos h2] at h ⊢; exact ⟨none, 0, h, RowAt.nil⟩
      · rw [if_neg h2] at h ⊢
        obtain ⟨v, he, hn⟩ := h
        obtain ⟨A, c, hv, hr⟩ := hn.read
        exact ⟨A, c, by rw [he, hv], hr⟩
theorem ofE_form (n : Nat) (o : Option Nat) : ∃ a b c d e f k : Int, ofE n o = .returned (.tuple #[.agg #[.int .i64 a, .int .i64 b, .int .i64 c, .int .i64 d, .int .i64 e, .int .i64 f], .int .i64 k]) := by
  cases o with
  | none => exact ⟨_, _, _, _, _, _, _, rfl⟩
  | some m => exact ⟨_, _, _, _, _, _, _, rfl⟩
set_option maxHeartbeats 4000000 in
theorem law_reads (A : Option Addr) (c : Nat) (xs : List ByteArray) (i : Int) (w : World) (hx : xs.length ≤ maxLen) (hs : ∀ s ∈ xs, s.size ≤ 140737488355328) (h : RowAt w w.heap.size A (xs.map .string)) :
    Calls Try.prog 4 #[.slice A xs.length c, .int .i64 i] w fun e w' => e = .returned (.bool true) ∧ Below w.heap.size w w' := by
  have HR := Lib.hid h
  have HS := Lib.hid hs
  have HX := Lib.hid hx
  clear h hs hx
  go_enter Try.func4, Try.ntmps4
  go_wp2_with fail
  refine (alive_any _).mono ?_
  rintro e w0 ⟨rfl, hb0⟩
  have B0 := Lib.hid hb0
  clear hb0
  go_wp2_with fail
  refine (great_any A c xs _ HX.out HS.out ((HR.out.below B0.out).mono B0.out.size)).mono ?_
  rintro e w' ⟨⟨r, rfl, rfl | ⟨rfl, hl⟩⟩, rfl⟩
  · go_wp2
    go_ret
    exact ⟨rfl, B0.out⟩
  have hx : xs.length ≤ 1000000 := by omega
  have HX6 := Lib.hid hx
  have hxm : xs.length ≤ maxLen := HX.out
  have HT : Hid ((takeO xs).1.length ≤ maxLen) := Nat.le_trans (takeO_length xs) hxm
  have HG : Hid ((giveO xs i).1.length ≤ maxLen) := Nat.le_trans (giveO_length xs i) hxm
  clear hx hxm hl
  obtain ⟨a1, a2, a3, a4, a5, a6, code, hof⟩ := ofE_form xs.length (ofR xs)
  have n1 := fun w => geom_neq a1 a2 a3 a4 a5 a6 w
  have HOF := Lib.hid hof
  clear hof
  go_wp2_with fail
  refine (of_any A c xs _ HX6.out ((HR.out.below B0.out).mono B0.out.size)).mono ?_
  rintro e w1 ⟨rfl, hb1⟩
  rw [HOF.out]
  have B1 := Lib.hid (B0.out.trans (hb1.mono B0.out.size))
  have hz1 := B1.out.size
  clear hb1
  have R1 := Lib.hid ((HR.out.below B1.out).mono B1.out.size)
  have BA := Lib.hid (B1.out.alloc hz1 (.cells #[.int .i64 a1, .int .i64 a2, .int .i64 a3, .int .i64 a4, .int .i64 a5, .int .i64 a6] 24))
  go_wp2_with fail
  refine (rof_any A c xs _ HX6.out ((HR.out.below BA.out).mono BA.out.size)).mono ?_
  rintro e w2 ⟨rfl, hb2⟩
  rw [HOF.out]
  have G1 := Lib.hid ((Blk.new w1 24 #[.int .i64 a1, .int .i64 a2, .int .i64 a3, .int .i64 a4, .int .i64 a5, .int .i64 a6]).below hb2 (by simp))
  have B2 := Lib.hid (BA.out.trans (hb2.mono BA.out.size))
  have hz2 := B2.out.size
  clear hb2 BA
  have G2 := Lib.hid (Blk.new w2 24 #[.int .i64 a1, .int .i64 a2, .int .i64 a3, .int .i64 a4, .int .i64 a5, .int .i64 a6])
  have G1 := Lib.hid (G1.out.alloc (.cells #[.int .i64 a1, .int .i64 a2, .int .i64 a3, .int .i64 a4, .int .i64 a5, .int .i64 a6] 24))
  have B3 := Lib.hid (B2.out.alloc hz2 (.cells #[.int .i64 a1, .int .i64 a2, .int .i64 a3, .int .i64 a4, .int .i64 a5, .int .i64 a6] 24))
  have p0 : (w2.alloc (.cells #[.int .i64 a1, .int .i64 a2, .int .i64 a3, .int .i64 a4, .int .i64 a5, .int .i64 a6] 24)).cell? ⟨w1.heap.size, 0, none⟩ = some (.int .i64 a1) := G1.out.cell 0 rfl
  have p1 : (w2.alloc (.cells #[.int .i64 a1, .int .i64 a2, .int .i64 a3, .int .i64 a4, .int .i64 a5, .int .i64 a6] 24)).cell? ⟨w1.heap.size, 1, none⟩ = some (.int .i64 a2) := G1.out.cell 1 rfl
  have p2 : (w2.alloc (.cells #[.int .i64 a1, .int .i64 a2, .int .i64 a3, .int .i64 a4, .int .i64 a5, .int .i64 a6] 24)).cell? ⟨w1.heap.size, 2, none⟩ = some (.int .i64 a3) := G1.out.cell 2 rfl
  have p3 : (w2.alloc (.cells #[.int .i64 a1, .int .i64 a2, .int .i64 a3, .int .i64 a4, .int .i64 a5, .int .i64 a6] 24)).cell? ⟨w1.heap.size, 3, none⟩ = some (.int .i64 a4) := G1.out.cell 3 rfl
  have p4 : (w2.alloc (.cells #[.int .i64 a1, .int .i64 a2, .int .i64 a3, .int .i64 a4, .int .i64 a5, .int .i64 a6] 24)).cell? ⟨w1.heap.size, 4, none⟩ = some (.int .i64 a5) := G1.out.cell 4 rfl
  have p5 : (w2.alloc (.cells #[.int .i64 a1, .int .i64 a2, .int .i64 a3, .int .i64 a4, .int .i64 a5, .int .i64 a6] 24)).cell? ⟨w1.heap.size, 5, none⟩ = some (.int .i64 a6) := G1.out.cell 5 rfl
  go_wp2_with fail
  refine (used_any A c xs i _ HX6.out ((HR.out.below B3.out).mono B3.out.size)).mono ?_
  rintro e w4 ⟨rfl, hb4⟩
  have B4 := Lib.hid (B3.out.trans (hb4.mono B3.out.size))
  clear hb4 p0 p1 p2 p3 p4 p5 n1 B3 G1 G2
  go_wp2_with fail
  refine (rused_any A c xs i _ HX6.out ((HR.out.below B4.out).mono B4.out.size)).mono ?_
  rintro e w5 ⟨rfl, hb5⟩
  have B5 := Lib.hid (B4.out.trans (hb5.mono B4.out.size))
  clear hb5
  generalize usedR xs i = ub
  go_wp2_with fail
  refine (room_any A c xs _ HX6.out ((HR.out.below B5.out).mono B5.out.size)).mono ?_
  rintro e w6 ⟨rfl, hb6⟩
  have B6 := Lib.hid (B5.out.trans (hb6.mono B5.out.size))
  clear hb6
  go_wp2_with fail
  refine (rroom_any A c xs _ HX6.out ((HR.out.below B6.out).mono B6.out.size)).mono ?_
  rintro e w7 ⟨rfl, hb7⟩
  have B7 := Lib.hid (B6.out.trans (hb7.mono B6.out.size))
  clear hb7
  generalize roomR xs = rr
  go_wp2_with fail
  refine (take_any A c xs _ HX6.out ((HR.out.below B7.out).mono B7.out.size)).mono ?_
  intro e w8 hq
  obtain ⟨⟨A1, c1, rfl, hr1⟩, hb8⟩ := take_read hq
  have B8 := Lib.hid (B7.out.trans (hb8.mono B7.out.size))
  have R1 := Lib.hid hr1
  clear hb8 hr1 hq
  go_wp2_with fail
  refine (rtake_any A c xs _ HX6.out ((HR.out.below B8.out).mono B8.out.size)).mono ?_
  intro e w9 hq
  obtain ⟨⟨A2, c2, rfl, hr2⟩, hb9⟩ := rtake_read hq
  have B9 := Lib.hid (B8.out.trans (hb9.mono B8.out.size))
  have R1 := Lib.hid ((R1.out.below hb9).mono hb9.size)
  have R2 := Lib.hid hr2
  clear hb9 hr2 hq
  go_wp2_with fail
  refine (give_any A c xs i _ HX6.out ((HR.out.below B9.out).mono B9.out.size)).mono ?_
  intro e w10 hq
  obtain ⟨⟨A3, c3, rfl, hr3⟩, hb10⟩ := give_read hq
  have B10 := Lib.hid (B9.out.trans (hb10.mono B9.out.size))
  have R1 := Lib.hid ((R1.out.below hb10).mono hb10.size)
  have R2 := Lib.hid ((R2.out.below hb10).mono hb10.size)
  have R3 := Lib.hid hr3
  clear hb10 hr3 hq
  go_wp2_with fail
  refine (rgive_any A c xs i _ HX6.out ((HR.out.below B10.out).mono B10.out.size)).mono ?_
  intro e w11 hq
  obtain ⟨⟨A4, c4, rfl, hr4⟩, hb11⟩ := rgive_read hq
  have B11 := Lib.hid (B10.out.trans (hb11.mono B10.out.size))
  have R1 := Lib.hid ((R1.out.below hb11).mono hb11.size)
  have R2 := Lib.hid ((R2.out.below hb11).mono hb11.size)
  have R3 := Lib.hid ((R3.out.below hb11).mono hb11.size)
  have R4 := Lib.hid hr4
  clear hb11 hr4 hq
  generalize takeO xs = tk at *
  generalize giveO xs i = gv at *
  obtain ⟨ts, tn, tc⟩ := tk
  obtain ⟨gs, gc⟩ := gv
  dsimp only at *
  go_wp2_with fail
  refine (same_below A1 A2 c1 c2 ts ts _ HT.out HT.out R1.out R2.out).mono ?_
  rintro e w12 ⟨rfl, hb12⟩
  rw [show eqL ts ts = true by unfold eqL; simp]
  have B12 := Lib.hid (B11.out.trans (hb12.mono B11.out.size))
  have R3 := Lib.hid ((R3.out.below hb12).mono hb12.size)
  have R4 := Lib.hid ((R4.out.below hb12).mono hb12.size)
  clear hb12
  go_wp2_with fail
  refine (same_below A3 A4 c3 c4 gs gs _ HG.out HG.out R3.out R4.out).mono ?_
  rintro e w13 ⟨rfl, hb13⟩
  rw [show eqL gs gs = true by unfold eqL; simp]
  have B13 := Lib.hid (B12.out.trans (hb13.mono B12.out.size))
  clear hb13
  go_wp2
  go_ret
  exact ⟨rfl, B13.out⟩
end Go.Proofs.Ytclmocppphojfaa
