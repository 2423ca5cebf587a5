/-
  QuotaTells, QuotaSets: the walks.
-/
import Derived.Test.YtjmafegckfijbaaRQuoB
import Derived.Test.YtjmafegckfijbaaQuoAlive
namespace Go.Proofs.Ytjmafegckfijbaa
open Go.RowKit
set_option linter.unusedVariables false
set_option linter.unusedSimpArgs false
set_option maxRecDepth 100000
set_option maxHeartbeats 4000000 in
theorem law_qtells (A : Option Addr) (c : Nat) (xs : List ByteArray) (o : Int) (w : World) (hx : xs.length ≤ maxLen) (hs : ∀ s ∈ xs, s.size ≤ 140737488355328) (h : RowAt w w.heap.size A (xs.map .string)) :
    Calls Try.prog 10 #[.slice A xs.length c, .int .i64 o] w fun e w' => e = .returned (.bool true) ∧ Below w.heap.size w w' := by
  have HR := Lib.hid h
  have HX := Lib.hid hx
  have HS := Lib.hid hs
  clear h hx hs
  have C1 := Lib.hid (fun w hx h => quo_limit A c xs o w hx h)
  have C2 := Lib.hid (fun w hx h => rlimit_any A c xs o w hx h)
  have C3 := Lib.hid (fun w hx h => used_quo A c xs o w hx h)
  have C4 := Lib.hid (fun w hx h => rused22_any A c xs o w hx h)
  have C5 := Lib.hid (fun w hx h => check_quo A c xs w hx h)
  have C6 := Lib.hid (fun w hx h => rcheck22_any A c xs w hx h)
  generalize (limitO xs o).1 = l1 at *
  generalize (limitO xs o).2 = l2 at *
  generalize usedO xs o = us at *
  generalize checkO xs = ck at *
  go_enter Try.func10, Try.ntmps10
  go_wp2_with fail
  refine (alive22_any _).mono ?_
  rintro e w1 ⟨rfl, hb1⟩
  have B := Lib.hid hb1
  have RV := Lib.hid ((HR.out.below B.out).mono B.out.size)
  clear hb1
  go_wp2_with fail
  refine (great18_any A c xs _ HX.out (fun s h => Nat.le_trans (HS.out s h) (by decide)) RV.out).mono ?_
  rintro e w' ⟨⟨r, rfl, rfl | ⟨rfl, hl80⟩⟩, rfl⟩
  · go_wp2
    go_ret
    exact ⟨rfl, B.out⟩
  have HX6 : Hid (xs.length ≤ 1000000) := by show _ ≤ _; omega
  go_wp2_with fail
  refine (C1.out _ HX6.out RV.out).mono ?_
  rintro e w2 ⟨rfl, hb2⟩
  replace B := Lib.hid (B.out.trans (hb2.mono B.out.size))
  replace RV := Lib.hid ((RV.out.below hb2).mono hb2.size)
  clear hb2
  go_wp2_with fail
  refine (C2.out _ HX6.out RV.out).mono ?_
  rintro e w2 ⟨rfl, hb2⟩
  replace B := Lib.hid (B.out.trans (hb2.mono B.out.size))
  replace RV := Lib.hid ((RV.out.below hb2).mono hb2.size)
  clear hb2
  go_wp2_with fail
  refine (C3.out _ HX6.out RV.out).mono ?_
  rintro e w2 ⟨rfl, hb2⟩
  replace B := Lib.hid (B.out.trans (hb2.mono B.out.size))
  replace RV := Lib.hid ((RV.out.below hb2).mono hb2.size)
  clear hb2
  go_wp2_with fail
  refine (C4.out _ HX6.out RV.out).mono ?_
  rintro e w2 ⟨rfl, hb2⟩
  replace B := Lib.hid (B.out.trans (hb2.mono B.out.size))
  replace RV := Lib.hid ((RV.out.below hb2).mono hb2.size)
  clear hb2
  go_wp2_with fail
  refine (C5.out _ HX6.out RV.out).mono ?_
  rintro e w2 ⟨rfl, hb2⟩
  replace B := Lib.hid (B.out.trans (hb2.mono B.out.size))
  replace RV := Lib.hid ((RV.out.below hb2).mono hb2.size)
  clear hb2
  go_wp2_with fail
  refine (C6.out _ HX6.out RV.out).mono ?_
  rintro e w2 ⟨rfl, hb2⟩
  replace B := Lib.hid (B.out.trans (hb2.mono B.out.size))
  replace RV := Lib.hid ((RV.out.below hb2).mono hb2.size)
  clear hb2
  go_wp2
  go_ret
  exact ⟨rfl, B.out⟩
set_option maxHeartbeats 4000000 in
theorem law_qsets (A : Option Addr) (c : Nat) (xs : List ByteArray) (o lm : Int) (w : World) (hx : xs.length ≤ maxLen) (hs : ∀ s ∈ xs, s.size ≤ 140737488355328) (h : RowAt w w.heap.size A (xs.map .string)) :
    Calls Try.prog 4 #[.slice A xs.length c, .int .i64 o, .int .i64 lm] w fun e w' => e = .returned (.bool true) ∧ Below w.heap.size w w' := by
  have HR := Lib.hid h
  have HX := Lib.hid hx
  have HS := Lib.hid hs
  clear h hx hs
  have C1 := Lib.hid (fun w hx h => set_quo A c xs o lm w hx h)
  have C2 := Lib.hid (fun w hx h => rset22_any A c xs o lm w hx h)
  have HLE : Hid ((setO xs o lm).1.length ≤ xs.length) := by
    show _ ≤ _
    unfold setO
    split
    · simp
    · split
      · simp
      · split
        · simp
        · simp [layX_length]
  generalize (setO xs o lm).1 = ys at *
  generalize (setO xs o lm).2 = code at *
  go_enter Try.func4, Try.ntmps4
  go_wp2_with fail
  refine (alive22_any _).mono ?_
  rintro e w1 ⟨rfl, hb1⟩
  have B := Lib.hid hb1
  have RV := Lib.hid ((HR.out.below B.out).mono B.out.size)
  clear hb1
  go_wp2_with fail
  refine (great18_any A c xs _ HX.out (fun s h => Nat.le_trans (HS.out s h) (by decide)) RV.out).mono ?_
  rintro e w' ⟨⟨r, rfl, rfl | ⟨rfl, hl80⟩⟩, rfl⟩
  · go_wp2
    go_ret
    exact ⟨rfl, B.out⟩
  have HX6 : Hid (xs.length ≤ 1000000) := by show _ ≤ _; omega
  go_wp2_with fail
  refine (C1.out _ HX6.out RV.out).mono ?_
  rintro e w2 ⟨⟨v, rfl, hn⟩, hb2⟩
  obtain ⟨A1, c1, rfl, hr1⟩ := OwnRow.read hn
  have R1 := Lib.hid hr1
  replace B := Lib.hid (B.out.trans (hb2.mono B.out.size))
  replace RV := Lib.hid ((RV.out.below hb2).mono hb2.size)
  clear hb2 hn hr1
  go_wp2_with fail
  refine (C2.out _ HX6.out RV.out).mono ?_
  rintro e w3 ⟨⟨v, rfl, hn⟩, hb3⟩
  obtain ⟨A2, c2, rfl, hr2⟩ := OwnRow.read hn
  have R2 := Lib.hid hr2
  replace B := Lib.hid (B.out.trans (hb3.mono B.out.size))
  replace R1 := Lib.hid ((R1.out.below hb3).mono hb3.size)
  clear hb3 hn hr2
  have HM : Hid (ys.length ≤ maxLen) := by show _ ≤ _; have := HLE.out; unfold maxLen; omega
  have HQ : Hid (eqL ys ys = true) := by show _ = _; unfold eqL; simp
  go_wp2_with fail
  refine (same18_below _ _ _ _ ys ys _ HM.out HM.out R1.out R2.out).mono ?_
  rw [HQ.out]
  rintro e w4 ⟨rfl, hb4⟩
  replace B := Lib.hid (B.out.trans (hb4.mono B.out.size))
  clear hb4
  go_wp2
  go_ret
  exact ⟨rfl, B.out⟩
end Go.Proofs.Ytjmafegckfijbaa
