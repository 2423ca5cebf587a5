/-
  ExtentSplits: the walk.
-/
import Derived.Test.YtjmafegckfijbaaLawExtSp
import Derived.Test.YtjmafegckfijbaaLaidW
import Derived.Test.YtjmafegckfijbaaSame19
import Derived.BigQuiet
namespace Go.Proofs.Ytjmafegckfijbaa
open Go.RowKit
set_option linter.unusedVariables false
set_option linter.unusedSimpArgs false
set_option maxRecDepth 100000
theorem RowAt.int3b {w : World} {B : Nat} {A : Option Addr} (h : RowAt w B A [.int .i64 1, .int .i64 2, .int .i64 3]) : ∃ b o, A = some ⟨b, o, none⟩ ∧ b < B ∧ w.cell? ⟨b, o, none⟩ = some (.int .i64 1) ∧ w.cell? ⟨b, o + 1, none⟩ = some (.int .i64 2) ∧ w.cell? ⟨b, o + 2, none⟩ = some (.int .i64 3) := by
  obtain ⟨b, o, hA, hb, hc⟩ := h.at_ (by decide)
  exact ⟨b, o, hA, hb, hc 0 _ rfl, hc 1 _ rfl, hc 2 _ rfl⟩
set_option maxHeartbeats 8000000 in
theorem law_splits (A : Option Addr) (c : Nat) (l : List ActV) (a b : ByteArray) (w : World) (hl : l.length ≤ maxLen) (hd : ∀ a ∈ l, ActOk a ∧ a.data.size ≤ 140737488355328) (h : ActsAt w w.heap.size A l) :
    Calls Try.prog 9 #[.slice A l.length c, .string a, .string b] w fun e w' => e = .returned (.bool true) ∧ Below w.heap.size w w' := by
  have H0 := Lib.hid h
  have CG := Lib.hid (lgreat_any A c l w hl h)
  have CL := Lib.hid (fun w h => laid_any A c l w hl hd h)
  have HD := Lib.hid hd
  unfold LaidPost at CL
  have HS := Lib.hid (laidV_laid l)
  generalize laidV l = V at *
  clear h hd
  unfold maxLen at hl
  by_cases hg : 1000 < a.size ∨ 1000 < b.size ∨ l.length = 0
  · have j1 : (1000 < (a.size : Int)) ∨ ¬ (1000 < (a.size : Int)) := Classical.em _
    have j2 : (1000 < (b.size : Int)) ∨ ¬ (1000 < (b.size : Int)) := Classical.em _
    go_enter Try.func9, Try.ntmps9
    go_wp2_with fail
    refine CG.out.mono ?_
    rintro e w1 ⟨⟨bg, rfl⟩, hb1⟩
    have B1 := Lib.hid hb1
    clear hb1 CG
    cases bg with
    | true =>
      go_wp2_with fail
      refine (fixed19_any _).mono ?_
      rintro e w2 ⟨rfl, hb2⟩
      have B2 := Lib.hid (B1.out.trans (hb2.mono B1.out.size))
      clear hb2
      go_wp2
      go_ret
      exact ⟨rfl, B2.out⟩
    | false =>
      rcases j1 with j1 | j1
      · go_wp2_with fail
        refine (fixed19_any _).mono ?_
        rintro e w2 ⟨rfl, hb2⟩
        have B2 := Lib.hid (B1.out.trans (hb2.mono B1.out.size))
        clear hb2
        go_wp2
        go_ret
        exact ⟨rfl, B2.out⟩
      · rcases j2 with j2 | j2
        · go_wp2_with fail
          refine (fixed19_any _).mono ?_
          rintro e w2 ⟨rfl, hb2⟩
          have B2 := Lib.hid (B1.out.trans (hb2.mono B1.out.size))
          clear hb2
          go_wp2
          go_ret
          exact ⟨rfl, B2.out⟩
        · have j3 : l.length = 0 := by omega
          have j4 : (((l.length : Nat) : Int) == 0) = true := by rw [j3]; rfl
          clear hg
          go_wp2_with fail
          refine (fixed19_any _).mono ?_
          rintro e w2 ⟨rfl, hb2⟩
          have B2 := Lib.hid (B1.out.trans (hb2.mono B1.out.size))
          clear hb2
          go_wp2
          go_ret
          exact ⟨rfl, B2.out⟩
  · have j1 : ¬ (1000 < (a.size : Int)) := by omega
    have j2 : ¬ (1000 < (b.size : Int)) := by omega
    have hl0 : 0 < l.length := by omega
    have j3 : ¬ ((l.length : Int) = 0) := by omega
    have j4 : (((l.length : Nat) : Int) == 0) = false := beq_eq_false_iff_ne.2 (by omega)
    have hA := Lib.hid (H0.out.get hl0)
    have oko := (HD.out _ (List.getElem_mem hl0)).1.2
    generalize l[0] = x at *
    obtain ⟨kd, nm, of0, dt⟩ := x
    dsimp only at *
    obtain ⟨mx, hmx⟩ : ∃ mx : Nat, max of0 0 = mx := ⟨(max of0 0).toNat, by omega⟩
    obtain ⟨off, hoff⟩ : ∃ off, mx % 9000 = off := ⟨_, rfl⟩
    have a1 : (mx : Int).tmod 9000 = (off : Int) := by rw [← hoff]; rfl
    have a2 : IntKind.i64.wrap (off : Int) = (off : Int) := IntWalk.i64_in _ (by omega)
    have a3 : (mx : Int) % 9000 = (off : Int) := by omega
    obtain ⟨n1, hn1⟩ : ∃ n1, off + a.size = n1 := ⟨_, rfl⟩
    have a4 : IntKind.i64.wrap ((off : Int) + (a.size : Int)) = (n1 : Int) := by
      have : IntKind.i64.wrap ((off : Int) + (a.size : Int)) = (off : Int) + (a.size : Int) := IntWalk.i64_in _ (by omega)
      rw [this]; omega
    have hal : a.data.toList.length = a.size := by rw [Array.length_toList]; rfl
    have PL := splits_plain (a := a.data.toList) (b := b.data.toList) (off := off) HS.out
    have eab : (a ++ b).data.toList = a.data.toList ++ b.data.toList := by simp
    have CW1 := Lib.hid (fun A c w hr => by have := write_any A c V 2 off (a ++ b) w (by rw [HS.out.len]; decide) (by omega) (by rw [ByteArray.size_append]; omega) hr; rwa [HS.out.len, eab] at this)
    have CW2 := Lib.hid (fun A c w hr => by have := write_any A c V 2 off a w (by rw [HS.out.len]; decide) (by omega) (by omega) hr; rwa [HS.out.len] at this)
    have CW3 := Lib.hid (fun A c (X : List ByteArray) w (h40 : X.length = 40) hr => by have := write_any A c X 2 n1 b w (by rw [h40]; decide) (by omega) (by omega) hr; rwa [h40] at this)
    have ad1 := fun (w : World) => run_string_add_sum (P := Try.prog) (w := w) a b (by omega)
    rw [hal, hn1] at PL
    generalize writeO V 2 off (a.data.toList ++ b.data.toList) = r1 at *
    obtain ⟨W, cw⟩ := r1
    dsimp only at *
    have HPL := Lib.hid PL
    have HL0 := Lib.hid HS.out.len
    clear PL hn1 hoff hal eab hg HD
    go_enter Try.func9, Try.ntmps9
    go_wp2_with fail
    refine CG.out.mono ?_
    rintro e w1 ⟨⟨bg, rfl⟩, hb1⟩
    have B1 := Lib.hid hb1
    have H1 := Lib.hid ((H0.out.below hb1).mono hb1.size)
    clear hb1 CG
    cases bg with
    | true =>
      go_wp2_with fail
      refine (fixed19_any _).mono ?_
      rintro e w2 ⟨rfl, hb2⟩
      have B2 := Lib.hid (B1.out.trans (hb2.mono B1.out.size))
      clear hb2
      go_wp2
      go_ret
      exact ⟨rfl, B2.out⟩
    | false =>
      go_wp2_with fail
      refine (CL.out _ H1.out).mono ?_
      rintro e w2 ⟨⟨A2, c2, A3, c3, rfl, hr2, hr3⟩, hb2⟩
      have B2 := Lib.hid (B1.out.trans (hb2.mono B1.out.size))
      have R2 := Lib.hid hr2
      obtain ⟨bn, on, rfl, hbn, n1', n2, n3⟩ := hr3.int3b
      have HN : Hid (bn < w2.heap.size) := hbn
      have N2 : Hid (∀ W, Below w2.heap.size w2 W → W.cell? ⟨bn, on + 1, none⟩ = some (.int .i64 2)) := fun W hb => (hb.cell (p := ⟨bn, _, none⟩) hbn).trans n2
      obtain ⟨bA, oA, rfl, hbA, hrA⟩ := hA.out
      have q0 : w2.cell? ⟨bA, oA + 2, none⟩ = some (.int .i64 of0) := by
        have := hrA 2 _ rfl
        rw [Nat.zero_mul, Nat.add_zero] at this
        exact (B2.out.cell (p := ⟨bA, _, none⟩) hbA).trans this
      have k2 := N2.out _ (Below.refl _ _)
      clear hb2 hr2 hr3 n1' n2 n3 hbn B1 H1 CL hrA
      go_wp2_with fail
      refine (CW1.out _ _ _ R2.out).mono ?_
      rintro e w3 ⟨⟨v3, rfl, hn3⟩, hb3⟩
      have D3 := Lib.hid hb3
      have R3 := Lib.hid ((R2.out.below hb3).mono hb3.size)
      have N3 := Lib.hid hn3
      clear hb3 hn3 k2 q0 R2 CW1
      by_cases hc : cw = 0
      · subst hc
        obtain ⟨p1, p2, p3, p4, p5⟩ := HPL.out rfl
        have HLW := Lib.hid p3.len
        have HLX := Lib.hid p4.len
        generalize writeO V 2 off a.data.toList = r2 at *
        obtain ⟨X, cx⟩ := r2
        dsimp only at *
        have CW3X := Lib.hid (fun A c w hr => CW3.out A c X w HLX.out hr)
        generalize writeO X 2 n1 b.data.toList = r3 at *
        obtain ⟨Y, cy⟩ := r3
        dsimp only at *
        subst p1
        subst p2
        subst p5
        obtain ⟨A4, c4, rfl, hr4⟩ := N3.out.read40 HLW.out
        have R4 := Lib.hid hr4
        have k2 := N2.out _ D3.out
        clear hr4 N3 p3 p4 HPL CW3
        go_wp2_with fail
        refine (CW2.out _ _ _ R3.out).mono ?_
        rintro e w4 ⟨⟨v4, rfl, hn4⟩, hb4⟩
        obtain ⟨A5, c5, rfl, hr5⟩ := hn4.read40 HLX.out
        have D4 := Lib.hid (D3.out.trans (hb4.mono D3.out.size))
        have RW4 := Lib.hid ((R4.out.below hb4).mono hb4.size)
        have RX4 := Lib.hid hr5
        clear hn4 hb4 hr5 k2 D3 R4 R3 CW2
        have k2 := N2.out _ D4.out
        go_wp2_with fail
        refine (CW3X.out _ _ _ RX4.out).mono ?_
        rintro e w5 ⟨⟨v5, rfl, hn5⟩, hb5⟩
        obtain ⟨A6, c6, rfl, hr6⟩ := hn5.read40 HLW.out
        have D5 := Lib.hid (D4.out.trans (hb5.mono D4.out.size))
        have RW5 := Lib.hid ((RW4.out.below hb5).mono hb5.size)
        have RY5 := Lib.hid hr6
        clear hn5 hb5 hr6 k2 D4 RW4 RX4 CW3X
        go_wp2_with fail
        refine (fixed19_any _).mono ?_
        rintro e w6 ⟨rfl, hb6⟩
        have D6 := Lib.hid (D5.out.trans (hb6.mono D5.out.size))
        have RW6 := (RW5.out.below hb6).mono hb6.size
        have RY6 := (RY5.out.below hb6).mono hb6.size
        have CS := Lib.hid (same19_below A4 A6 c4 c6 _ _ w6 (by rw [HLW.out]; decide) (by rw [HLW.out]; decide) RW6 RY6)
        have HE : Hid (∀ z : List ByteArray, eqL z z = true) := fun z => by unfold eqL; simp
        rw [HE.out, HLW.out] at CS
        clear hb6 D5 RW5 RY5 RW6 RY6
        go_wp2_with fail
        refine CS.out.mono ?_
        rintro e w7 ⟨rfl, hb7⟩
        have D7 := Lib.hid (D6.out.trans (hb7.mono D6.out.size))
        clear hb7
        go_wp2
        go_ret
        exact ⟨rfl, B2.out.trans (D7.out.mono B2.out.size)⟩
      · have hc1 : (cw != 0) = true := by simpa using hc
        have hc2 : ¬ cw = 0 := hc
        clear HPL
        go_wp2_with fail
        refine (fixed19_any _).mono ?_
        rintro e w4 ⟨rfl, hb4⟩
        have D4 := Lib.hid (D3.out.trans (hb4.mono D3.out.size))
        clear hb4
        go_wp2
        go_ret
        exact ⟨rfl, B2.out.trans (D4.out.mono B2.out.size)⟩
end Go.Proofs.Ytjmafegckfijbaa
