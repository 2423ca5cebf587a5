/-
  QuotaFits: the walk.
-/
import Derived.Test.YtjmafegckfijbaaQuoAlive
import Derived.Test.YtjmafegckfijbaaQuoK
namespace Go.Proofs.Ytjmafegckfijbaa
open Go.RowKit
set_option linter.unusedVariables false
set_option linter.unusedSimpArgs false
set_option maxRecDepth 100000
theorem setO_code {xs : List ByteArray} {owner lm : Int} (hq : quoE xs owner = 0) (h1 : 0 ≤ lm) (h2 : lm ≤ 65535) : (setO xs owner lm).2 = if overB xs owner lm = true then 13 else 0 := by
  unfold setO
  rw [if_neg (by rw [hq]; simp), if_neg (by omega)]
  by_cases h : overB xs owner lm = true
  · rw [if_pos h, if_pos h]
  · rw [if_neg h, if_neg h]
/-- what is set hands back: some rows, and the code -/
theorem set_code (A : Option Addr) (c : Nat) (xs : List ByteArray) (o lm code : Int) (w : World) (hx : xs.length ≤ 1000000) (hc : (setO xs o lm).2 = code) (h : RowAt w w.heap.size A (xs.map .string)) :
    Calls Try.prog 26 #[.slice A xs.length c, .int .i64 o, .int .i64 lm] w fun e w' => (∃ v, e = .returned (.tuple #[v, .int .i64 code])) ∧ Below w.heap.size w w' := by
  subst hc
  exact (set_quo A c xs o lm w hx h).mono fun e w' ⟨⟨v, he, _⟩, hb⟩ => ⟨⟨v, he⟩, hb⟩
set_option maxHeartbeats 4000000 in
theorem law_fits (A : Option Addr) (c : Nat) (xs : List ByteArray) (ow : Nat) (w : World) (hx : xs.length ≤ maxLen) (hs : ∀ s ∈ xs, s.size ≤ 140737488355328) (hw : ow < 256) (h : RowAt w w.heap.size A (xs.map .string)) :
    Calls Try.prog 6 #[.slice A xs.length c, .int .u8 ow] w fun e w' => e = .returned (.bool true) ∧ Below w.heap.size w w' := by
  have HR := Lib.hid h
  have HX := Lib.hid hx
  have HS := Lib.hid hs
  obtain ⟨a, ha⟩ : ∃ a, ow % 16 = a := ⟨_, rfl⟩
  have a16 : a < 16 := by omega
  have a1 : (ow : Int) % 16 = (a : Int) := by omega
  have a2 : IntKind.i64.wrap (ow : Int) = (ow : Int) := IntWalk.i64_in _ (by omega)
  clear h hx hs ha
  have HQ : Hid (quoE xs (a : Int) = 0 ∨ quoE xs (a : Int) = 3) := by
    show _ ∨ _
    unfold quoE
    cases ofR xs with
    | none => exact .inr rfl
    | some m => exact .inl (by dsimp only; rw [if_neg (by omega)])
  rcases HQ.out with hq | hq
  · have HL : Hid (limitO xs (a : Int) = (((limN xs a : Nat) : Int), 0)) := by show _ = _; unfold limitO; rw [hq, if_pos rfl, Int.toNat_natCast]
    obtain ⟨n, hn⟩ : ∃ n, usedO xs (a : Int) = n := ⟨_, rfl⟩
    have hn4 : n ≤ 4608 := by rw [← hn]; exact usedO_le _ _
    have HN := Lib.hid hn
    have e1 : (setO xs (a : Int) (n : Int)).2 = 0 := by
      rw [setO_code hq (by omega) (by omega), if_neg]
      unfold overB
      rw [hn]
      simp
    have e3 : (setO xs (a : Int) 0).2 = 0 := by
      rw [setO_code hq (by omega) (by omega), if_neg]
      unfold overB
      simp
    have e4 : (setO xs (a : Int) ((n : Int) + 1)).2 = 0 := by
      rw [setO_code hq (by omega) (by omega), if_neg]
      unfold overB
      rw [hn]
      simp
      omega
    obtain ⟨p, hp⟩ : ∃ p : Nat, n - 1 = p := ⟨_, rfl⟩
    have p1 : max ((n : Int) - 1) 0 = (p : Int) := by omega
    have e2 : (setO xs (a : Int) (p : Int)).2 = if 1 < n then 13 else 0 := by
      rw [setO_code hq (by omega) (by omega)]
      unfold overB
      rw [hn]
      by_cases h1 : 1 < n
      · rw [if_pos h1, if_pos]
        rw [decide_eq_true_iff]
        omega
      · rw [if_neg h1, if_neg]
        rw [decide_eq_true_iff]
        omega
    have CL := Lib.hid (fun w hx h => quo_limit A c xs (a : Int) w hx h)
    rw [HL.out] at CL
    have CU := Lib.hid (fun w hx h => used_quo A c xs (a : Int) w hx h)
    rw [hn] at CU
    have C1 := Lib.hid (fun w hx h => set_code A c xs (a : Int) (n : Int) 0 w hx e1 h)
    have C2 := Lib.hid (fun w hx h => set_code A c xs (a : Int) (p : Int) _ w hx e2 h)
    have C3 := Lib.hid (fun w hx h => set_code A c xs (a : Int) 0 0 w hx e3 h)
    have C4 := Lib.hid (fun w hx h => set_code A c xs (a : Int) ((n : Int) + 1) 0 w hx e4 h)
    have w1' : IntKind.i64.wrap ((n : Int) - 1) = (n : Int) - 1 := IntWalk.i64_in _ (by omega)
    have w2' : IntKind.i64.wrap ((n : Int) + 1) = (n : Int) + 1 := IntWalk.i64_in _ (by omega)
    obtain ⟨code, hcode⟩ : ∃ code : Int, (if 1 < n then 13 else 0) = code := ⟨_, rfl⟩
    rw [hcode] at C2
    have f1 : (code == 13) = decide (1 < (n : Int)) := by
      rw [← hcode]
      by_cases h1 : 1 < n
      · rw [if_pos h1]
        have : (1 : Int) < (n : Int) := by omega
        simp [this]
      · rw [if_neg h1]
        have : ¬ (1 : Int) < (n : Int) := by omega
        simp [this]
    have f2 : (code == 0) = decide ((n : Int) ≤ 1) := by
      rw [← hcode]
      by_cases h1 : 1 < n
      · rw [if_pos h1]
        have : ¬ (n : Int) ≤ 1 := by omega
        simp [this]
      · rw [if_neg h1]
        have : (n : Int) ≤ 1 := by omega
        simp [this]
    generalize limN xs a = lim at *
    have F1 := Lib.hid f1
    have F2 := Lib.hid f2
    clear e1 e2 e3 e4 hq hn hcode HL HN hp f1 f2
    go_enter Try.func6, Try.ntmps6
    go_wp2_with fail
    refine (alive22_any _).mono ?_
    rintro e w1 ⟨rfl, hb1⟩
    have B := Lib.hid hb1
    have RV := Lib.hid ((HR.out.below B.out).mono B.out.size)
    clear hb1
    go_wp2_with fail
    refine (great18_any A c xs _ HX.out (fun s h => Nat.le_trans (HS.out s h) (by decide)) RV.out).mono ?_
    rintro e w' ⟨⟨r, rfl, rfl | ⟨rfl, hl80⟩⟩, rfl⟩
    · go_wp2
      go_ret
      exact ⟨rfl, B.out⟩
    have HX6 : Hid (xs.length ≤ 1000000) := by show _ ≤ _; omega
    go_wp2_with fail
    refine (CL.out _ HX6.out RV.out).mono ?_
    rintro e w2 ⟨rfl, hb2⟩
    replace B := Lib.hid (B.out.trans (hb2.mono B.out.size))
    replace RV := Lib.hid ((RV.out.below hb2).mono hb2.size)
    clear hb2
    go_wp2_with fail
    refine (CU.out _ HX6.out RV.out).mono ?_
    rintro e w3 ⟨rfl, hb3⟩
    replace B := Lib.hid (B.out.trans (hb3.mono B.out.size))
    replace RV := Lib.hid ((RV.out.below hb3).mono hb3.size)
    clear hb3
    go_wp2_with fail
    refine (C1.out _ HX6.out RV.out).mono ?_
    rintro e w4 ⟨⟨v4, rfl⟩, hb4⟩
    replace B := Lib.hid (B.out.trans (hb4.mono B.out.size))
    replace RV := Lib.hid ((RV.out.below hb4).mono hb4.size)
    clear hb4
    go_wp2_with fail
    refine (C2.out _ HX6.out RV.out).mono ?_
    rintro e w5 ⟨⟨v5, rfl⟩, hb5⟩
    replace B := Lib.hid (B.out.trans (hb5.mono B.out.size))
    replace RV := Lib.hid ((RV.out.below hb5).mono hb5.size)
    clear hb5
    go_wp2_with fail
    refine (C3.out _ HX6.out RV.out).mono ?_
    rintro e w6 ⟨⟨v6, rfl⟩, hb6⟩
    replace B := Lib.hid (B.out.trans (hb6.mono B.out.size))
    replace RV := Lib.hid ((RV.out.below hb6).mono hb6.size)
    clear hb6
    go_wp2_with fail
    refine (C4.out _ HX6.out RV.out).mono ?_
    rintro e w7 ⟨⟨v7, rfl⟩, hb7⟩
    replace B := Lib.hid (B.out.trans (hb7.mono B.out.size))
    clear hb7
    have f1 := F1.out
    have f2 := F2.out
    go_wp2
    go_ret
    exact ⟨ret_bool (by simp), B.out⟩
  · have HL : Hid (limitO xs (a : Int) = (0, 3)) := by show _ = _; unfold limitO; rw [hq, if_neg (by decide)]
    have CL := Lib.hid (fun w hx h => quo_limit A c xs (a : Int) w hx h)
    rw [HL.out] at CL
    clear hq
    go_enter Try.func6, Try.ntmps6
    go_wp2_with fail
    refine (alive22_any _).mono ?_
    rintro e w1 ⟨rfl, hb1⟩
    have B := Lib.hid hb1
    have RV := Lib.hid ((HR.out.below B.out).mono B.out.size)
    clear hb1
    go_wp2_with fail
    refine (great18_any A c xs _ HX.out (fun s h => Nat.le_trans (HS.out s h) (by decide)) RV.out).mono ?_
    rintro e w' ⟨⟨r, rfl, rfl | ⟨rfl, hl80⟩⟩, rfl⟩
    · go_wp2
      go_ret
      exact ⟨rfl, B.out⟩
    have HX6 : Hid (xs.length ≤ 1000000) := by show _ ≤ _; omega
    go_wp2_with fail
    refine (CL.out _ HX6.out RV.out).mono ?_
    rintro e w2 ⟨rfl, hb2⟩
    replace B := Lib.hid (B.out.trans (hb2.mono B.out.size))
    clear hb2
    go_wp2
    go_ret
    exact ⟨rfl, B.out⟩
end Go.Proofs.Ytjmafegckfijbaa
