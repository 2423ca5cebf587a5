/-
  QuotaBack: the walk.
-/
import Derived.Test.YtjmafegckfijbaaQuoPl
import Derived.Test.YtjmafegckfijbaaLawQuoFits
namespace Go.Proofs.Ytjmafegckfijbaa
open Go.RowKit
set_option linter.unusedVariables false
set_option linter.unusedSimpArgs false
set_option maxRecDepth 100000
theorem eqL_self (xs : List ByteArray) : eqL xs xs = true := by unfold eqL; simp
theorem setO_vol {xs : List ByteArray} {m a k : Nat} (h : IsVol xs m) (ha : a < 16) (hk : k ≤ 65535) : setO xs (a : Int) (k : Int) = if overB xs (a : Int) (k : Int) = true then ([], 13) else (layX xs 1 (2 * a) (putL k 2), 0) := by
  unfold setO
  rw [quoE_vol h, if_neg (by rw [if_neg (by omega)]; simp), if_neg (by omega), Int.toNat_natCast, Int.toNat_natCast]
theorem limitO_vol {xs : List ByteArray} {m a : Nat} (h : IsVol xs m) (ha : a < 16) : limitO xs (a : Int) = (((limN xs a : Nat) : Int), 0) := by
  unfold limitO
  rw [quoE_vol h, if_neg (show ¬ ((a : Int) < 0 ∨ 16 ≤ (a : Int)) by omega), if_pos rfl, Int.toNat_natCast]
set_option maxHeartbeats 8000000 in
theorem law_back (A : Option Addr) (c : Nat) (xs : List ByteArray) (ow ot lm mr : Nat) (w : World) (hx : xs.length ≤ maxLen) (hs : ∀ s ∈ xs, s.size ≤ 140737488355328) (h1 : ow < 256) (h2 : ot < 256) (h3 : lm < 65536) (h4 : mr < 65536) (h : RowAt w w.heap.size A (xs.map .string)) :
    Calls Try.prog 5 #[.slice A xs.length c, .int .u8 ow, .int .u8 ot, .int .u16 lm, .int .u16 mr] w fun e w' => e = .returned (.bool true) ∧ Below w.heap.size w w' := by
  have HR := Lib.hid h
  have HX := Lib.hid hx
  have HS := Lib.hid hs
  obtain ⟨a, ha⟩ : ∃ a, ow % 16 = a := ⟨_, rfl⟩
  obtain ⟨b, hb⟩ : ∃ b, ot % 16 = b := ⟨_, rfl⟩
  have a16 : a < 16 := by omega
  have b16 : b < 16 := by omega
  have a1 : (ow : Int) % 16 = (a : Int) := by omega
  have b1 : (ot : Int) % 16 = (b : Int) := by omega
  have a2 : IntKind.i64.wrap (ow : Int) = (ow : Int) := IntWalk.i64_in _ (by omega)
  have b2 : IntKind.i64.wrap (ot : Int) = (ot : Int) := IntWalk.i64_in _ (by omega)
  have l2 : IntKind.i64.wrap (lm : Int) = (lm : Int) := IntWalk.i64_in _ (by omega)
  have m2 : IntKind.i64.wrap (mr : Int) = (mr : Int) := IntWalk.i64_in _ (by omega)
  clear h hx hs ha hb
  have CSET := Lib.hid (fun w hx h => set_quo A c xs (a : Int) (lm : Int) w hx h)
  by_cases hne : ∃ code, setO xs (a : Int) (lm : Int) = ([], code) ∧ code ≠ 0
  · obtain ⟨code, he, hc⟩ := hne
    have CS := CSET
    rw [he] at CS
    have hc1 : (code != 0) = true := by simpa using hc
    clear he hc CSET
    go_enter Try.func5, Try.ntmps5
    go_wp2_with fail
    refine (alive22_any _).mono ?_
    rintro e w1 ⟨rfl, hb1⟩
    have B := Lib.hid hb1
    have RV := Lib.hid ((HR.out.below B.out).mono B.out.size)
    clear hb1
    go_wp2_with fail
    refine (great18_any A c xs _ HX.out (fun s h => Nat.le_trans (HS.out s h) (by decide)) RV.out).mono ?_
    rintro e w' ⟨⟨r, rfl, rfl | ⟨rfl, hl80⟩⟩, rfl⟩
    · go_wp2
      go_ret
      exact ⟨rfl, B.out⟩
    have HX6 : Hid (xs.length ≤ 1000000) := by show _ ≤ _; omega
    go_wp2_with fail
    refine (CS.out _ HX6.out RV.out).mono ?_
    rintro e w2 ⟨⟨v2, rfl, hown⟩, hb2⟩
    obtain ⟨A2, c2, rfl, hr2⟩ := hown.read
    replace B := Lib.hid (B.out.trans (hb2.mono B.out.size))
    replace RV := Lib.hid ((RV.out.below hb2).mono hb2.size)
    have RW := Lib.hid hr2
    clear hb2 hown hr2 CS
    go_wp2
    go_ret
    exact ⟨rfl, B.out⟩
  have HV : ∃ m, IsVol xs m := by
    cases ho : ofR xs with
    | none => exact (hne ⟨3, by unfold setO quoE; rw [ho]; rfl, by decide⟩).elim
    | some m => exact ⟨m, ofR_some.1 ho⟩
  obtain ⟨m, hv⟩ := HV
  have hl := hv.len
  have hov : overB xs (a : Int) (lm : Int) = false := by
    cases hh : overB xs (a : Int) (lm : Int) with
    | false => rfl
    | true => exact (hne ⟨13, by rw [setO_vol hv a16 (by omega), hh]; rfl, by decide⟩).elim
  have HSE : setO xs (a : Int) (lm : Int) = (layX xs 1 (2 * a) (putL lm 2), 0) := by rw [setO_vol hv a16 (by omega), hov]; rfl
  have CS := CSET
  rw [HSE] at CS
  have hpa : ∀ k, 2 * a + (putL k 2).length ≤ 128 := fun k => by rw [putL_length]; omega
  have hpb : ∀ k, 2 * b + (putL k 2).length ≤ 128 := fun k => by rw [putL_length]; omega
  have hvW := layX_one hv (hpa lm)
  have HLW : Hid ((layX xs 1 (2 * a) (putL lm 2)).length = xs.length) := layX_length _ _ _ _
  have HLa : Hid (limitO (layX xs 1 (2 * a) (putL lm 2)) (a : Int) = ((lm : Int), 0)) := by
    show _ = _
    rw [limitO_vol hvW a16, limN_lay hv a16 a16 (by omega), if_pos rfl]
  have HLv : Hid (∀ i : Nat, i < 16 → limitO xs (i : Int) = (((limN xs i : Nat) : Int), 0)) := fun i hi => limitO_vol hv hi
  have HLw : Hid (∀ i : Nat, i < 16 → limitO (layX xs 1 (2 * a) (putL lm 2)) (i : Int) = (((if a = i then lm else limN xs i : Nat) : Int), 0)) := fun i hi => by rw [limitO_vol hvW hi, limN_lay hv a16 hi (by omega)]
  have HUw : Hid (∀ o, usedO (layX xs 1 (2 * a) (putL lm 2)) o = usedO xs o) := fun o => one_used hv (hpa lm) o
  have HOb : Hid (overB (layX xs 1 (2 * a) (putL lm 2)) (b : Int) (mr : Int) = overB xs (b : Int) (mr : Int)) := one_over hv (hpa lm) _ _
  have HOa : Hid (overB (layX xs 1 (2 * b) (putL mr 2)) (a : Int) (lm : Int) = false) := by show _ = _; rw [one_over hv (hpb mr), hov]
  have HSb : Hid (setO (layX xs 1 (2 * a) (putL lm 2)) (b : Int) (mr : Int) = if overB xs (b : Int) (mr : Int) = true then ([], 13) else (layX (layX xs 1 (2 * a) (putL lm 2)) 1 (2 * b) (putL mr 2), 0)) := by show _ = _; rw [setO_vol hvW b16 (by omega), HOb.out]
  have HSv : Hid (setO xs (b : Int) (mr : Int) = if overB xs (b : Int) (mr : Int) = true then ([], 13) else (layX xs 1 (2 * b) (putL mr 2), 0)) := setO_vol hv b16 (by omega)
  have HSu : Hid (setO (layX xs 1 (2 * b) (putL mr 2)) (a : Int) (lm : Int) = (layX (layX xs 1 (2 * b) (putL mr 2)) 1 (2 * a) (putL lm 2), 0)) := by show _ = _; rw [setO_vol (layX_one hv (hpb mr)) a16 (by omega), HOa.out]; rfl
  have HCM : Hid (a ≠ b → layX (layX xs 1 (2 * a) (putL lm 2)) 1 (2 * b) (putL mr 2) = layX (layX xs 1 (2 * b) (putL mr 2)) 1 (2 * a) (putL lm 2)) := fun hab => layX_comm hv (putL_length _ _) (putL_length _ _) (by omega) (by omega) (by omega)
  have HLU : Hid ((layX xs 1 (2 * b) (putL mr 2)).length = xs.length) := layX_length _ _ _ _
  have HLY : Hid ((layX (layX xs 1 (2 * a) (putL lm 2)) 1 (2 * b) (putL mr 2)).length = xs.length) := by show _ = _; rw [layX_length, layX_length]
  generalize hY : layX (layX xs 1 (2 * a) (putL lm 2)) 1 (2 * b) (putL mr 2) = Y at *
  generalize hZ : layX (layX xs 1 (2 * b) (putL mr 2)) 1 (2 * a) (putL lm 2) = Z at *
  generalize hU : layX xs 1 (2 * b) (putL mr 2) = U at *
  generalize hW : layX xs 1 (2 * a) (putL lm 2) = W at *
  have C1 := Lib.hid (fun A c w hx h => quo_limit A c W (a : Int) w hx h)
  rw [HLa.out] at C1
  clear hY hZ hU hW hvW hpa hpb HSE hov hv hne CSET HLa HOb HOa
  go_enter Try.func5, Try.ntmps5
  go_wp2_with fail
  refine (alive22_any _).mono ?_
  rintro e w1 ⟨rfl, hb1⟩
  have B := Lib.hid hb1
  have RV := Lib.hid ((HR.out.below B.out).mono B.out.size)
  clear hb1
  go_wp2_with fail
  refine (great18_any A c xs _ HX.out (fun s h => Nat.le_trans (HS.out s h) (by decide)) RV.out).mono ?_
  rintro e w' ⟨⟨r, rfl, rfl | ⟨rfl, hl80⟩⟩, rfl⟩
  · go_wp2
    go_ret
    exact ⟨rfl, B.out⟩
  have HX6 : Hid (xs.length ≤ 1000000) := by show _ ≤ _; omega
  go_wp2_with fail
  refine (CS.out _ HX6.out RV.out).mono ?_
  rintro e w2 ⟨⟨v2, rfl, hown⟩, hb2⟩
  obtain ⟨A2, c2, rfl, hr2⟩ := hown.read
  replace B := Lib.hid (B.out.trans (hb2.mono B.out.size))
  replace RV := Lib.hid ((RV.out.below hb2).mono hb2.size)
  have RW := Lib.hid hr2
  clear hb2 hown hr2 CS
  go_wp2_with fail
  refine (C1.out A2 c2 _ (by rw [HLW.out]; exact HX6.out) RW.out).mono ?_
  rintro e w3 ⟨rfl, hb⟩
  replace B := Lib.hid (B.out.trans (hb.mono B.out.size))
  replace RV := Lib.hid ((RV.out.below hb).mono hb.size)
  replace RW := Lib.hid ((RW.out.below hb).mono hb.size)
  clear hb
  have hul : ∀ o, usedO xs o ≤ 4608 := fun o => usedO_le xs o
  have HUL := Lib.hid hul
  clear hul
  go_wp2
  go_loopw [17] (fun i wr => ∃ k : Nat, k ≤ 16 ∧ i = .int .i64 k ∧ Hid (RowAt wr wr.heap.size A (xs.map .string)) ∧ Hid (RowAt wr wr.heap.size A2 (W.map .string)) ∧ Hid (Below w.heap.size w wr)) (fun i _ => 16 - (intOf i).toNat)
  case atStart => exact ⟨0, by omega, rfl, RV, RW, B⟩
  case round =>
    clear RV RW B
    obtain ⟨k, hk, rfl, RV, RW, B⟩ := hrel
    by_cases hlt : k < 16
    · have hk1 : (k : Int) < 16 := by omega
      have D1 := Lib.hid (fun w hx h => quo_limit A c xs (k : Int) w hx h)
      rw [HLv.out k hlt] at D1
      have D2 := Lib.hid (fun w hx h => quo_limit A2 c2 W (k : Int) w hx h)
      rw [HLw.out k hlt] at D2
      have D3 := Lib.hid (fun w hx h => used_quo A c xs (k : Int) w hx h)
      have D4 := Lib.hid (fun w hx h => used_quo A2 c2 W (k : Int) w hx h)
      rw [HUw.out] at D4
      have hu := HUL.out (k : Int)
      generalize usedO xs (k : Int) = u at *
      generalize limN xs k = lk at *
      by_cases hak : a = k
      · subst hak
        rw [if_pos rfl] at D2
        go_wp2_with fail
        refine (D1.out _ HX6.out RV.out).mono ?_
        rintro e w4 ⟨rfl, hb⟩
        replace B := Lib.hid (B.out.trans (hb.mono B.out.size))
        replace RV := Lib.hid ((RV.out.below hb).mono hb.size)
        replace RW := Lib.hid ((RW.out.below hb).mono hb.size)
        clear hb
        go_wp2_with fail
        refine (D2.out _ (by rw [HLW.out]; exact HX6.out) RW.out).mono ?_
        rintro e w5 ⟨rfl, hb⟩
        replace B := Lib.hid (B.out.trans (hb.mono B.out.size))
        replace RV := Lib.hid ((RV.out.below hb).mono hb.size)
        replace RW := Lib.hid ((RW.out.below hb).mono hb.size)
        clear hb
        go_wp2_with fail
        refine (D3.out _ HX6.out RV.out).mono ?_
        rintro e w6 ⟨rfl, hb⟩
        replace B := Lib.hid (B.out.trans (hb.mono B.out.size))
        replace RV := Lib.hid ((RV.out.below hb).mono hb.size)
        replace RW := Lib.hid ((RW.out.below hb).mono hb.size)
        clear hb
        go_wp2_with fail
        refine (D4.out _ (by rw [HLW.out]; exact HX6.out) RW.out).mono ?_
        rintro e w7 ⟨rfl, hb⟩
        replace B := Lib.hid (B.out.trans (hb.mono B.out.size))
        replace RV := Lib.hid ((RV.out.below hb).mono hb.size)
        replace RW := Lib.hid ((RW.out.below hb).mono hb.size)
        clear hb
        go_wp2
        go_roundw
        case rel => exact ⟨a + 1, by omega, by go_num, RV, RW, B⟩
        case measure => simp [intOf]; omega
      · rw [if_neg hak] at D2
        have hak2 : ¬ (k : Int) = (a : Int) := by omega
        have hak3 : ¬ k = a := by omega
        go_wp2_with fail
        refine (D1.out _ HX6.out RV.out).mono ?_
        rintro e w4 ⟨rfl, hb⟩
        replace B := Lib.hid (B.out.trans (hb.mono B.out.size))
        replace RV := Lib.hid ((RV.out.below hb).mono hb.size)
        replace RW := Lib.hid ((RW.out.below hb).mono hb.size)
        clear hb
        go_wp2_with fail
        refine (D2.out _ (by rw [HLW.out]; exact HX6.out) RW.out).mono ?_
        rintro e w5 ⟨rfl, hb⟩
        replace B := Lib.hid (B.out.trans (hb.mono B.out.size))
        replace RV := Lib.hid ((RV.out.below hb).mono hb.size)
        replace RW := Lib.hid ((RW.out.below hb).mono hb.size)
        clear hb
        go_wp2_with fail
        refine (D3.out _ HX6.out RV.out).mono ?_
        rintro e w6 ⟨rfl, hb⟩
        replace B := Lib.hid (B.out.trans (hb.mono B.out.size))
        replace RV := Lib.hid ((RV.out.below hb).mono hb.size)
        replace RW := Lib.hid ((RW.out.below hb).mono hb.size)
        clear hb
        go_wp2_with fail
        refine (D4.out _ (by rw [HLW.out]; exact HX6.out) RW.out).mono ?_
        rintro e w7 ⟨rfl, hb⟩
        replace B := Lib.hid (B.out.trans (hb.mono B.out.size))
        replace RV := Lib.hid ((RV.out.below hb).mono hb.size)
        replace RW := Lib.hid ((RW.out.below hb).mono hb.size)
        clear hb
        go_wp2
        go_roundw
        case rel => exact ⟨k + 1, by omega, by go_num, RV, RW, B⟩
        case measure => simp [intOf]; omega
    · obtain rfl : k = 16 := by omega
      by_cases hab : a = b
      · subst hab
        go_wp2
        go_ret
        exact ⟨rfl, B.out⟩
      · have hab1 : ¬ (a : Int) = (b : Int) := by omega
        have HCM2 := Lib.hid (HCM.out hab)
        have E1 := Lib.hid (fun w hx h => set_quo A2 c2 W (b : Int) (mr : Int) w hx h)
        rw [HSb.out] at E1
        have E2 := Lib.hid (fun w hx h => set_quo A c xs (b : Int) (mr : Int) w hx h)
        rw [HSv.out] at E2
        cases hov : overB xs (b : Int) (mr : Int) with
        | true =>
          simp only [hov, if_true] at E1 E2
          clear hov
          go_wp2_with fail
          refine (E1.out _ (by rw [HLW.out]; exact HX6.out) RW.out).mono ?_
          rintro e w4 ⟨⟨v4, rfl, hown4⟩, hb⟩
          replace B := Lib.hid (B.out.trans (hb.mono B.out.size))
          replace RV := Lib.hid ((RV.out.below hb).mono hb.size)
          clear hb
          go_wp2_with fail
          refine (E2.out _ HX6.out RV.out).mono ?_
          rintro e w5 ⟨⟨v5, rfl, hown5⟩, hb⟩
          replace B := Lib.hid (B.out.trans (hb.mono B.out.size))
          clear hb
          go_wp2
          go_ret
          exact ⟨rfl, B.out⟩
        | false =>
          simp only [hov, Bool.false_eq_true, if_false] at E1 E2
          clear hov
          have E3 := Lib.hid (fun A c w hx h => set_quo A c U (a : Int) (lm : Int) w hx h)
          rw [HSu.out] at E3
          go_wp2_with fail
          refine (E1.out _ (by rw [HLW.out]; exact HX6.out) RW.out).mono ?_
          rintro e w4 ⟨⟨v4, rfl, hown⟩, hb⟩
          obtain ⟨A4, c4, rfl, hr⟩ := hown.read
          replace B := Lib.hid (B.out.trans (hb.mono B.out.size))
          replace RV := Lib.hid ((RV.out.below hb).mono hb.size)
          have RY := Lib.hid hr
          clear hown hr
          clear hb
          go_wp2_with fail
          refine (E2.out _ HX6.out RV.out).mono ?_
          rintro e w5 ⟨⟨v5, rfl, hown⟩, hb⟩
          obtain ⟨A5, c5, rfl, hr⟩ := hown.read
          replace B := Lib.hid (B.out.trans (hb.mono B.out.size))
          replace RY := Lib.hid ((RY.out.below hb).mono hb.size)
          have RU := Lib.hid hr
          clear hown hr
          clear hb
          go_wp2_with fail
          refine (E3.out _ _ _ (by rw [HLU.out]; exact HX6.out) RU.out).mono ?_
          rintro e w6 ⟨⟨v6, rfl, hown⟩, hb⟩
          obtain ⟨A6, c6, rfl, hr⟩ := hown.read
          replace B := Lib.hid (B.out.trans (hb.mono B.out.size))
          replace RY := Lib.hid ((RY.out.below hb).mono hb.size)
          have RZ := Lib.hid hr
          clear hown hr
          clear hb
          go_wp2_with fail
          refine (same18_below A4 A6 c4 c6 Y Z _ (by rw [HLY.out]; exact HX.out) (by rw [← HCM2.out, HLY.out]; exact HX.out) RY.out RZ.out).mono ?_
          rintro e w7 ⟨rfl, hb⟩
          replace B := Lib.hid (B.out.trans (hb.mono B.out.size))
          have HEQ : Hid (eqL Y Z = true) := by show _ = _; rw [HCM2.out]; exact eqL_self _
          clear hb
          go_wp2
          go_ret
          exact ⟨ret_bool HEQ.out, B.out⟩
end Go.Proofs.Ytjmafegckfijbaa
