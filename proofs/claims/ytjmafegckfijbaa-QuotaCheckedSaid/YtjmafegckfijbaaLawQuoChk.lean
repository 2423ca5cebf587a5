/-
  QuotaChecked: the walk.
-/
import Derived.Test.YtjmafegckfijbaaLawQuoBack
namespace Go.Proofs.Ytjmafegckfijbaa
open Go.RowKit
set_option linter.unusedVariables false
set_option linter.unusedSimpArgs false
set_option maxRecDepth 100000
theorem check_zero {xs : List ByteArray} : checkO xs = 0 ↔ ∃ m, IsVol xs m ∧ ∀ o : Nat, o < 16 → overB xs (o : Int) (limN xs o : Int) = false := by
  constructor
  · intro h
    cases ho : ofR xs with
    | none => unfold checkO at h; rw [ho] at h; cases h
    | some m =>
      have hv := ofR_some.1 ho
      refine ⟨m, hv, fun o h16 => ?_⟩
      rw [check_ok hv] at h
      cases hh : overB xs (o : Int) (limN xs o : Int) with
      | false => rfl
      | true => rw [if_pos ⟨o, h16, hh⟩] at h; cases h
  · rintro ⟨m, hv, h⟩
    rw [check_ok hv, if_neg]
    rintro ⟨o, h1, h2⟩
    rw [h o h1] at h2
    cases h2
/-- what is set with OK leaves it so -/
theorem check_set {xs : List ByteArray} {a k : Nat} (h : checkO xs = 0) (ha : a < 16) (hk : k ≤ 65535) (hs : (setO xs (a : Int) (k : Int)).2 = 0) : checkO (setO xs (a : Int) (k : Int)).1 = 0 ∧ (setO xs (a : Int) (k : Int)).1.length = xs.length := by
  obtain ⟨m, hv, hc⟩ := check_zero.1 h
  rw [setO_vol hv ha hk] at hs ⊢
  cases hov : overB xs (a : Int) (k : Int) with
  | true => rw [hov] at hs; cases hs
  | false =>
    simp only [Bool.false_eq_true, if_false]
    have hp : 2 * a + (putL k 2).length ≤ 128 := by rw [putL_length]; omega
    refine ⟨check_zero.2 ⟨m, layX_one hv hp, fun o ho => ?_⟩, layX_length _ _ _ _⟩
    rw [one_over hv hp, limN_lay hv ha ho (by omega)]
    by_cases e : a = o
    · subst e; rw [if_pos rfl]; exact hov
    · rw [if_neg e]; exact hc o ho
theorem u8_nat {z : Int} (h : 0 ≤ z ∧ z < 256) : ∃ n : Nat, z = n ∧ n < 256 := ⟨z.toNat, by omega, by omega⟩
theorem u16_nat {z : Int} (h : 0 ≤ z ∧ z < 65536) : ∃ n : Nat, z = n ∧ n < 65536 := ⟨z.toNat, by omega, by omega⟩
set_option maxHeartbeats 8000000 in
theorem law_chk (A : Option Addr) (c : Nat) (xs : List ByteArray) (A1 : Option Addr) (c1 : Nat) (os : List Int) (A2 : Option Addr) (c2 : Nat) (ls : List Int) (w : World) (hx : xs.length ≤ maxLen) (hs : ∀ s ∈ xs, s.size ≤ 140737488355328) (ho : ∀ z ∈ os, 0 ≤ z ∧ z < 256) (hl : ∀ z ∈ ls, 0 ≤ z ∧ z < 65536) (lo : os.length ≤ maxLen) (ll : ls.length ≤ maxLen)
    (h : RowAt w w.heap.size A (xs.map .string)) (h1 : RowAt w w.heap.size A1 (os.map (.int .u8 ·))) (h2 : RowAt w w.heap.size A2 (ls.map (.int .u16 ·))) :
    Calls Try.prog 11 #[.slice A xs.length c, .slice A1 os.length c1, .slice A2 ls.length c2] w fun e w' => e = .returned (.bool true) ∧ Below w.heap.size w w' := by
  have HR := Lib.hid h
  have H1 := Lib.hid h1
  have H2 := Lib.hid h2
  have HX := Lib.hid hx
  have HS := Lib.hid hs
  have HO : Hid (∀ j (hj : j < os.length), ∃ n : Nat, os[j] = n ∧ n < 256) := fun j hj => u8_nat (ho _ (List.getElem_mem hj))
  have HL : Hid (∀ j (hj : j < ls.length), ∃ n : Nat, ls[j] = n ∧ n < 65536) := fun j hj => u16_nat (hl _ (List.getElem_mem hj))
  unfold maxLen at lo ll
  clear h h1 h2 hx hs ho hl
  by_cases g1 : 30 < os.length
  · have k1 : (30 : Int) < (os.length : Int) := by omega
    go_enter Try.func11, Try.ntmps11
    go_wp2_with fail
    refine (alive22_any _).mono ?_
    rintro e w1 ⟨rfl, hb1⟩
    have B := Lib.hid hb1
    have RV := Lib.hid ((HR.out.below B.out).mono B.out.size)
    clear hb1
    go_wp2_with fail
    refine (great18_any A c xs _ HX.out (fun s h => Nat.le_trans (HS.out s h) (by decide)) RV.out).mono ?_
    rintro e w' ⟨⟨r, rfl, rfl | ⟨rfl, hl80⟩⟩, rfl⟩
    · go_wp2
      go_ret
      exact ⟨rfl, B.out⟩
    go_wp2
    go_ret
    exact ⟨rfl, B.out⟩
  have k1 : ¬ (30 : Int) < (os.length : Int) := by omega
  by_cases g2 : ls.length = os.length
  case neg =>
    have k2 : (((ls.length : Nat) : Int) != ((os.length : Nat) : Int)) = true := by
      simp only [bne_iff_ne, ne_eq]; omega
    have k3 : ¬ ls.length = os.length := g2
    go_enter Try.func11, Try.ntmps11
    go_wp2_with fail
    refine (alive22_any _).mono ?_
    rintro e w1 ⟨rfl, hb1⟩
    have B := Lib.hid hb1
    have RV := Lib.hid ((HR.out.below B.out).mono B.out.size)
    clear hb1
    go_wp2_with fail
    refine (great18_any A c xs _ HX.out (fun s h => Nat.le_trans (HS.out s h) (by decide)) RV.out).mono ?_
    rintro e w' ⟨⟨r, rfl, rfl | ⟨rfl, hl80⟩⟩, rfl⟩
    · go_wp2
      go_ret
      exact ⟨rfl, B.out⟩
    go_wp2
    go_ret
    exact ⟨rfl, B.out⟩
  by_cases g3 : checkO xs = 0
  case neg =>
    have k2 : (checkO xs != 0) = true := by simpa using g3
    have HC := Lib.hid (fun w hx h => check_quo A c xs w hx h)
    have k3 : ¬ checkO xs = 0 := g3
    generalize checkO xs = ck at *
    rw [g2]
    clear g3
    go_enter Try.func11, Try.ntmps11
    go_wp2_with fail
    refine (alive22_any _).mono ?_
    rintro e w1 ⟨rfl, hb1⟩
    have B := Lib.hid hb1
    have RV := Lib.hid ((HR.out.below B.out).mono B.out.size)
    clear hb1
    go_wp2_with fail
    refine (great18_any A c xs _ HX.out (fun s h => Nat.le_trans (HS.out s h) (by decide)) RV.out).mono ?_
    rintro e w' ⟨⟨r, rfl, rfl | ⟨rfl, hl80⟩⟩, rfl⟩
    · go_wp2
      go_ret
      exact ⟨rfl, B.out⟩
    have HX6 : Hid (xs.length ≤ 1000000) := by show _ ≤ _; omega
    go_wp2_with fail
    refine (HC.out _ HX6.out RV.out).mono ?_
    rintro e w2 ⟨rfl, hb2⟩
    replace B := Lib.hid (B.out.trans (hb2.mono B.out.size))
    clear hb2
    go_wp2
    go_ret
    exact ⟨rfl, B.out⟩
  have HC := Lib.hid (fun w hx h => check_quo A c xs w hx h)
  rw [g3] at HC
  have HG3 := Lib.hid g3
  have HG2 := Lib.hid g2
  clear g3
  rw [g2]
  go_enter Try.func11, Try.ntmps11
  go_wp2_with fail
  refine (alive22_any _).mono ?_
  rintro e w1 ⟨rfl, hb1⟩
  have B := Lib.hid hb1
  have RV := Lib.hid ((HR.out.below B.out).mono B.out.size)
  clear hb1
  go_wp2_with fail
  refine (great18_any A c xs _ HX.out (fun s h => Nat.le_trans (HS.out s h) (by decide)) RV.out).mono ?_
  rintro e w' ⟨⟨r, rfl, rfl | ⟨rfl, hl80⟩⟩, rfl⟩
  · go_wp2
    go_ret
    exact ⟨rfl, B.out⟩
  have HX6 : Hid (xs.length ≤ 1000000) := by show _ ≤ _; omega
  go_wp2_with fail
  refine (HC.out _ HX6.out RV.out).mono ?_
  rintro e w2 ⟨rfl, hb2⟩
  replace B := Lib.hid (B.out.trans (hb2.mono B.out.size))
  replace RV := Lib.hid ((RV.out.below hb2).mono hb2.size)
  clear hb2 HC
  go_wp2
  go_loopw [0, 7] (fun v i wr => ∃ (k : Nat) (AV : Option Addr) (cv : Nat) (V : List ByteArray), k ≤ os.length ∧ i = .int .i64 k ∧ v = .slice AV V.length cv ∧ Hid (V.length ≤ 1000000) ∧ Hid (checkO V = 0) ∧ Hid (RowAt wr wr.heap.size AV (V.map .string)) ∧ Hid (Below w.heap.size w wr)) (fun _ i _ => os.length - (intOf i).toNat)
  case atStart => exact ⟨0, A, c, xs, Nat.zero_le _, rfl, rfl, HX6, HG3, RV, B⟩
  case round =>
    clear RV B
    obtain ⟨k, AV, cv, V, hk, rfl, rfl, HZ, HCK, RV, B⟩ := hrel
    by_cases hlt : k < os.length
    · have hlt2 : k < ls.length := by omega
      obtain ⟨n1, e1, m1⟩ := HO.out k hlt
      obtain ⟨n2, e2, m2⟩ := HL.out k hlt2
      obtain ⟨bb1, oo1, rfl, hbb1, hc1⟩ := H1.out.at_ (by simp; omega)
      obtain ⟨bb2, oo2, rfl, hbb2, hc2⟩ := H2.out.at_ (by simp; omega)
      have q1 : wr.cell? ⟨bb1, oo1 + k, none⟩ = some (.int .u8 (n1 : Int)) := (B.out.cell (p := ⟨bb1, oo1 + k, none⟩) hbb1).trans (hc1 k _ (by simp [hlt, e1]))
      have q2 : wr.cell? ⟨bb2, oo2 + k, none⟩ = some (.int .u16 (n2 : Int)) := (B.out.cell (p := ⟨bb2, oo2 + k, none⟩) hbb2).trans (hc2 k _ (by simp [hlt2, e2]))
      obtain ⟨a, ha⟩ : ∃ a, n1 % 16 = a := ⟨_, rfl⟩
      have a16 : a < 16 := by omega
      have a1 : (n1 : Int) % 16 = (a : Int) := by omega
      have a2 : IntKind.i64.wrap (n1 : Int) = (n1 : Int) := IntWalk.i64_in _ (by omega)
      have a3 : IntKind.i64.wrap (n2 : Int) = (n2 : Int) := IntWalk.i64_in _ (by omega)
      have a4 : (n1 : Int).tmod 16 = (n1 : Int) % 16 := Int.tmod_eq_emod_of_nonneg (by omega)
      have a5 : IntKind.i64.wrap (a : Int) = (a : Int) := IntWalk.i64_in _ (by omega)
      have CS := Lib.hid (fun w h => set_quo AV cv V (a : Int) (n2 : Int) w HZ.out h)
      have HCS := Lib.hid (fun hz => check_set (a := a) (k := n2) HCK.out a16 (by omega) hz)
      have u1 : ∀ u : Ext wr, u.val.cell? ⟨bb1, oo1 + k, none⟩ = some (.int .u8 (n1 : Int)) := fun u => u.cell q1
      have u2 : ∀ u : Ext wr, u.val.cell? ⟨bb2, oo2 + k, none⟩ = some (.int .u16 (n2 : Int)) := fun u => u.cell q2
      have i1 : (0 : Int) ≤ (k : Int) := by omega
      have i2 : (k : Int) < (os.length : Int) := by omega
      clear hc1 hc2 e1 e2 ha
      go_wp2_with fail
      refine wp_region_waist 12 (by kernel_rfl) (by kernel_rfl) ?_
      simp only [List.take_succ_cons, List.take_zero, List.drop_succ_cons, List.drop_zero]
      repeat (go_big_quiet_step (fail))
      refine wpQuiet_nil ?_
      rintro _ ⟨u, rfl⟩
      have ub := Lib.hid u.below
      replace RV := Lib.hid (RV.out.ext u)
      replace B := Lib.hid (B.out.trans (ub.out.mono B.out.size))
      clear u1 u2 ub q1 q2
      generalize u.val = w4 at *
      go_wp2_with fail
      refine (CS.out _ RV.out).mono ?_
      rintro e w5 ⟨⟨v5, rfl, hown⟩, hb5⟩
      obtain ⟨A5, c5, rfl, hr5⟩ := hown.read
      have R5 := Lib.hid hr5
      replace RV := Lib.hid ((RV.out.below hb5).mono hb5.size)
      replace B := Lib.hid (B.out.trans (hb5.mono B.out.size))
      clear hown hr5 hb5 CS
      generalize setO V (a : Int) (n2 : Int) = so at *
      obtain ⟨V5, code⟩ := so
      dsimp only at R5 HCS
      go_wp2
      repeat (go_big_quiet_step (fail))
      refine wpQuiet_nil ?_
      rintro _ ⟨u, rfl⟩
      have ub := Lib.hid u.below
      replace RV := Lib.hid (RV.out.ext u)
      replace R5 := Lib.hid (R5.out.ext u)
      replace B := Lib.hid (B.out.trans (ub.out.mono B.out.size))
      clear ub
      generalize u.val = w6 at *
      by_cases hc0 : code = 0
      · subst hc0
        obtain ⟨z1, z2⟩ := HCS.out rfl
        have Z1 := Lib.hid z1
        have Z2 : Hid (V5.length ≤ 1000000) := by show _ ≤ _; rw [z2]; exact HZ.out
        have CC := Lib.hid (fun w h => check_quo A5 c5 V5 w Z2.out h)
        rw [z1] at CC
        clear z1 z2 HCS
        go_wp2_with fail
        refine (CC.out _ R5.out).mono ?_
        rintro e w7 ⟨rfl, hb7⟩
        replace R5 := Lib.hid ((R5.out.below hb7).mono hb7.size)
        replace B := Lib.hid (B.out.trans (hb7.mono B.out.size))
        clear hb7 CC
        go_wp2
        go_roundw
        case rel => exact ⟨k + 1, A5, c5, V5, by omega, by go_num, rfl, Z2, Z1, R5, B⟩
        case measure => simp [intOf]; omega
      · have hc1 : (code == 0) = false := by simpa using hc0
        have CC := Lib.hid (fun w h => check_quo AV cv V w HZ.out h)
        rw [HCK.out] at CC
        clear HCS
        go_wp2_with fail
        refine (CC.out _ RV.out).mono ?_
        rintro e w7 ⟨rfl, hb7⟩
        replace RV := Lib.hid ((RV.out.below hb7).mono hb7.size)
        replace B := Lib.hid (B.out.trans (hb7.mono B.out.size))
        clear hb7 CC
        go_wp2
        go_roundw
        case rel => exact ⟨k + 1, AV, cv, V, by omega, by go_num, rfl, HZ, HCK, RV, B⟩
        case measure => simp [intOf]; omega
    · obtain rfl : k = os.length := by omega
      go_wp2
      go_ret
      exact ⟨rfl, B.out⟩
end Go.Proofs.Ytjmafegckfijbaa
