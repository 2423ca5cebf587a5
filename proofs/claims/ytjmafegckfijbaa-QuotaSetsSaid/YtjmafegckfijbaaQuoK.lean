/-
  What quota.Check tells.
-/
import Derived.Test.YtjmafegckfijbaaQuoC
namespace Go.Proofs.Ytjmafegckfijbaa
open Go.RowKit
set_option linter.unusedVariables false
set_option linter.unusedSimpArgs false
set_option maxRecDepth 100000
theorem check_ok {xs : List ByteArray} {m : Nat} (hv : IsVol xs m) : checkO xs = if ∃ o : Nat, o < 16 ∧ overB xs (o : Int) (limN xs o : Int) = true then 13 else 0 := by
  unfold checkO
  rw [ofR_some.2 hv]
  dsimp only
  by_cases h : ∃ o : Nat, o < 16 ∧ overB xs (o : Int) (limN xs o : Int) = true
  · rw [if_pos h, if_pos]
    obtain ⟨o, h1, h2⟩ := h
    exact List.any_eq_true.2 ⟨o, List.mem_range.2 h1, h2⟩
  · rw [if_neg h, if_neg]
    intro hh
    obtain ⟨o, h1, h2⟩ := List.any_eq_true.1 hh
    exact h ⟨o, List.mem_range.1 h1, h2⟩
theorem geomZ_lit : geomZ = #[.int .i64 0, .int .i64 0, .int .i64 0, .int .i64 0, .int .i64 0, .int .i64 0] := rfl
set_option maxHeartbeats 4000000 in
theorem check_quo (A : Option Addr) (c : Nat) (xs : List ByteArray) (w : World) (hx : xs.length ≤ 1000000) (h : RowAt w w.heap.size A (xs.map .string)) :
    Calls Try.prog 44 #[.slice A xs.length c] w fun e w' => e = .returned (.int .i64 (checkO xs)) ∧ Below w.heap.size w w' := by
  have HR := Lib.hid h
  clear h
  cases ho : ofR xs with
  | none =>
    have HL : Hid (checkO xs = 3) := by show _ = _; unfold checkO; rw [ho]
    have CO := Lib.hid (of_any A c xs w hx HR.out)
    unfold OfPost ofE at CO
    rw [ho] at CO
    dsimp only at CO
    clear ho
    go_enter Try.func44, Try.ntmps44
    go_wp2_with fail
    refine CO.out.mono ?_
    rintro e w1 ⟨rfl, hb1⟩
    have B1 := Lib.hid hb1
    have hz1 := hb1.size
    clear hb1
    go_wp2
    go_ret
    rw [HL.out]
    exact ⟨rfl, B1.out.alloc hz1 _⟩
  | some m =>
    have hv := ofR_some.1 ho
    have CO := Lib.hid (of_any A c xs w hx HR.out)
    unfold OfPost ofE at CO
    rw [ho] at CO
    dsimp only at CO
    have HK := Lib.hid (check_ok hv)
    have CL := Lib.hid (fun q hq w h => quo_lim A c xs m q w hv hq h)
    clear ho hv
    go_enter Try.func44, Try.ntmps44
    go_wp2_with fail
    refine CO.out.mono ?_
    rintro e w1 ⟨rfl, hb1⟩
    have B1 := Lib.hid hb1
    have hz1 := hb1.size
    have G1 := Lib.hid (Blk.new w1 66 #[.int .i64 (xs.length : Int), .int .i64 (m : Int), .int .i64 1, .int .i64 2, .int .i64 3, .int .i64 (dataN m : Int)])
    have B2 := Lib.hid (B1.out.alloc hz1 (.cells #[.int .i64 (xs.length : Int), .int .i64 (m : Int), .int .i64 1, .int .i64 2, .int .i64 3, .int .i64 (dataN m : Int)] 66))
    clear hb1 CO B1
    generalize hgg : w1.heap.size = gg at *
    go_wp2
    generalize w1.alloc _ = w2 at *
    clear hgg
    go_loopw [15] (fun i wr => ∃ k : Nat, k ≤ 16 ∧ i = .int .i64 k ∧ Hid (∀ j, j < k → overB xs (j : Int) (limN xs j : Int) = false) ∧ Hid (Blk wr gg 66 #[.int .i64 (xs.length : Int), .int .i64 (m : Int), .int .i64 1, .int .i64 2, .int .i64 3, .int .i64 (dataN m : Int)]) ∧ Hid (Below w.heap.size w wr)) (fun i _ => 16 - (intOf i).toNat)
    case atStart => exact ⟨0, by omega, rfl, fun j hj => by omega, G1, B2⟩
    case round =>
      obtain ⟨k, hk, rfl, HJ, GK, BK⟩ := hrel
      by_cases hlt : k < 16
      · have hk1 : (k : Int) < 16 := by omega
        have RK := Lib.hid ((HR.out.below BK.out).mono BK.out.size)
        have C1 := Lib.hid (CL.out k hlt wr RK.out)
        have HOV : Hid (overB xs (k : Int) (limN xs k : Int) = decide ((limN xs k : Int) ≠ 0 ∧ (limN xs k : Int) < (usedO xs (k : Int) : Int))) := rfl
        have hul := usedO_le xs (k : Int)
        have CU := Lib.hid (fun w h => used_quo A c xs (k : Int) w hx h)
        generalize hlk : limN xs k = lk at *
        have HLK := Lib.hid hlk
        clear hlk
        go_wp2_with (refine load_blk 66 (.tmp 3) gg 66 #[.int .i64 (xs.length : Int), .int .i64 (m : Int), .int .i64 1, .int .i64 2, .int .i64 3, .int .i64 (dataN m : Int)] _ rfl rfl rfl GK.out Try.underlying66 rfl (by kernel_rfl) ?_; go_frame)
        refine C1.out.mono ?_
        rintro e w3 ⟨rfl, hb3⟩
        have G3 := Lib.hid (GK.out.below hb3 GK.out.lt)
        have B3 := Lib.hid (BK.out.trans (hb3.mono BK.out.size))
        have R3 := Lib.hid ((RK.out.below hb3).mono hb3.size)
        clear hb3 C1 GK BK RK
        by_cases hl0 : lk = 0
        · subst hl0
          have HE : Hid (∀ j, j < k + 1 → overB xs (j : Int) (limN xs j : Int) = false) := fun j hj => by
            by_cases e : j = k
            · subst e
              rw [HLK.out, HOV.out]
              simp
            · exact HJ.out j (by omega)
          go_wp2
          go_roundw
          case rel => exact ⟨k + 1, by omega, by go_num, HE, G3, B3⟩
          case measure => simp [intOf]; omega
        · have hne : ¬ (lk : Int) = 0 := by omega
          go_wp2_with fail
          refine (CU.out _ R3.out).mono ?_
          rintro e w4 ⟨rfl, hb4⟩
          have G4 := Lib.hid (G3.out.below hb4 G3.out.lt)
          have B4 := Lib.hid (B3.out.trans (hb4.mono B3.out.size))
          clear hb4 G3 B3 R3 CU
          by_cases hov : lk < usedO xs (k : Int)
          · have HF : Hid (checkO xs = 13) := by
              show _ = _
              rw [HK.out, if_pos]
              refine ⟨k, hlt, ?_⟩
              rw [HLK.out, HOV.out, decide_eq_true_iff]
              omega
            have hov2 : (lk : Int) < (usedO xs (k : Int) : Int) := by omega
            go_wp2
            go_ret
            exact ⟨ret_int (by rw [HF.out]), B4.out⟩
          · have HE : Hid (∀ j, j < k + 1 → overB xs (j : Int) (limN xs j : Int) = false) := fun j hj => by
              by_cases e : j = k
              · subst e
                rw [HLK.out, HOV.out, decide_eq_false_iff_not]
                omega
              · exact HJ.out j (by omega)
            have hov2 : ¬ (lk : Int) < (usedO xs (k : Int) : Int) := by omega
            go_wp2
            go_roundw
            case rel => exact ⟨k + 1, by omega, by go_num, HE, G4, B4⟩
            case measure => simp [intOf]; omega
      · obtain rfl : k = 16 := by omega
        have HF : Hid (checkO xs = 0) := by
          show _ = _
          rw [HK.out, if_neg]
          rintro ⟨o, h1, h2⟩
          rw [HJ.out o h1] at h2
          cases h2
        go_wp2
        go_ret
        exact ⟨ret_int (by rw [HF.out]), BK.out⟩
end Go.Proofs.Ytjmafegckfijbaa
