/-
  What the document's within and Fits of layer 18 tell.
-/
import Derived.Test.YtclmocppphojfaaLawInoBack
namespace Go.Proofs.Ytclmocppphojfaa
open Go.RowKit
set_option linter.unusedVariables false
set_option linter.unusedSimpArgs false
set_option maxRecDepth 100000
def withB (n most : Int) : Bool := decide (0 ≤ n ∧ n ≤ most)
theorem within_any (n most : Int) (w : World) : Calls Try.prog 69 #[.int .i64 n, .int .i64 most] w fun e w' => e = .returned (.bool (withB n most)) ∧ w = w' := by
  by_cases h0 : 0 ≤ n
  · have g0 : decide (0 ≤ n) = true := by simpa using h0
    by_cases h1 : n ≤ most
    · have HW : Hid (withB n most = true) := by show _ = _; unfold withB; exact decide_eq_true ⟨h0, h1⟩
      go_enter Try.func69, Try.ntmps69
      go_wp2
      go_ret
      exact ⟨ret_bool HW.out.symm, rfl⟩
    · have HW : Hid (withB n most = false) := by show _ = _; unfold withB; exact decide_eq_false (by omega)
      have h1' : most < n := by omega
      go_enter Try.func69, Try.ntmps69
      go_wp2
      go_ret
      exact ⟨ret_bool HW.out.symm, rfl⟩
  · have g0 : decide (0 ≤ n) = false := by simpa using h0
    have HW : Hid (withB n most = false) := by show _ = _; unfold withB; exact decide_eq_false (by omega)
    go_enter Try.func69, Try.ntmps69
    go_wp2
    go_ret
    exact ⟨ret_bool HW.out.symm, rfl⟩
/-- the six numbers of blocks, the first k of them -/
def dirB (l : List Int) (k : Nat) : Bool := (List.range k).all fun j => withB (l.getD (4 + j) 0) 65535
theorem dirB_succ (l : List Int) (k : Nat) : dirB l (k + 1) = (dirB l k && withB (l.getD (4 + k) 0) 65535) := by
  unfold dirB; rw [List.range_succ, List.all_append]; simp
theorem fits_split (x0 x1 x2 x3 x4 x5 x6 x7 x8 x9 x10 x11 : Int) : fitsR [x0, x1, x2, x3, x4, x5, x6, x7, x8, x9, x10, x11] = (withB x0 255 && withB x2 255 && withB x1 65535 && withB x3 4294967295 && withB x10 65535 && withB x11 65535 && dirB [x0, x1, x2, x3, x4, x5, x6, x7, x8, x9, x10, x11] 6) := by
  rw [Bool.eq_iff_iff]
  unfold fitsR dirB
  have e6 : List.range 6 = [0, 1, 2, 3, 4, 5] := rfl
  rw [e6]
  simp only [allF, List.all_cons, List.all_nil, Bool.and_true, Bool.and_eq_true]
  have f : ∀ (i : Fin 12) (v m : Int) (k : Nat), [x0, x1, x2, x3, x4, x5, x6, x7, x8, x9, x10, x11].getD (fof i) 0 = v → fsz i = k → (256 : Int) ^ k = m + 1 → (fitB [x0, x1, x2, x3, x4, x5, x6, x7, x8, x9, x10, x11] i = true ↔ withB v m = true) := fun i v m k h1 h2 h3 => by
    unfold fitB withB
    rw [h1, h2, h3, decide_eq_true_iff, decide_eq_true_iff]
    omega
  rw [f 0 x0 255 1 rfl rfl rfl, f 1 x2 255 1 rfl rfl rfl, f 2 x1 65535 2 rfl rfl rfl, f 3 x3 4294967295 4 rfl rfl rfl, f 4 x4 65535 2 rfl rfl rfl, f 5 x5 65535 2 rfl rfl rfl, f 6 x6 65535 2 rfl rfl rfl, f 7 x7 65535 2 rfl rfl rfl, f 8 x8 65535 2 rfl rfl rfl, f 9 x9 65535 2 rfl rfl rfl, f 10 x10 65535 2 rfl rfl rfl, f 11 x11 65535 2 rfl rfl rfl]
  simp only [List.getD, Nat.reduceAdd, List.getElem?_cons_succ, List.getElem?_cons_zero, Option.getD_some]
  constructor
  · rintro ⟨a0, a1, a2, a3, a4, a5, a6, a7, a8, a9, a10, a11⟩; exact ⟨⟨⟨⟨⟨⟨a0, a1⟩, a2⟩, a3⟩, a10⟩, a11⟩, a4, a5, a6, a7, a8, a9⟩
  · rintro ⟨⟨⟨⟨⟨⟨a0, a1⟩, a2⟩, a3⟩, a10⟩, a11⟩, a4, a5, a6, a7, a8, a9⟩; exact ⟨a0, a1, a2, a3, a4, a5, a6, a7, a8, a9, a10, a11⟩
set_option maxHeartbeats 4000000 in
theorem rfits_any (l : List Int) (w : World) (hl : l.length = 12) : Calls Try.prog 61 #[.agg (intC l)] w fun e w' => e = .returned (.bool (fitsR l)) ∧ Below w.heap.size w w' := by
  obtain ⟨x0, x1, x2, x3, x4, x5, x6, x7, x8, x9, x10, x11, rfl⟩ := len12 hl
  have HF := Lib.hid (fits_split x0 x1 x2 x3 x4 x5 x6 x7 x8 x9 x10 x11)
  have HD := Lib.hid (dirB_succ [x0, x1, x2, x3, x4, x5, x6, x7, x8, x9, x10, x11])
  have lit : intC [x0, x1, x2, x3, x4, x5, x6, x7, x8, x9, x10, x11] = #[.int .i64 x0, .int .i64 x1, .int .i64 x2, .int .i64 x3, .int .i64 x4, .int .i64 x5, .int .i64 x6, .int .i64 x7, .int .i64 x8, .int .i64 x9, .int .i64 x10, .int .i64 x11] := rfl
  rw [lit]
  have C0 := Lib.hid (fun w => within_any x0 255 w)
  have C1 := Lib.hid (fun w => within_any x2 255 w)
  have C2 := Lib.hid (fun w => within_any x1 65535 w)
  have C3 := Lib.hid (fun w => within_any x3 4294967295 w)
  have C4 := Lib.hid (fun w => within_any x10 65535 w)
  have C5 := Lib.hid (fun w => within_any x11 65535 w)
  have CD : Hid (∀ j, j < 6 → ∀ w, ∃ v : Int, [x0, x1, x2, x3, x4, x5, x6, x7, x8, x9, x10, x11][4 + j]? = some v ∧ Calls Try.prog 69 #[.int .i64 v, .int .i64 65535] w fun e w' => e = .returned (.bool (withB ([x0, x1, x2, x3, x4, x5, x6, x7, x8, x9, x10, x11].getD (4 + j) 0) 65535)) ∧ w = w') := fun j hj w => by
    have hh : 4 + j < [x0, x1, x2, x3, x4, x5, x6, x7, x8, x9, x10, x11].length := by simp; omega
    refine ⟨_, List.getElem?_eq_getElem hh, ?_⟩
    have : [x0, x1, x2, x3, x4, x5, x6, x7, x8, x9, x10, x11].getD (4 + j) 0 = [x0, x1, x2, x3, x4, x5, x6, x7, x8, x9, x10, x11][4 + j] := by simp only [List.getD, List.getElem?_eq_getElem hh, Option.getD_some]
    rw [this]
    exact within_any _ _ w
  generalize hdir : dirB [x0, x1, x2, x3, x4, x5, x6, x7, x8, x9, x10, x11] = dir at *
  generalize withB x0 255 = b0 at HF C0
  generalize withB x2 255 = b1 at HF C1
  generalize withB x1 65535 = b2 at HF C2
  generalize withB x3 4294967295 = b3 at HF C3
  generalize withB x10 65535 = b4 at HF C4
  generalize withB x11 65535 = b5 at HF C5
  have d0 : Hid (dir 0 = true) := by rw [← hdir]; rfl
  have BN : Hid (Below w.heap.size w (w.alloc (.cells #[.int .i64 x0, .int .i64 x1, .int .i64 x2, .int .i64 x3, .int .i64 x4, .int .i64 x5, .int .i64 x6, .int .i64 x7, .int .i64 x8, .int .i64 x9, .int .i64 x10, .int .i64 x11] 50))) := (Below.refl _ _).alloc (Nat.le_refl _) _
  have GN := Lib.hid (Blk.new w 50 #[.int .i64 x0, .int .i64 x1, .int .i64 x2, .int .i64 x3, .int .i64 x4, .int .i64 x5, .int .i64 x6, .int .i64 x7, .int .i64 x8, .int .i64 x9, .int .i64 x10, .int .i64 x11])
  obtain ⟨bb, hbb⟩ : ∃ bb, (b0 && b1 && b2 && b3 && b4 && b5) = bb := ⟨_, rfl⟩
  rw [hbb] at HF
  have HBB := Lib.hid hbb
  clear hdir lit hbb
  go_enter Try.func61, Try.ntmps61
  cases b0 with
  | false =>
    go_wp2_with fail
    refine (C0.out _).mono ?_
    rintro e w' ⟨rfl, rfl⟩
    go_wp2
    generalize hw1 : w.alloc _ = w1 at *
    clear hw1
    go_loop [3, 4] (fun r i => ∃ k : Nat, k ≤ 6 ∧ i = .int .i64 k ∧ r = .bool (bb && dir k)) (fun _ i => 6 - (intOf i).toNat)
    case atStart => exact ⟨0, by omega, rfl, by rw [← HBB.out, d0.out]; rfl⟩
    case round =>
      obtain ⟨k, hk, rfl, rfl⟩ := hrel
      by_cases hlt : k < 6
      · have HU := Lib.hid (HD.out k)
        obtain ⟨vv, hv, hcall⟩ := CD.out k hlt w1
        have CC := Lib.hid hcall
        have kc : w1.cell? ⟨w.heap.size, 4 + k, none⟩ = some (.int .i64 vv) := GN.out.cell (4 + k) (by rw [show (#[.int .i64 x0, .int .i64 x1, .int .i64 x2, .int .i64 x3, .int .i64 x4, .int .i64 x5, .int .i64 x6, .int .i64 x7, .int .i64 x8, .int .i64 x9, .int .i64 x10, .int .i64 x11] : Array Value) = intC [x0, x1, x2, x3, x4, x5, x6, x7, x8, x9, x10, x11] from rfl]; unfold intC; simp only [List.getElem?_toArray, List.getElem?_map, hv]; rfl)
        generalize withB ([x0, x1, x2, x3, x4, x5, x6, x7, x8, x9, x10, x11].getD (4 + k) 0) 65535 = bk at *
        clear hcall hv
        cases hq : (bb && dir k) with
        | false =>
          have HE : Hid ((bb && dir (k + 1)) = false) := by show _ = _; rw [HU.out, ← Bool.and_assoc, hq]; rfl
          clear hq
          go_wp2
          go_round
          case rel => exact ⟨k + 1, by omega, by go_num, by rw [HE.out]⟩
          case measure => simp [intOf]; omega
        | true =>
          have HE : Hid ((bb && dir (k + 1)) = bk) := by show _ = _; rw [HU.out, ← Bool.and_assoc, hq]; rfl
          clear hq
          go_wp2_with fail
          refine CC.out.mono ?_
          rintro e w' ⟨rfl, rfl⟩
          go_wp2
          go_round
          case rel => exact ⟨k + 1, by omega, by go_num, by rw [HE.out]⟩
          case measure => simp [intOf]; omega
      · obtain rfl : k = 6 := by omega
        go_wp2
        go_ret
        exact ⟨ret_bool (by rw [HF.out]), BN.out⟩
  | true =>
    cases b1 with
    | false =>
      go_wp2_with fail
      refine (C0.out _).mono ?_
      rintro e w' ⟨rfl, rfl⟩
      go_wp2_with fail
      refine (C1.out _).mono ?_
      rintro e w' ⟨rfl, rfl⟩
      go_wp2
      generalize hw1 : w.alloc _ = w1 at *
      clear hw1
      go_loop [3, 4] (fun r i => ∃ k : Nat, k ≤ 6 ∧ i = .int .i64 k ∧ r = .bool (bb && dir k)) (fun _ i => 6 - (intOf i).toNat)
      case atStart => exact ⟨0, by omega, rfl, by rw [← HBB.out, d0.out]; rfl⟩
      case round =>
        obtain ⟨k, hk, rfl, rfl⟩ := hrel
        by_cases hlt : k < 6
        · have HU := Lib.hid (HD.out k)
          obtain ⟨vv, hv, hcall⟩ := CD.out k hlt w1
          have CC := Lib.hid hcall
          have kc : w1.cell? ⟨w.heap.size, 4 + k, none⟩ = some (.int .i64 vv) := GN.out.cell (4 + k) (by rw [show (#[.int .i64 x0, .int .i64 x1, .int .i64 x2, .int .i64 x3, .int .i64 x4, .int .i64 x5, .int .i64 x6, .int .i64 x7, .int .i64 x8, .int .i64 x9, .int .i64 x10, .int .i64 x11] : Array Value) = intC [x0, x1, x2, x3, x4, x5, x6, x7, x8, x9, x10, x11] from rfl]; unfold intC; simp only [List.getElem?_toArray, List.getElem?_map, hv]; rfl)
          generalize withB ([x0, x1, x2, x3, x4, x5, x6, x7, x8, x9, x10, x11].getD (4 + k) 0) 65535 = bk at *
          clear hcall hv
          cases hq : (bb && dir k) with
          | false =>
            have HE : Hid ((bb && dir (k + 1)) = false) := by show _ = _; rw [HU.out, ← Bool.and_assoc, hq]; rfl
            clear hq
            go_wp2
            go_round
            case rel => exact ⟨k + 1, by omega, by go_num, by rw [HE.out]⟩
            case measure => simp [intOf]; omega
          | true =>
            have HE : Hid ((bb && dir (k + 1)) = bk) := by show _ = _; rw [HU.out, ← Bool.and_assoc, hq]; rfl
            clear hq
            go_wp2_with fail
            refine CC.out.mono ?_
            rintro e w' ⟨rfl, rfl⟩
            go_wp2
            go_round
            case rel => exact ⟨k + 1, by omega, by go_num, by rw [HE.out]⟩
            case measure => simp [intOf]; omega
        · obtain rfl : k = 6 := by omega
          go_wp2
          go_ret
          exact ⟨ret_bool (by rw [HF.out]), BN.out⟩
    | true =>
      cases b2 with
      | false =>
        go_wp2_with fail
        refine (C0.out _).mono ?_
        rintro e w' ⟨rfl, rfl⟩
        go_wp2_with fail
        refine (C1.out _).mono ?_
        rintro e w' ⟨rfl, rfl⟩
        go_wp2_with fail
        refine (C2.out _).mono ?_
        rintro e w' ⟨rfl, rfl⟩
        go_wp2
        generalize hw1 : w.alloc _ = w1 at *
        clear hw1
        go_loop [3, 4] (fun r i => ∃ k : Nat, k ≤ 6 ∧ i = .int .i64 k ∧ r = .bool (bb && dir k)) (fun _ i => 6 - (intOf i).toNat)
        case atStart => exact ⟨0, by omega, rfl, by rw [← HBB.out, d0.out]; rfl⟩
        case round =>
          obtain ⟨k, hk, rfl, rfl⟩ := hrel
          by_cases hlt : k < 6
          · have HU := Lib.hid (HD.out k)
            obtain ⟨vv, hv, hcall⟩ := CD.out k hlt w1
            have CC := Lib.hid hcall
            have kc : w1.cell? ⟨w.heap.size, 4 + k, none⟩ = some (.int .i64 vv) := GN.out.cell (4 + k) (by rw [show (#[.int .i64 x0, .int .i64 x1, .int .i64 x2, .int .i64 x3, .int .i64 x4, .int .i64 x5, .int .i64 x6, .int .i64 x7, .int .i64 x8, .int .i64 x9, .int .i64 x10, .int .i64 x11] : Array Value) = intC [x0, x1, x2, x3, x4, x5, x6, x7, x8, x9, x10, x11] from rfl]; unfold intC; simp only [List.getElem?_toArray, List.getElem?_map, hv]; rfl)
            generalize withB ([x0, x1, x2, x3, x4, x5, x6, x7, x8, x9, x10, x11].getD (4 + k) 0) 65535 = bk at *
            clear hcall hv
            cases hq : (bb && dir k) with
            | false =>
              have HE : Hid ((bb && dir (k + 1)) = false) := by show _ = _; rw [HU.out, ← Bool.and_assoc, hq]; rfl
              clear hq
              go_wp2
              go_round
              case rel => exact ⟨k + 1, by omega, by go_num, by rw [HE.out]⟩
              case measure => simp [intOf]; omega
            | true =>
              have HE : Hid ((bb && dir (k + 1)) = bk) := by show _ = _; rw [HU.out, ← Bool.and_assoc, hq]; rfl
              clear hq
              go_wp2_with fail
              refine CC.out.mono ?_
              rintro e w' ⟨rfl, rfl⟩
              go_wp2
              go_round
              case rel => exact ⟨k + 1, by omega, by go_num, by rw [HE.out]⟩
              case measure => simp [intOf]; omega
          · obtain rfl : k = 6 := by omega
            go_wp2
            go_ret
            exact ⟨ret_bool (by rw [HF.out]), BN.out⟩
      | true =>
        cases b3 with
        | false =>
          go_wp2_with fail
          refine (C0.out _).mono ?_
          rintro e w' ⟨rfl, rfl⟩
          go_wp2_with fail
          refine (C1.out _).mono ?_
          rintro e w' ⟨rfl, rfl⟩
          go_wp2_with fail
          refine (C2.out _).mono ?_
          rintro e w' ⟨rfl, rfl⟩
          go_wp2_with fail
          refine (C3.out _).mono ?_
          rintro e w' ⟨rfl, rfl⟩
          go_wp2
          generalize hw1 : w.alloc _ = w1 at *
          clear hw1
          go_loop [3, 4] (fun r i => ∃ k : Nat, k ≤ 6 ∧ i = .int .i64 k ∧ r = .bool (bb && dir k)) (fun _ i => 6 - (intOf i).toNat)
          case atStart => exact ⟨0, by omega, rfl, by rw [← HBB.out, d0.out]; rfl⟩
          case round =>
            obtain ⟨k, hk, rfl, rfl⟩ := hrel
            by_cases hlt : k < 6
            · have HU := Lib.hid (HD.out k)
              obtain ⟨vv, hv, hcall⟩ := CD.out k hlt w1
              have CC := Lib.hid hcall
              have kc : w1.cell? ⟨w.heap.size, 4 + k, none⟩ = some (.int .i64 vv) := GN.out.cell (4 + k) (by rw [show (#[.int .i64 x0, .int .i64 x1, .int .i64 x2, .int .i64 x3, .int .i64 x4, .int .i64 x5, .int .i64 x6, .int .i64 x7, .int .i64 x8, .int .i64 x9, .int .i64 x10, .int .i64 x11] : Array Value) = intC [x0, x1, x2, x3, x4, x5, x6, x7, x8, x9, x10, x11] from rfl]; unfold intC; simp only [List.getElem?_toArray, List.getElem?_map, hv]; rfl)
              generalize withB ([x0, x1, x2, x3, x4, x5, x6, x7, x8, x9, x10, x11].getD (4 + k) 0) 65535 = bk at *
              clear hcall hv
              cases hq : (bb && dir k) with
              | false =>
                have HE : Hid ((bb && dir (k + 1)) = false) := by show _ = _; rw [HU.out, ← Bool.and_assoc, hq]; rfl
                clear hq
                go_wp2
                go_round
                case rel => exact ⟨k + 1, by omega, by go_num, by rw [HE.out]⟩
                case measure => simp [intOf]; omega
              | true =>
                have HE : Hid ((bb && dir (k + 1)) = bk) := by show _ = _; rw [HU.out, ← Bool.and_assoc, hq]; rfl
                clear hq
                go_wp2_with fail
                refine CC.out.mono ?_
                rintro e w' ⟨rfl, rfl⟩
                go_wp2
                go_round
                case rel => exact ⟨k + 1, by omega, by go_num, by rw [HE.out]⟩
                case measure => simp [intOf]; omega
            · obtain rfl : k = 6 := by omega
              go_wp2
              go_ret
              exact ⟨ret_bool (by rw [HF.out]), BN.out⟩
        | true =>
          cases b4 with
          | false =>
            go_wp2_with fail
            refine (C0.out _).mono ?_
            rintro e w' ⟨rfl, rfl⟩
            go_wp2_with fail
            refine (C1.out _).mono ?_
            rintro e w' ⟨rfl, rfl⟩
            go_wp2_with fail
            refine (C2.out _).mono ?_
            rintro e w' ⟨rfl, rfl⟩
            go_wp2_with fail
            refine (C3.out _).mono ?_
            rintro e w' ⟨rfl, rfl⟩
            go_wp2_with fail
            refine (C4.out _).mono ?_
            rintro e w' ⟨rfl, rfl⟩
            go_wp2
            generalize hw1 : w.alloc _ = w1 at *
            clear hw1
            go_loop [3, 4] (fun r i => ∃ k : Nat, k ≤ 6 ∧ i = .int .i64 k ∧ r = .bool (bb && dir k)) (fun _ i => 6 - (intOf i).toNat)
            case atStart => exact ⟨0, by omega, rfl, by rw [← HBB.out, d0.out]; rfl⟩
            case round =>
              obtain ⟨k, hk, rfl, rfl⟩ := hrel
              by_cases hlt : k < 6
              · have HU := Lib.hid (HD.out k)
                obtain ⟨vv, hv, hcall⟩ := CD.out k hlt w1
                have CC := Lib.hid hcall
                have kc : w1.cell? ⟨w.heap.size, 4 + k, none⟩ = some (.int .i64 vv) := GN.out.cell (4 + k) (by rw [show (#[.int .i64 x0, .int .i64 x1, .int .i64 x2, .int .i64 x3, .int .i64 x4, .int .i64 x5, .int .i64 x6, .int .i64 x7, .int .i64 x8, .int .i64 x9, .int .i64 x10, .int .i64 x11] : Array Value) = intC [x0, x1, x2, x3, x4, x5, x6, x7, x8, x9, x10, x11] from rfl]; unfold intC; simp only [List.getElem?_toArray, List.getElem?_map, hv]; rfl)
                generalize withB ([x0, x1, x2, x3, x4, x5, x6, x7, x8, x9, x10, x11].getD (4 + k) 0) 65535 = bk at *
                clear hcall hv
                cases hq : (bb && dir k) with
                | false =>
                  have HE : Hid ((bb && dir (k + 1)) = false) := by show _ = _; rw [HU.out, ← Bool.and_assoc, hq]; rfl
                  clear hq
                  go_wp2
                  go_round
                  case rel => exact ⟨k + 1, by omega, by go_num, by rw [HE.out]⟩
                  case measure => simp [intOf]; omega
                | true =>
                  have HE : Hid ((bb && dir (k + 1)) = bk) := by show _ = _; rw [HU.out, ← Bool.and_assoc, hq]; rfl
                  clear hq
                  go_wp2_with fail
                  refine CC.out.mono ?_
                  rintro e w' ⟨rfl, rfl⟩
                  go_wp2
                  go_round
                  case rel => exact ⟨k + 1, by omega, by go_num, by rw [HE.out]⟩
                  case measure => simp [intOf]; omega
              · obtain rfl : k = 6 := by omega
                go_wp2
                go_ret
                exact ⟨ret_bool (by rw [HF.out]), BN.out⟩
          | true =>
            cases b5 with
            | false =>
              go_wp2_with fail
              refine (C0.out _).mono ?_
              rintro e w' ⟨rfl, rfl⟩
              go_wp2_with fail
              refine (C1.out _).mono ?_
              rintro e w' ⟨rfl, rfl⟩
              go_wp2_with fail
              refine (C2.out _).mono ?_
              rintro e w' ⟨rfl, rfl⟩
              go_wp2_with fail
              refine (C3.out _).mono ?_
              rintro e w' ⟨rfl, rfl⟩
              go_wp2_with fail
              refine (C4.out _).mono ?_
              rintro e w' ⟨rfl, rfl⟩
              go_wp2_with fail
              refine (C5.out _).mono ?_
              rintro e w' ⟨rfl, rfl⟩
              go_wp2
              generalize hw1 : w.alloc _ = w1 at *
              clear hw1
              go_loop [3, 4] (fun r i => ∃ k : Nat, k ≤ 6 ∧ i = .int .i64 k ∧ r = .bool (bb && dir k)) (fun _ i => 6 - (intOf i).toNat)
              case atStart => exact ⟨0, by omega, rfl, by rw [← HBB.out, d0.out]; rfl⟩
              case round =>
                obtain ⟨k, hk, rfl, rfl⟩ := hrel
                by_cases hlt : k < 6
                · have HU := Lib.hid (HD.out k)
                  obtain ⟨vv, hv, hcall⟩ := CD.out k hlt w1
                  have CC := Lib.hid hcall
                  have kc : w1.cell? ⟨w.heap.size, 4 + k, none⟩ = some (.int .i64 vv) := GN.out.cell (4 + k) (by rw [show (#[.int .i64 x0, .int .i64 x1, .int .i64 x2, .int .i64 x3, .int .i64 x4, .int .i64 x5, .int .i64 x6, .int .i64 x7, .int .i64 x8, .int .i64 x9, .int .i64 x10, .int .i64 x11] : Array Value) = intC [x0, x1, x2, x3, x4, x5, x6, x7, x8, x9, x10, x11] from rfl]; unfold intC; simp only [List.getElem?_toArray, List.getElem?_map, hv]; rfl)
                  generalize withB ([x0, x1, x2, x3, x4, x5, x6, x7, x8, x9, x10, x11].getD (4 + k) 0) 65535 = bk at *
                  clear hcall hv
                  cases hq : (bb && dir k) with
                  | false =>
                    have HE : Hid ((bb && dir (k + 1)) = false) := by show _ = _; rw [HU.out, ← Bool.and_assoc, hq]; rfl
                    clear hq
                    go_wp2
                    go_round
                    case rel => exact ⟨k + 1, by omega, by go_num, by rw [HE.out]⟩
                    case measure => simp [intOf]; omega
                  | true =>
                    have HE : Hid ((bb && dir (k + 1)) = bk) := by show _ = _; rw [HU.out, ← Bool.and_assoc, hq]; rfl
                    clear hq
                    go_wp2_with fail
                    refine CC.out.mono ?_
                    rintro e w' ⟨rfl, rfl⟩
                    go_wp2
                    go_round
                    case rel => exact ⟨k + 1, by omega, by go_num, by rw [HE.out]⟩
                    case measure => simp [intOf]; omega
                · obtain rfl : k = 6 := by omega
                  go_wp2
                  go_ret
                  exact ⟨ret_bool (by rw [HF.out]), BN.out⟩
            | true =>
              go_wp2_with fail
              refine (C0.out _).mono ?_
              rintro e w' ⟨rfl, rfl⟩
              go_wp2_with fail
              refine (C1.out _).mono ?_
              rintro e w' ⟨rfl, rfl⟩
              go_wp2_with fail
              refine (C2.out _).mono ?_
              rintro e w' ⟨rfl, rfl⟩
              go_wp2_with fail
              refine (C3.out _).mono ?_
              rintro e w' ⟨rfl, rfl⟩
              go_wp2_with fail
              refine (C4.out _).mono ?_
              rintro e w' ⟨rfl, rfl⟩
              go_wp2_with fail
              refine (C5.out _).mono ?_
              rintro e w' ⟨rfl, rfl⟩
              go_wp2
              generalize hw1 : w.alloc _ = w1 at *
              clear hw1
              go_loop [3, 4] (fun r i => ∃ k : Nat, k ≤ 6 ∧ i = .int .i64 k ∧ r = .bool (bb && dir k)) (fun _ i => 6 - (intOf i).toNat)
              case atStart => exact ⟨0, by omega, rfl, by rw [← HBB.out, d0.out]; rfl⟩
              case round =>
                obtain ⟨k, hk, rfl, rfl⟩ := hrel
                by_cases hlt : k < 6
                · have HU := Lib.hid (HD.out k)
                  obtain ⟨vv, hv, hcall⟩ := CD.out k hlt w1
                  have CC := Lib.hid hcall
                  have kc : w1.cell? ⟨w.heap.size, 4 + k, none⟩ = some (.int .i64 vv) := GN.out.cell (4 + k) (by rw [show (#[.int .i64 x0, .int .i64 x1, .int .i64 x2, .int .i64 x3, .int .i64 x4, .int .i64 x5, .int .i64 x6, .int .i64 x7, .int .i64 x8, .int .i64 x9, .int .i64 x10, .int .i64 x11] : Array Value) = intC [x0, x1, x2, x3, x4, x5, x6, x7, x8, x9, x10, x11] from rfl]; unfold intC; simp only [List.getElem?_toArray, List.getElem?_map, hv]; rfl)
                  generalize withB ([x0, x1, x2, x3, x4, x5, x6, x7, x8, x9, x10, x11].getD (4 + k) 0) 65535 = bk at *
                  clear hcall hv
                  cases hq : (bb && dir k) with
                  | false =>
                    have HE : Hid ((bb && dir (k + 1)) = false) := by show _ = _; rw [HU.out, ← Bool.and_assoc, hq]; rfl
                    clear hq
                    go_wp2
                    go_round
                    case rel => exact ⟨k + 1, by omega, by go_num, by rw [HE.out]⟩
                    case measure => simp [intOf]; omega
                  | true =>
                    have HE : Hid ((bb && dir (k + 1)) = bk) := by show _ = _; rw [HU.out, ← Bool.and_assoc, hq]; rfl
                    clear hq
                    go_wp2_with fail
                    refine CC.out.mono ?_
                    rintro e w' ⟨rfl, rfl⟩
                    go_wp2
                    go_round
                    case rel => exact ⟨k + 1, by omega, by go_num, by rw [HE.out]⟩
                    case measure => simp [intOf]; omega
                · obtain rfl : k = 6 := by omega
                  go_wp2
                  go_ret
                  exact ⟨ret_bool (by rw [HF.out]), BN.out⟩
end Go.Proofs.Ytclmocppphojfaa
