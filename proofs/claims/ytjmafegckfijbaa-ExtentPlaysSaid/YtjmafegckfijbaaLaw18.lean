/-
  law18's alive and Great, ref18's Same; two inodes held against each other.
-/
import Derived.Test.YtjmafegckfijbaaInoPl
import Derived.Test.YtjmafegckfijbaaGeomF
import Derived.Test.YtjmafegckfijbaaInfra
import Derived.ChangeKeysEq
namespace Go.Proofs.Ytjmafegckfijbaa
open Go.RowKit
set_option linter.unusedVariables false
set_option linter.unusedSimpArgs false
set_option maxRecDepth 100000
def inoA (a0 a1 a2 a3 a4 a5 a6 a7 a8 a9 a10 a11 : Int) : Value := .agg #[.int .i64 a0, .int .i64 a1, .int .i64 a2, .int .i64 a3, .int .i64 a4, .int .i64 a5, .int .i64 a6, .int .i64 a7, .int .i64 a8, .int .i64 a9, .int .i64 a10, .int .i64 a11]
theorem inoTy : Try.prog.underlying 45 = some (.struct (Try.prog.fieldsOf 45)) := by kernel_rfl
theorem inoH : Try.prog.stoodInHeld 45 = false := by kernel_rfl
theorem six_info : ∃ i, Try.prog.info? 3 = some i ∧ i.size = 1 := by
  have h : (Try.prog.info? 3).map (·.size) = some 1 := by kernel_rfl
  cases hi : Try.prog.info? 3 with
  | none => rw [hi] at h; cases h
  | some i => rw [hi] at h; exact ⟨i, rfl, by simpa using h⟩
theorem six_equal (d : Nat) (a4 a5 a6 a7 a8 a9 : Int) (w : World) : (Op.equalIn (d + 1 + 1) 43 (.agg #[.int .i64 a4, .int .i64 a5, .int .i64 a6, .int .i64 a7, .int .i64 a8, .int .i64 a9]) (.agg #[.int .i64 a4, .int .i64 a5, .int .i64 a6, .int .i64 a7, .int .i64 a8, .int .i64 a9])).run Try.prog w = .ok true w := by
  obtain ⟨i, hi, hs⟩ := six_info
  rw [run_equalIn_array w (d + 1) _ _ Try.underlying43 hi, show Try.prog.cellsOf 3 = 1 by kernel_rfl, show List.range 6 = [0, 1, 2, 3, 4, 5] from rfl]
  simp [go_sem, Op.eqItems]
theorem ino_equal (a0 a1 a2 a3 a4 a5 a6 a7 a8 a9 a10 a11 : Int) (w : World) : (Op.equalIn 10000 45 (inoA a0 a1 a2 a3 a4 a5 a6 a7 a8 a9 a10 a11) (inoA a0 a1 a2 a3 a4 a5 a6 a7 a8 a9 a10 a11)).run Try.prog w = .ok true w := by
  unfold inoA
  rw [run_equalIn_agg _ _ _ _ _ inoTy inoH]
  have := fun w => six_equal 9997 a4 a5 a6 a7 a8 a9 w
  simp [go_sem, this]
theorem ino_eql (a0 a1 a2 a3 a4 a5 a6 a7 a8 a9 a10 a11 : Int) (w : World) : (binOp .eql 45 (inoA a0 a1 a2 a3 a4 a5 a6 a7 a8 a9 a10 a11) (inoA a0 a1 a2 a3 a4 a5 a6 a7 a8 a9 a10 a11)).run Try.prog w = .ok (.bool true) w := by
  rw [show inoA a0 a1 a2 a3 a4 a5 a6 a7 a8 a9 a10 a11 = Value.agg _ from rfl, run_eql_struct]
  have := ino_equal a0 a1 a2 a3 a4 a5 a6 a7 a8 a9 a10 a11 w
  unfold inoA at this
  rw [this]; rfl
theorem ino_neq (a0 a1 a2 a3 a4 a5 a6 a7 a8 a9 a10 a11 : Int) (w : World) : (binOp .neq 45 (inoA a0 a1 a2 a3 a4 a5 a6 a7 a8 a9 a10 a11) (inoA a0 a1 a2 a3 a4 a5 a6 a7 a8 a9 a10 a11)).run Try.prog w = .ok (.bool false) w := by
  rw [show inoA a0 a1 a2 a3 a4 a5 a6 a7 a8 a9 a10 a11 = Value.agg _ from rfl, run_neq_struct]
  have := ino_equal a0 a1 a2 a3 a4 a5 a6 a7 a8 a9 a10 a11 w
  unfold inoA at this
  rw [this]; rfl
set_option maxHeartbeats 1000000 in
theorem same18_any (A B : Option Addr) (c d : Nat) (xs ys : List ByteArray) (w : World) (hx : xs.length ≤ maxLen) (hy : ys.length ≤ maxLen)
   (ha : RowAt w w.heap.size A (xs.map .string)) (hb : RowAt w w.heap.size B (ys.map .string)) :
    Calls Try.prog 28 #[.slice A xs.length c, .slice B ys.length d] w fun e w' => e = .returned (.bool (eqL xs ys)) ∧ ∃ k, w' = w.drewN k := by
  unfold maxLen at hx hy
  have HA := Lib.hid ha
  have HB := Lib.hid hb
  clear ha hb
  by_cases hl : xs.length = ys.length
  · have hl1 : (((xs.length : Nat) : Int) != ((ys.length : Nat) : Int)) = false := by simp [hl]
    have HL := Lib.hid hl
    clear hl
    go_enter Try.func28, Try.ntmps28
    go_wp2
    go_loopw [4, 5] (fun r i wr => ∃ k : Nat, k ≤ xs.length ∧ i = .int .i64 k ∧ r = .bool false ∧ (∀ j < k, xs[j]? = ys[j]?) ∧ ∃ q, wr = w.drewN q) (fun _ i _ => xs.length - (intOf i).toNat)
    case atStart => exact ⟨0, Nat.zero_le _, rfl, rfl, fun j hj => by omega, 0, rfl⟩
    case round =>
      obtain ⟨k, hk, rfl, rfl, hE, q, rfl⟩ := hrel
      have HE := Lib.hid hE
      clear hE
      by_cases hlt : k < xs.length
      · have hlt2 : k < ys.length := by have := HL.out; omega
        obtain ⟨b1, o1, rfl, hb1, hc1⟩ := HA.out.at_ (by simpa using (by omega))
        obtain ⟨b2, o2, rfl, hb2, hc2⟩ := HB.out.at_ (by simpa using (by omega))
        have g1 : w.cell? ⟨b1, o1 + k, none⟩ = some (.string xs[k]) := hc1 k _ (by simp [hlt])
        have g2 : w.cell? ⟨b2, o2 + k, none⟩ = some (.string ys[k]) := hc2 k _ (by simp [hlt2])
        clear hc1 hc2
        by_cases he : xs[k] = ys[k]
        · have HX := Lib.hid he
          have h1 : (!xs[k].toList == ys[k].toList) = false := by rw [he]; exact str_eq _
          clear he
          go_wp2
          go_quiet (fail)
          go_wp2
          go_roundw
          case rel => exact ⟨k + 1, by omega, by go_num, rfl, fun j hj => by
            rcases Nat.lt_succ_iff_lt_or_eq.1 hj with h | rfl
            · exact HE.out j h
            · rw [List.getElem?_eq_getElem hlt, List.getElem?_eq_getElem hlt2, HX.out], _, rfl⟩
          case measure => simp [intOf]; omega
        · have HX := Lib.hid he
          have h1 : (!xs[k].toList == ys[k].toList) = true := str_ne he
          clear he
          go_wp2
          go_quiet (fail)
          go_wp2
          go_ret
          exact ⟨ret_bool (by unfold eqL; symm; rw [decide_eq_false_iff_not]; intro h; subst h; exact HX.out rfl), q + nq, by rw [World.drewN_drewN]⟩
      · go_wp2
        go_ret
        exact ⟨ret_bool (by
          unfold eqL; symm; rw [decide_eq_true_iff]
          refine List.ext_getElem? fun j => ?_
          by_cases hj : j < k
          · exact HE.out j hj
          · rw [List.getElem?_eq_none (by omega), List.getElem?_eq_none (by have := HL.out; omega)]), _, rfl⟩
  · have hl1 : (((xs.length : Nat) : Int) != ((ys.length : Nat) : Int)) = true := by simp; omega
    have HL := Lib.hid hl
    clear hl
    go_enter Try.func28, Try.ntmps28
    go_wp2
    go_ret
    exact ⟨ret_bool (by unfold eqL; symm; rw [decide_eq_false_iff_not]; intro h; exact HL.out (by rw [h])), 0, rfl⟩
theorem same18_below (A B : Option Addr) (c d : Nat) (xs ys : List ByteArray) (w : World) (hx : xs.length ≤ maxLen) (hy : ys.length ≤ maxLen)
   (ha : RowAt w w.heap.size A (xs.map .string)) (hb : RowAt w w.heap.size B (ys.map .string)) :
    Calls Try.prog 28 #[.slice A xs.length c, .slice B ys.length d] w fun e w' => e = .returned (.bool (eqL xs ys)) ∧ Below w.heap.size w w' :=
  (same18_any A B c d xs ys w hx hy ha hb).mono fun e w' ⟨h, k, hk⟩ => ⟨h, hk ▸ below_drewN (Below.refl _ _) k⟩
def GreatPost (n : Nat) (w : World) (e : Ending) (w' : World) : Prop := (∃ r : Int, e = .returned (.int .i64 r) ∧ (r = 1 ∨ r = 0 ∧ n ≤ 80)) ∧ w = w'
set_option maxHeartbeats 1000000 in
theorem great18_any (A : Option Addr) (c : Nat) (xs : List ByteArray) (w : World) (hx : xs.length ≤ maxLen) (hs : ∀ s ∈ xs, s.size ≤ 9223372036854775807) (h : RowAt w w.heap.size A (xs.map .string)) :
    Calls Try.prog 25 #[.slice A xs.length c] w (GreatPost xs.length w) := by
  unfold maxLen at hx
  have HR := Lib.hid h
  have HS : Hid (∀ j (hj : j < xs.length), xs[j].size ≤ 9223372036854775807) := fun j hj => hs _ (List.getElem_mem hj)
  clear h hs
  by_cases h80 : xs.length ≤ 80
  · have g1 : ¬ (80 : Int) < (xs.length : Int) := by omega
    go_enter Try.func25, Try.ntmps25
    go_wp2
    go_loop [3] (fun i => ∃ k : Nat, k ≤ xs.length ∧ i = .int .i64 k) (fun i => xs.length - (intOf i).toNat)
    case atStart => exact ⟨0, Nat.zero_le _, rfl⟩
    case round =>
      obtain ⟨k, hk, rfl⟩ := hrel
      by_cases hlt : k < xs.length
      · obtain ⟨b, o, rfl, hb, hc⟩ := row_get HR.out k hlt
        rw [getD_eq xs k hlt] at hc
        have hsz := HS.out k hlt
        generalize xs[k] = s at *
        by_cases h200 : 200 < s.size
        · have h2 : (200 : Int) < (s.size : Int) := by omega
          go_wp2
          go_ret
          exact ⟨⟨1, rfl, .inl rfl⟩, rfl⟩
        · have h2 : ¬ (200 : Int) < (s.size : Int) := by omega
          go_wp2
          go_round
          case rel => exact ⟨k + 1, by omega, by go_num⟩
          case measure => simp [intOf]; omega
      · go_wp2
        go_ret
        exact ⟨⟨0, rfl, .inr ⟨rfl, h80⟩⟩, rfl⟩
  · have g1 : (80 : Int) < (xs.length : Int) := by omega
    go_enter Try.func25, Try.ntmps25
    go_wp2
    go_ret
    exact ⟨⟨1, rfl, .inl rfl⟩, rfl⟩
end Go.Proofs.Ytjmafegckfijbaa
