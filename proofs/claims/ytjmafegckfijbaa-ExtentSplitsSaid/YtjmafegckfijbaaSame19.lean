/-
  ref19's Same.
-/
import Derived.Test.YtjmafegckfijbaaLaw18
namespace Go.Proofs.Ytjmafegckfijbaa
open Go.RowKit
set_option linter.unusedVariables false
set_option linter.unusedSimpArgs false
set_option maxRecDepth 100000
set_option maxHeartbeats 1000000 in
theorem same19_any (A B : Option Addr) (c d : Nat) (xs ys : List ByteArray) (w : World) (hx : xs.length ≤ maxLen) (hy : ys.length ≤ maxLen)
   (ha : RowAt w w.heap.size A (xs.map .string)) (hb : RowAt w w.heap.size B (ys.map .string)) :
    Calls Try.prog 40 #[.slice A xs.length c, .slice B ys.length d] w fun e w' => e = .returned (.bool (eqL xs ys)) ∧ ∃ k, w' = w.drewN k := by
  unfold maxLen at hx hy
  have HA := Lib.hid ha
  have HB := Lib.hid hb
  clear ha hb
  by_cases hl : xs.length = ys.length
  · have hl1 : (((xs.length : Nat) : Int) != ((ys.length : Nat) : Int)) = false := by simp [hl]
    have HL := Lib.hid hl
    clear hl
    go_enter Try.func40, Try.ntmps40
    go_wp2
    go_loopw [4, 5] (fun r i wr => ∃ k : Nat, k ≤ xs.length ∧ i = .int .i64 k ∧ r = .bool false ∧ (∀ j < k, xs[j]? = ys[j]?) ∧ ∃ q, wr = w.drewN q) (fun _ i _ => xs.length - (intOf i).toNat)
    case atStart => exact ⟨0, Nat.zero_le _, rfl, rfl, fun j hj => by omega, 0, rfl⟩
    case round =>
      obtain ⟨k, hk, rfl, rfl, hE, q, rfl⟩ := hrel
      have HE := Lib.hid hE
      clear hE
      by_cases hlt : k < xs.length
      · have hlt2 : k < ys.length := by have := HL.out; omega
        obtain ⟨b1, o1, rfl, hb1, hc1⟩ := HA.out.at_ (by simpa using (by omega))
        obtain ⟨b2, o2, rfl, hb2, hc2⟩ := HB.out.at_ (by simpa using (by omega))
        have g1 : w.cell? ⟨b1, o1 + k, none⟩ = some (.string xs[k]) := hc1 k _ (by simp [hlt])
        have g2 : w.cell? ⟨b2, o2 + k, none⟩ = some (.string ys[k]) := hc2 k _ (by simp [hlt2])
        clear hc1 hc2
        by_cases he : xs[k] = ys[k]
        · have HX := Lib.hid he
          have h1 : (!xs[k].toList == ys[k].toList) = false := by rw [he]; exact str_eq _
          clear he
          go_wp2
          go_quiet (fail)
          go_wp2
          go_roundw
          case rel => exact ⟨k + 1, by omega, by go_num, rfl, fun j hj => by
            rcases Nat.lt_succ_iff_lt_or_eq.1 hj with h | rfl
            · exact HE.out j h
            · rw [List.getElem?_eq_getElem hlt, List.getElem?_eq_getElem hlt2, HX.out], _, rfl⟩
          case measure => simp [intOf]; omega
        · have HX := Lib.hid he
          have h1 : (!xs[k].toList == ys[k].toList) = true := str_ne he
          clear he
          go_wp2
          go_quiet (fail)
          go_wp2
          go_ret
          exact ⟨ret_bool (by unfold eqL; symm; rw [decide_eq_false_iff_not]; intro h; subst h; exact HX.out rfl), q + nq, by rw [World.drewN_drewN]⟩
      · go_wp2
        go_ret
        exact ⟨ret_bool (by
          unfold eqL; symm; rw [decide_eq_true_iff]
          refine List.ext_getElem? fun j => ?_
          by_cases hj : j < k
          · exact HE.out j hj
          · rw [List.getElem?_eq_none (by omega), List.getElem?_eq_none (by have := HL.out; omega)]), _, rfl⟩
  · have hl1 : (((xs.length : Nat) : Int) != ((ys.length : Nat) : Int)) = true := by simp; omega
    have HL := Lib.hid hl
    clear hl
    go_enter Try.func40, Try.ntmps40
    go_wp2
    go_ret
    exact ⟨ret_bool (by unfold eqL; symm; rw [decide_eq_false_iff_not]; intro h; exact HL.out (by rw [h])), 0, rfl⟩
theorem same19_below (A B : Option Addr) (c d : Nat) (xs ys : List ByteArray) (w : World) (hx : xs.length ≤ maxLen) (hy : ys.length ≤ maxLen)
   (ha : RowAt w w.heap.size A (xs.map .string)) (hb : RowAt w w.heap.size B (ys.map .string)) :
    Calls Try.prog 40 #[.slice A xs.length c, .slice B ys.length d] w fun e w' => e = .returned (.bool (eqL xs ys)) ∧ Below w.heap.size w w' :=
  (same19_any A B c d xs ys w hx hy ha hb).mono fun e w' ⟨h, k, hk⟩ => ⟨h, hk ▸ below_drewN (Below.refl _ _) k⟩
end Go.Proofs.Ytjmafegckfijbaa
