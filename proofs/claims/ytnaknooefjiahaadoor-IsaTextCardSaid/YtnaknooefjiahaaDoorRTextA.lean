/-
  What hibernacleref10.names, dec and reg compute.
-/
import Derived.Test.YtnaknooefjiahaaDoorTextPlain
import Derived.Test.YtnaknooefjiahaaDoorRDec
namespace Go.Proofs.YtnaknooefjiahaaDoor
open Go.RowKit
set_option linter.unusedVariables false
set_option linter.unusedSimpArgs false

def nmR : List ByteArray := (nmT.drop 1).map fun l => ⟨l.toArray⟩
def NamesPost (w : World) (e : Ending) (w' : World) : Prop := ∃ g, e = .returned (.slice (some ⟨g, 0, none⟩) 31 31) ∧ w.heap.size ≤ g ∧ Blk w' g 9 (nmR.map Value.string).toArray ∧ Below w.heap.size w w'
theorem names_any (w : World) : Calls Tryd.prog 27 #[] w (NamesPost w) := by
  go_enter Tryd.func27, Tryd.ntmps27
  go_wp2
  go_ret
  exact ⟨w.heap.size, rfl, Nat.le_refl _, Blk.new w _ _, (Below.refl _ _).alloc (Nat.le_refl _) _⟩
theorem nmR_get (op : Nat) (h1 : 1 ≤ op) (h2 : op ≤ 31) : (nmR.map Value.string).toArray[op - 1]? = some (.string (nmB op)) := by
  have : nmT.length = 32 := rfl
  simp only [nmR, List.map_drop, List.getElem?_toArray, List.getElem?_map, List.getElem?_drop]
  rw [show 1 + (op - 1) = op by omega, List.getElem?_eq_getElem (by omega)]
  simp [nmB, List.getD, this, show op < 32 by omega]
theorem num_digit : ∀ n : Fin 10, (⟨#[48, 49, 50, 51, 52, 53, 54, 55, 56, 57]⟩ : ByteArray).extract n.val (n.val + 1) = ⟨#[UInt8.ofNat (48 + n.val)]⟩ := by decide +kernel
theorem num_small (n : Nat) (h : n < 10) : (⟨#[48, 49, 50, 51, 52, 53, 54, 55, 56, 57]⟩ : ByteArray).extract n (n + 1) = numB n := by
  rw [num_digit ⟨n, h⟩]
  unfold numB
  rw [Lib.itoa_nonneg, Lib.decDigits_one h]
theorem num_step (n : Nat) (h : ¬ n < 10) : numB ((n / 10 : Nat) : Int) ++ numB ((n % 10 : Nat) : Int) = numB n := by
  apply WideShapes.bytes_inj
  unfold numB
  simp only [ByteArray.data_append, Array.toList_append, Lib.itoa_nonneg]
  rw [Lib.decDigits_one (i := n % 10) (by omega)]
  conv => rhs; rw [Lib.decDigits, dif_neg h]
theorem num_sz (n : Nat) : (numB n).size ≤ n + 1 := by
  have := digits_le n
  unfold numB
  rw [Lib.itoa_nonneg]
  show (Lib.decDigits n).toArray.size ≤ n + 1
  simpa using this
theorem rdec_nat (k : Nat) : ∀ (n : Nat) (w : World), n ≤ k → n ≤ 2147483647 → Calls Tryd.prog 29 #[.int .i32 n] w fun e w' => e = .returned (.string (numB n)) ∧ w = w' := by
  induction k with
  | zero =>
    intro n w h0 h1
    obtain rfl : n = 0 := by omega
    have HE := Lib.hid (num_small 0 (by omega))
    go_enter Tryd.func29, Tryd.ntmps29
    go_wp2_with fail
    go_ret
    exact ⟨by rw [← HE.out]; rfl, rfl⟩
  | succ k ih =>
    intro n w h0 h1
    by_cases hn : n < 10
    · have HE := Lib.hid (num_small n hn)
      go_enter Tryd.func29, Tryd.ntmps29
      go_wp2_with fail
      go_ret
      exact ⟨by rw [← HE.out]; rfl, rfl⟩
    · have HE := Lib.hid (num_step n hn)
      have s1 := num_sz (n / 10)
      have s2 := num_sz (n % 10)
      have ad := fun (w : World) => run_string_add_sum (P := Tryd.prog) (w := w) (numB ((n : Int) / 10)) (numB ((n : Int) % 10)) (by show (numB ((n / 10 : Nat) : Int)).size + (numB ((n % 10 : Nat) : Int)).size ≤ _; omega)
      clear s1 s2
      go_enter Tryd.func29, Tryd.ntmps29
      go_wp2_with fail
      refine (ih (n / 10) _ (by omega) (by omega)).mono ?_
      rintro e w' ⟨rfl, rfl⟩
      go_wp2_with fail
      refine (ih (n % 10) _ (by omega) (by omega)).mono ?_
      rintro e w' ⟨rfl, rfl⟩
      go_wp2_with fail
      go_ret
      exact ⟨by rw [← HE.out]; rfl, rfl⟩
theorem rdec_neg (n : Nat) (w : World) (h0 : 1 ≤ n) (h1 : n ≤ 2147483647) : Calls Tryd.prog 29 #[.int .i32 (-(n : Int))] w fun e w' => e = .returned (.string (numB (-(n : Int)))) ∧ w = w' := by
  have HE : Hid ((⟨#[45]⟩ : ByteArray) ++ numB n = numB (-(n : Int))) := by
    apply WideShapes.bytes_inj
    unfold numB
    rw [Lib.itoa_neg n h0, Lib.itoa_nonneg]
    simp
  have s1 := num_sz n
  have ad := fun (w : World) => run_string_add_sum (P := Tryd.prog) (w := w) ⟨#[45]⟩ (numB (n : Nat)) (by show 1 + _ ≤ _; omega)
  have hlt : -(n : Int) < 0 := by omega
  clear s1
  go_enter Tryd.func29, Tryd.ntmps29
  go_wp2_with fail
  refine (rdec_nat n n _ (Nat.le_refl _) h1).mono ?_
  rintro e w' ⟨rfl, rfl⟩
  go_wp2_with fail
  go_ret
  exact ⟨by rw [← HE.out]; rfl, rfl⟩
theorem rdig_any (n : Int) (w : World) (h0 : -32768 ≤ n) (h1 : n ≤ 65535) : Calls Tryd.prog 29 #[.int .i32 n] w fun e w' => e = .returned (.string (numB n)) ∧ w = w' := by
  by_cases h : 0 ≤ n
  · obtain ⟨m, rfl⟩ := Int.eq_ofNat_of_zero_le h
    exact rdec_nat m m w (Nat.le_refl _) (by omega)
  · obtain ⟨m, rfl⟩ : ∃ m : Nat, n = -(m : Int) := ⟨n.natAbs, by omega⟩
    exact rdec_neg m w (by omega) (by omega)
theorem rreg_any (n : Nat) (w : World) (h : n ≤ 15) : Calls Tryd.prog 28 #[.int .u8 n] w fun e w' => e = .returned (.string (regB n)) ∧ w = w' := by
  have HE : Hid ((⟨#[114]⟩ : ByteArray) ++ numB n = regB n) := by
    apply WideShapes.bytes_inj
    unfold numB regB
    rw [Lib.itoa_nonneg]
  have s1 := num_sz n
  have ad := fun (w : World) => run_string_add_sum (P := Tryd.prog) (w := w) ⟨#[114]⟩ (numB (n : Nat)) (by show 1 + _ ≤ _; omega)
  clear s1
  go_enter Tryd.func28, Tryd.ntmps28
  go_wp2_with fail
  refine (rdec_nat n n _ (Nat.le_refl _) (by omega)).mono ?_
  rintro e w' ⟨rfl, rfl⟩
  go_wp2_with fail
  go_ret
  exact ⟨by rw [← HE.out]; rfl, rfl⟩
end Go.Proofs.YtnaknooefjiahaaDoor
