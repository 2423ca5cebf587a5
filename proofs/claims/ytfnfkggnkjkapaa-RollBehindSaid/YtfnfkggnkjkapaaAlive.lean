/-
  The chapter's examples: rollAlive answers true.
-/
import Derived.Test.YtfnfkggnkjkapaaRefCut
namespace Go.Proofs.Ytfnfkggnkjkapaa
open Go.RowKit
set_option linter.unusedVariables false
set_option linter.unusedSimpArgs false

theorem cuts_abc : P.Cuts 1 1 3 0 [97, 98, 99] [[97], [98], [99]] := by
  have e1 : P.endN 1 1 3 0 [97, 98, 99] = 1 := by decide +kernel
  have e2 : P.endN 1 1 3 0 [98, 99] = 1 := by decide +kernel
  have e3 : P.endN 1 1 3 0 [99] = 1 := by decide +kernel
  have h3 := P.Cuts.cons (W := 1) (m := 1) (M := 3) (mask := 0) (l := [99]) (by simp) (by rw [e3]; exact P.Cuts.nil)
  rw [e3] at h3
  have h2 := P.Cuts.cons (W := 1) (m := 1) (M := 3) (mask := 0) (l := [98, 99]) (by simp) (by rw [e2]; exact h3)
  rw [e2] at h2
  have h1 := P.Cuts.cons (W := 1) (m := 1) (M := 3) (mask := 0) (l := [97, 98, 99]) (by simp) (by rw [e1]; exact h2)
  rw [e1] at h1
  exact h1
theorem map_data_inj {a b : List ByteArray} (h : a.map (fun x => x.data.toList) = b.map (fun x => x.data.toList)) : a = b := by
  induction a generalizing b with
  | nil => cases b with | nil => rfl | cons y b => simp at h
  | cons x a ih =>
    cases b with
    | nil => simp at h
    | cons y b =>
      simp only [List.map_cons, List.cons.injEq] at h
      rw [WideShapes.bytes_inj h.1, ih h.2]

theorem own_form {w : World} {base : Nat} {e : TypeId} {size : Nat} {v : Value} {n : Nat} {xs : List Value} (h : w.ownsRow base e size v n xs) : ∃ A c, v = .slice A n c := by
  rcases h.2 with ⟨rfl, rfl⟩ | ⟨g, cap, cur, rfl, _⟩
  · exact ⟨none, 0, rfl⟩
  · exact ⟨_, cap, rfl⟩
theorem same_eq (A B : Option Addr) (n m c d : Nat) (xs ys : List ByteArray) (b : Bool) (w : World) (hn : xs.length = n) (hm : ys.length = m) (hx : n ≤ maxLen) (hy : m ≤ maxLen) (hq : eqL xs ys = b)
   (ha : RowAt w w.heap.size A (xs.map .string)) (hb : RowAt w w.heap.size B (ys.map .string)) :
    Calls Try.prog 12 #[.slice A n c, .slice B m d] w fun e w' => e = .returned (.bool b) ∧ ∃ k, w' = w.drewN k := by
  subst hn hm hq; exact same_any A B c d xs ys w hx hy ha hb

set_option maxHeartbeats 400000 in
theorem alive_any (w : World) : Calls Try.prog 9 #[] w fun e w' => e = .returned (.bool true) ∧ Below w.heap.size w w' := by
  have s1 : P.sm (⟨#[97, 98]⟩ : ByteArray).data.toList = 6768861 := by decide +kernel
  have S1 := Lib.hid s1
  clear s1
  go_enter Try.func9, Try.ntmps9
  go_wp2_with fail
  refine (cut_ok ⟨#[97, 98, 99]⟩ 1 1 3 0 _ (by decide) (by omega) (by omega) (by omega) (by omega) (by omega)).mono ?_
  rintro e w1 ⟨v, xs, rfl, own, hb, hc⟩
  have hx : xs = [⟨#[97]⟩, ⟨#[98]⟩, ⟨#[99]⟩] := map_data_inj (hc.det cuts_abc)
  subst hx
  clear hc
  obtain ⟨A, c, rfl⟩ := own_form own
  have OWN := Lib.hid own
  have HB := Lib.hid hb
  clear own hb
  go_wp2_with fail
  refine (sum_any _ _ (by decide)).mono ?_
  rintro e w' ⟨rfl, rfl⟩
  rw [S1.out]
  go_wp2_with fail
  refine (same_eq A _ 3 3 c _ [⟨#[97]⟩, ⟨#[98]⟩, ⟨#[99]⟩] [⟨#[97]⟩, ⟨#[98]⟩, ⟨#[99]⟩] true _ rfl rfl (by decide) (by decide) (by decide) ?h1 ?h2).mono ?_
  case h1 => exact ((RowAt.of_own OWN.out).below ((Below.refl _ _).alloc (Nat.le_refl _) _)).mono (by simp)
  case h2 =>
    refine .inr ⟨w1.heap.size, 0, rfl, by simp, fun j u hj => ?_⟩
    rw [Nat.zero_add]
    exact (Blk.new w1 9 #[.string ⟨#[97]⟩, .string ⟨#[98]⟩, .string ⟨#[99]⟩]).cell j (by simpa using hj)
  rintro e w2 ⟨rfl, k, rfl⟩
  go_wp2_with fail
  refine (check_any 0 0 0 0 _).mono ?_
  rintro e w3 ⟨rfl, hb3⟩
  rw [chk_no (by omega)]
  go_wp2
  go_ret
  exact ⟨rfl, (below_drewN (HB.out.alloc HB.out.size _) k).trans (hb3.mono (by have := HB.out.size; simp; omega))⟩
end Go.Proofs.Ytfnfkggnkjkapaa
