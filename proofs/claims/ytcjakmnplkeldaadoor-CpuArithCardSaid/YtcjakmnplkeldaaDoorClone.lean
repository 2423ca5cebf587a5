/-
  What slices.Clone of a row of texts does.
-/
import Derived.Test.YtcjakmnplkeldaaDoorRows
import Derived.Test.YtcjakmnplkeldaaDoorBase
namespace Go.Proofs.YtcjakmnplkeldaaDoor
open Go.RowKit
set_option linter.unusedVariables false
set_option linter.unusedSimpArgs false

theorem str_info : (Tryd.prog.info? 9).map (fun i => (i.zero, i.size, i.bytes)) = some (some (.string ⟨#[]⟩), 1, 16) := by kernel_rfl
theorem add_addr (b o j : Nat) : (⟨b, o, none⟩ : Addr).add j = ⟨b, o + j, none⟩ := by unfold Addr.add; split <;> simp_all

theorem cell_alloc_some {w : World} {p : Addr} {u : Value} {o : Obj} (h : w.cell? p = some u) : (w.alloc o).cell? p = some u := by
  have hb : p.block < w.heap.size := by
    rcases Nat.lt_or_ge p.block w.heap.size with hlt | hge
    · exact hlt
    · simp [World.cell?, Array.getElem?_eq_none hge] at h
  rw [World.cell?_alloc_lt w o p hb]; exact h

set_option maxHeartbeats 400000 in
theorem clone_any (A : Option Addr) (n c : Nat) (xs : List ByteArray) (w : World) (hn : xs.length = n) (hx : n ≤ 1000000) (h : RowAt w w.heap.size A (xs.map .string)) (h0 : A = none → n = 0 ∧ c = 0) :
    Calls Tryd.prog 22 #[.slice A n c] w fun e w' => ∃ v, e = .returned v ∧ w'.ownsRow w.heap.size 9 1 v n (xs.map .string) ∧ Below w.heap.size w w' := by
  obtain ⟨i0, hi, hz0, hz1, hz2⟩ := info_parts str_info
  cases A with
  | none =>
    obtain ⟨rfl, rfl⟩ := h0 rfl
    have hxs : xs = [] := List.eq_nil_of_length_eq_zero hn
    subst hxs
    have hne := fun W => Lib.run_eql_slice_nil (P := Tryd.prog) W
    clear hx h hn h0 hi hz0 hz1 hz2
    go_enter Tryd.func22, Tryd.ntmps22
    go_wp2
    go_ret
    exact ⟨_, rfl, ⟨rfl, .inl ⟨rfl, rfl⟩⟩, Below.refl _ _⟩
  | some ad =>
    have hne := fun W => Lib.run_eql_slice_nil (P := Tryd.prog) W
    have HC : Hid (∀ (j : Nat) (u : Value), (xs.map Value.string)[j]? = some u → w.cell? (ad.add j) = some u) := by
      intro j u hu
      rcases h with h | ⟨b, o, hA, hb, hc⟩
      · rw [h] at hu; simp at hu
      · cases hA; rw [add_addr]; exact hc j u hu
    have HX := Lib.hid hn
    clear h h0 hn
    go_enter Tryd.func22, Tryd.ntmps22
    go_wp2_with (first | (at_builtin; refine wpList_append_own _ rfl (.tmp 5) (.tmp 6) _ rfl w.heap.size 9 i0 (.string ⟨#[]⟩) 1 16 Tryd.underlying30 hi hz0 hz1 hz2 rfl (by decide) _ 0 [] rfl ?c0 ad n c (xs.map .string) rfl ?c6 ?c1 ?c2 ?c3 ?c4 ?c5 ?_))
    case c0 => exact ⟨by simp, .inr ⟨w.heap.size, 0, #[], rfl, Nat.le_refl _, heap_alloc_new w _, Nat.le_refl _, by unfold maxLen; omega, rfl, rfl⟩⟩
    case c6 => simp [HX.out]
    case c1 => exact fun j u hu => cell_alloc_some (HC.out j u hu)
    case c2 => intro u hu; simp at hu; obtain ⟨x, _, rfl⟩ := hu; rfl
    case c3 => unfold maxLen; omega
    case c4 => omega
    case c5 => simp
    intro v' w3 hown' hgrow _
    go_wp2
    go_ret
    exact ⟨_, rfl, by simpa using hown', ((Below.refl _ _).alloc (Nat.le_refl _) _).grown hgrow (by simp) (by intro k hk; simp [Value.ownBlock] at hk; omega)⟩
end Go.Proofs.YtcjakmnplkeldaaDoor
