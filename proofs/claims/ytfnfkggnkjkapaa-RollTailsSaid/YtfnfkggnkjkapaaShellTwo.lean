/-
  Two texts in an array, as they come in.
-/
import Derived.Test.YtfnfkggnkjkapaaShell
import Derived.SizedLaws
namespace Go.Proofs.Ytfnfkggnkjkapaa
open Go.ChangeShapes Go.WideShapes Go.ChangeAt Go.RowKit
set_option linter.unusedVariables false
set_option linter.unusedSimpArgs false

theorem okWide_arr {P : Program} {w : World} {r : Reach} {base : Nat} {t e : TypeId} {n : Nat} {v : Value} (ht : P.underlying t = some (.array n e)) (h : Value.okWide P w r base t v) : ∃ cs, v = .agg cs ∧ cs.size = P.cellsOf t := by
  simp only [Value.okWide, ht] at h
  obtain ⟨cs, h1, h2, _⟩ := h
  exact ⟨cs, h1, h2⟩
theorem cells9 : Try.prog.cellsOf 9 = 1 := by kernel_rfl
theorem cells34 : Try.prog.cellsOf 34 = 2 := by kernel_rfl
theorem open_two {H : Type} {enc : TypeId × Value → H} {W : World} {r : Reach} {base b0 : Nat} {spare : Nat → Bool} {held : Bool} {v : Value} {d : DataW H} {p : List MemPlace}
    (hv : Value.okWide Try.prog W r b0 34 v) (h : DataW.Trod enc Try.prog W base spare held 34 v d p) :
    ∃ a b : ByteArray, v = .agg #[.string a, .string b] ∧ d = .agg [.lit (.string a.data.toList), .lit (.string b.data.toList)] := by
  obtain ⟨cs, rfl, hsz⟩ := okWide_arr Try.underlying34 hv
  rw [cells34] at hsz
  obtain ⟨fuel, hf⟩ := h
  obtain ⟨xs, m, _, hx, _, hlen, hg⟩ := DataW.trod_array Try.underlying34 hf
  obtain ⟨l⟩ := cs
  match l, hsz with
  | [c0, c1], _ =>
    match xs, hlen with
    | [y0, y1], _ =>
      have h0 := hg 0 (by omega)
      have h1 := hg 1 (by omega)
      rw [cells9] at h0 h1
      simp [Value.cells] at h0 h1
      obtain ⟨a, e0, rfl, _⟩ := DataW.trod_string Try.underlying9 h0
      obtain ⟨b, e1, rfl, _⟩ := DataW.trod_string Try.underlying9 h1
      simp at e0 e1
      subst e0 e1
      simp only [Prod.mk.injEq] at hx
      exact ⟨a, b, rfl, by simpa using hx.1⟩
end Go.Proofs.Ytfnfkggnkjkapaa
