/-
  RollTails: two data that end alike, and are both cut at one place of that, have all chunks behind it in common, for any data and any cuts. No condition.
-/
import Derived.Test.YtfnfkggnkjkapaaShellTwo
import Derived.Test.YtfnfkggnkjkapaaLawTails
namespace Go.Proofs.Ytfnfkggnkjkapaa.rollTails
open Go.ChangeShapes Go.WideShapes Go.ChangeAt Go.RowKit
open Go.ChangeMaps (open_string shut_string)
set_option linter.unusedVariables false
set_option linter.unusedSimpArgs false

set_option maxRecDepth 100000 in
theorem lifted (os : Os) (started : os.Started) (H : Type) (enc : TypeId × Value → H) :
    ReturnsInHanded {} Try.checked os 4 .any (Rows.rollTailsSpec.pre6 enc Try.prog Try.f4 Rows.rollTailsRow.domain false) (Rows.rollTailsSpec.post enc Try.prog Try.f4 false true false false) := by
  refine returnsInHanded_of_change_sized (C := Try.checked) own started (by kernel_rfl) Try.func4
    (ChangeSpec.witness6 (enc := enc) (C := Try.checked) false ⟨#[], #[.agg #[.string ByteArray.empty, .string ByteArray.empty], .string ByteArray.empty, .agg #[.int .i64 0, .int .i64 0, .int .i64 0, .int .u32 0]], []⟩ 8 (by kernel_rfl) (by kernel_rfl) (by kernel_rfl) (by kernel_rfl)) ?_
  intro W base args ds gs before hval0 hW hcnd hsz0 _
  have hval : ∀ (j : Nat) t v, Try.f4.params[j]? = some t → args[j]? = some v → Value.okWide Try.prog W .any base t v := hval0
  have hW' := hW
  obtain ⟨p, q, hA0, hV, rfl, hfz, hnd⟩ := hW
  have hA : DataW.TrodAll enc Try.prog W 0 (fun _ => true) true Try.f4.params.toList args.toList ds p := hA0
  have hsz : (DataW.weightsEach Try.prog (Try.f4.params.toList ++ Rows.rollTailsSpec.plain.varTypes Try.prog) (ds ++ gs)).all (· ≤ reachBytes) = true := hsz0
  rw [Try.params4] at hA hval hsz
  obtain ⟨v0, vs0, d0, ds0, p0, q0, hargs, rfl, rfl, h0, r0⟩ := trodAll_cons hA
  obtain ⟨v1, vs1, d1, ds1, p1, q1, rfl, rfl, rfl, h1, r1⟩ := trodAll_cons r0
  obtain ⟨v2, vs2, d2, ds2, p2, q2, rfl, rfl, rfl, h2, r2⟩ := trodAll_cons r1
  obtain ⟨rfl, rfl, rfl⟩ := trodAll_nil r2
  obtain rfl : args = #[v0, v1, v2] := by cases args; simp_all
  obtain ⟨rfl, rfl⟩ := trodVars_none hV
  obtain ⟨f0, g0, rfl, rfl⟩ := open_two (hval 0 34 v0 rfl rfl) h0
  have hsf : f0.size ≤ 140737488351232 ∧ g0.size ≤ 140737488351232 := by
    have s1 := List.all_eq_true.1 hsz _ (DataW.weights_mem_each (j := 0) (t := 34) rfl rfl f0.data.toList.length (by simp [DataW.weights, Try.underlying34, DataW.weightsAll]))
    have s2 := List.all_eq_true.1 hsz _ (DataW.weights_mem_each (j := 0) (t := 34) rfl rfl g0.data.toList.length (by simp [DataW.weights, Try.underlying34, DataW.weightsAll]))
    simp [reachBytes] at s1 s2
    exact ⟨of_decide_eq_true s1, of_decide_eq_true s2⟩
  obtain ⟨a1, rfl, rfl, rfl, w1⟩ := open_string Try.underlying9 (hval 1 9 v1 rfl rfl) h1
  have hs1 : a1.size ≤ 140737488351232 := by
    have s1 := sized_string hsz (j := 1) (t := 9) rfl rfl
    simpa [reachBytes] using s1
  obtain ⟨W2, m2, M2, k2, rfl⟩ := open_cuts (hval 2 24 v2 rfl rfl) h2
  exact (law_tails f0 g0 a1 W2 m2 M2 k2 W hsf.1 hsf.2 hs1).mono fun e W2 ⟨he, hb⟩ =>
    ⟨_, he, law_post laidOut (by kernel_rfl) (by kernel_rfl) Try.underlying4 rfl hW' ⟨rfl, rfl, rfl⟩ hb⟩

theorem over : Rows.rollTailsRow.holds Try.pinned (OpenSpec.ofChange Rows.rollTailsSpec) :=
  OpenClaim.holds_of_wide 4 Try.f4 rfl rfl rfl rfl rfl rfl rfl ⟨rfl, rfl, rfl, rfl, rfl⟩ rfl rfl rfl rfl rfl (by kernel_rfl) Try.func4 (by kernel_rfl)
    (of_decide_eq_true (by kernel_rfl)) (by unfold Func.isWrapper; first | (rw [if_pos (by decide +kernel)]; kernel_rfl) | (rw [if_neg (by decide +kernel)]; exact ⟨rfl, rfl⟩))
    (fun os started H enc _ => lifted os started H enc)

theorem proved : Rows.RollTailsSaid := over
#print axioms proved
end Go.Proofs.Ytfnfkggnkjkapaa.rollTails
