/-
  GeomApart: nothing else is touched: a block that is taken is zeros; all others but the map are as they were; what is given back is no longer taken, and all others are as they were. No condition.
-/
import Derived.Test.YtclmocppphojfaaOpenInts
import Derived.Test.YtclmocppphojfaaLawGeomApart
namespace Go.Proofs.Ytclmocppphojfaa.geomApart
open Go.ChangeShapes Go.WideShapes Go.ChangeAt Go.RowKit
open Go.ChangeMaps (open_string shut_string)
set_option linter.unusedVariables false
set_option linter.unusedSimpArgs false

theorem cells_u8 : Try.prog.cellsOf 5 = 1 := by kernel_rfl
theorem cells_two8 : Try.prog.cellsOf 39 = 2 := by kernel_rfl
theorem cells_i16 : Try.prog.cellsOf 70 = 1 := by kernel_rfl
set_option maxRecDepth 100000 in
theorem lifted (os : Os) (started : os.Started) (H : Type) (enc : TypeId × Value → H) :
    ReturnsInHanded {} Try.checked os 6 .any (Rows.geomApartSpec.pre6 enc Try.prog Try.f6 Rows.geomApartRow.domain false) (Rows.geomApartSpec.post enc Try.prog Try.f6 false true false false) := by
  refine returnsInHanded_of_change (C := Try.checked) own started (by kernel_rfl) Try.func6
    (ChangeSpec.witness6 (enc := enc) (C := Try.checked) false ⟨#[], #[.agg #[.int .u8 0, .int .u8 0], .slice none 0 0, .string ByteArray.empty], []⟩ 8 (by kernel_rfl) (by kernel_rfl) (by kernel_rfl) (by kernel_rfl)) ?_
  intro W base args ds gs before hval0 hW hcnd _
  have hval : ∀ (j : Nat) t v, Try.f6.params[j]? = some t → args[j]? = some v → Value.okWide Try.prog W .any base t v := hval0
  have hW' := hW
  obtain ⟨p, q, hA0, hV, rfl, hfz, hnd⟩ := hW
  have hA : DataW.TrodAll enc Try.prog W 0 (fun _ => true) true Try.f6.params.toList args.toList ds p := hA0
  rw [Try.params6] at hA hval
  obtain ⟨v0, vs0, d0, ds0, p0, q0, hargs, rfl, rfl, h0, r0⟩ := trodAll_cons hA
  obtain ⟨v1, vs1, d1, ds1, p1, q1, rfl, rfl, rfl, h1, r1⟩ := trodAll_cons r0
  obtain ⟨v2, vs2, d2, ds2, p2, q2, rfl, rfl, rfl, h2, r2⟩ := trodAll_cons r1
  obtain ⟨rfl, rfl, rfl⟩ := trodAll_nil r2
  obtain rfl : args = #[v0, v1, v2] := by cases args; simp_all
  obtain ⟨rfl, rfl⟩ := trodVars_none hV
  obtain ⟨cs0, rfl, sz0, ea0⟩ := open_int_array Try.underlying39 Try.underlying5 cells_u8 (hval 0 39 v0 rfl rfl) h0
  obtain ⟨x0, y0, rfl⟩ := size2 (sz0.trans cells_two8)
  obtain ⟨z0, e0, f0⟩ := ea0 0 (by omega)
  obtain ⟨y0, i0, g0⟩ := ea0 1 (by omega)
  obtain ⟨n0, rfl, ln0⟩ := wf_u8 f0
  obtain ⟨m0, rfl, lm0⟩ := wf_u8 g0
  simp at e0 i0
  subst e0 i0
  obtain ⟨A1, c1, zs1, rfl, ro1, le1, we1⟩ := open_int_row Try.underlying40 Try.underlying70 cells_i16 (hval 1 40 v1 rfl rfl) h1
  obtain ⟨a2, rfl, rfl, rfl, w2⟩ := open_string Try.underlying9 (hval 2 9 v2 rfl rfl) h2
  exact (law_apart n0 m0 A1 c1 zs1 a2 W ln0 lm0 (fun z hz => wf_i16 (we1 z hz)) ro1 (by first | exact w2 | (unfold maxLen at w2; omega))).mono fun e W2 ⟨he, hb⟩ =>
    ⟨_, he, law_post laidOut (by kernel_rfl) (by kernel_rfl) Try.underlying4 rfl hW' ⟨rfl, rfl, rfl⟩ hb⟩

theorem over : Rows.geomApartRow.holds Try.pinned (OpenSpec.ofChange Rows.geomApartSpec) :=
  OpenClaim.holds_of_wide 6 Try.f6 rfl rfl rfl rfl rfl rfl rfl ⟨rfl, rfl, rfl, rfl, rfl⟩ rfl rfl rfl rfl rfl (by kernel_rfl) Try.func6 (by kernel_rfl)
    (of_decide_eq_true (by kernel_rfl)) (by unfold Func.isWrapper; first | (rw [if_pos (by decide +kernel)]; kernel_rfl) | (rw [if_neg (by decide +kernel)]; exact ⟨rfl, rfl⟩))
    (fun os started H enc _ => lifted os started H enc)

theorem proved : Rows.GeomApartSaid := over
#print axioms proved
end Go.Proofs.Ytclmocppphojfaa.geomApart
