/-
  ExtentPlays: whatever is written and cut on any volume, each answer is the document's. No condition.
-/
import Derived.Test.YtjmafegckfijbaaLawExtPlaysAll
namespace Go.Proofs.Ytjmafegckfijbaa.extentPlays
open Go.ChangeShapes Go.WideShapes Go.ChangeAt Go.RowKit
open Go.ChangeMaps (open_string shut_string)
set_option linter.unusedVariables false
set_option linter.unusedSimpArgs false

set_option maxRecDepth 100000 in
theorem lifted (os : Os) (started : os.Started) (H : Type) (enc : TypeId × Value → H) :
    ReturnsInHanded {} Try.checked os 8 .any (Rows.extentPlaysSpec.pre6 enc Try.prog Try.f8 Rows.extentPlaysRow.domain false) (Rows.extentPlaysSpec.post enc Try.prog Try.f8 false true false false) := by
  refine returnsInHanded_of_change_sized (C := Try.checked) own started (by kernel_rfl) Try.func8
    (ChangeSpec.witness6 (enc := enc) (C := Try.checked) false ⟨#[], #[.slice none 0 0, .slice none 0 0], []⟩ 8 (by kernel_rfl) (by kernel_rfl) (by kernel_rfl) (by kernel_rfl)) ?_
  intro W base args ds gs before hval0 hW hcnd hsz0 _
  have hval : ∀ (j : Nat) t v, Try.f8.params[j]? = some t → args[j]? = some v → Value.okWide Try.prog W .any base t v := hval0
  have hW' := hW
  obtain ⟨p, q, hA0, hV, rfl, hfz, hnd⟩ := hW
  have hA : DataW.TrodAll enc Try.prog W 0 (fun _ => true) true Try.f8.params.toList args.toList ds p := hA0
  have hsz : (DataW.weightsEach Try.prog (Try.f8.params.toList ++ Rows.extentPlaysSpec.plain.varTypes Try.prog) (ds ++ gs)).all (· ≤ reachBytes) = true := hsz0
  rw [Try.params8] at hA hval hsz
  obtain ⟨v0, vs0, d0, ds0, p0, q0, hargs, rfl, rfl, h0, r0⟩ := trodAll_cons hA
  obtain ⟨v1, vs1, d1, ds1, p1, q1, rfl, rfl, rfl, h1, r1⟩ := trodAll_cons r0
  obtain ⟨rfl, rfl, rfl⟩ := trodAll_nil r1
  obtain rfl : args = #[v0, v1] := by cases args; simp_all
  obtain ⟨rfl, rfl⟩ := trodVars_none hV
  have q0 := h0
  obtain ⟨A0, c0, xs0, rfl, ro0, le0, we0⟩ := open_rows Try.underlying22 Try.underlying9 cells_str (hval 0 22 v0 rfl rfl) h0
  have sz0 : ∀ s ∈ xs0, s.size ≤ 140737488355328 := fun s hs => by
    have := List.all_eq_true.1 hsz _ (DataW.weights_mem_each (j := 0) (t := 22) rfl rfl _ (we0 s hs))
    have := of_decide_eq_true this
    have h2 := reachBytes_lt
    omega
  obtain ⟨A1, c1, l1, rfl, ro1, le1, we1⟩ := open_acts (hval 1 52 v1 rfl rfl) h1
  have sz1 : ∀ a ∈ l1, ActOk a ∧ a.data.size ≤ 140737488355328 := fun a ha => by
    have := List.all_eq_true.1 hsz _ (DataW.weights_mem_each (j := 1) (t := 52) rfl rfl _ (we1 a ha).2)
    have := of_decide_eq_true this
    have h2 := reachBytes_lt
    exact ⟨(we1 a ha).1, by omega⟩
  exact (law_plays A0 c0 xs0 A1 c1 l1 W le0 sz0 le1 sz1 ro0 ro1).mono fun e W2 ⟨he, hb⟩ =>
    ⟨_, he, law_post laidOut (by kernel_rfl) (by kernel_rfl) Try.underlying4 rfl hW' ⟨rfl, rfl, rfl⟩ hb⟩

theorem over : Rows.extentPlaysRow.holds Try.pinned (OpenSpec.ofChange Rows.extentPlaysSpec) :=
  OpenClaim.holds_of_wide 8 Try.f8 rfl rfl rfl rfl rfl rfl rfl ⟨rfl, rfl, rfl, rfl, rfl⟩ rfl rfl rfl rfl rfl (by kernel_rfl) Try.func8 (by kernel_rfl)
    (of_decide_eq_true (by kernel_rfl)) (by unfold Func.isWrapper; first | (rw [if_pos (by decide +kernel)]; kernel_rfl) | (rw [if_neg (by decide +kernel)]; exact ⟨rfl, rfl⟩))
    (fun os started H enc _ => lifted os started H enc)

theorem proved : Rows.ExtentPlaysSaid := over
#print axioms proved
end Go.Proofs.Ytjmafegckfijbaa.extentPlays
