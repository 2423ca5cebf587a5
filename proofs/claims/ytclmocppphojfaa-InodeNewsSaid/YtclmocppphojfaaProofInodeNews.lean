/-
  InodeNews: whatever is taken, of any volume, or the error, is the document's, one behind the other, as long as there is room. No condition.
-/
import Derived.Test.YtclmocppphojfaaOpenInts
import Derived.Test.YtclmocppphojfaaLawInoNewsAll
namespace Go.Proofs.Ytclmocppphojfaa.inodeNews
open Go.ChangeShapes Go.WideShapes Go.ChangeAt Go.RowKit
open Go.ChangeMaps (open_string shut_string)
set_option linter.unusedVariables false
set_option linter.unusedSimpArgs false

theorem cells_int : Try.prog.cellsOf 3 = 1 := by kernel_rfl
set_option maxRecDepth 100000 in
theorem lifted (os : Os) (started : os.Started) (H : Type) (enc : TypeId × Value → H) :
    ReturnsInHanded {} Try.checked os 7 .any (Rows.inodeNewsSpec.pre6 enc Try.prog Try.f7 Rows.inodeNewsRow.domain false) (Rows.inodeNewsSpec.post enc Try.prog Try.f7 false true false false) := by
  refine returnsInHanded_of_change_sized (C := Try.checked) own started (by kernel_rfl) Try.func7
    (ChangeSpec.witness6 (enc := enc) (C := Try.checked) false ⟨#[], #[.slice none 0 0, .slice none 0 0, .slice none 0 0], []⟩ 8 (by kernel_rfl) (by kernel_rfl) (by kernel_rfl) (by kernel_rfl)) ?_
  intro W base args ds gs before hval0 hW hcnd hsz0 _
  have hval : ∀ (j : Nat) t v, Try.f7.params[j]? = some t → args[j]? = some v → Value.okWide Try.prog W .any base t v := hval0
  have hW' := hW
  obtain ⟨p, q, hA0, hV, rfl, hfz, hnd⟩ := hW
  have hA : DataW.TrodAll enc Try.prog W 0 (fun _ => true) true Try.f7.params.toList args.toList ds p := hA0
  have hsz : (DataW.weightsEach Try.prog (Try.f7.params.toList ++ Rows.inodeNewsSpec.plain.varTypes Try.prog) (ds ++ gs)).all (· ≤ reachBytes) = true := hsz0
  rw [Try.params7] at hA hval hsz
  obtain ⟨v0, vs0, d0, ds0, p0, q0, hargs, rfl, rfl, h0, r0⟩ := trodAll_cons hA
  obtain ⟨v1, vs1, d1, ds1, p1, q1, rfl, rfl, rfl, h1, r1⟩ := trodAll_cons r0
  obtain ⟨v2, vs2, d2, ds2, p2, q2, rfl, rfl, rfl, h2, r2⟩ := trodAll_cons r1
  obtain ⟨rfl, rfl, rfl⟩ := trodAll_nil r2
  obtain rfl : args = #[v0, v1, v2] := by cases args; simp_all
  obtain ⟨rfl, rfl⟩ := trodVars_none hV
  have q0 := h0
  obtain ⟨A0, c0, xs0, rfl, ro0, le0, we0⟩ := open_rows Try.underlying28 Try.underlying9 cells_str (hval 0 28 v0 rfl rfl) h0
  have sz0 : ∀ s ∈ xs0, s.size ≤ 140737488355328 := fun s hs => by
    have := List.all_eq_true.1 hsz _ (DataW.weights_mem_each (j := 0) (t := 28) rfl rfl _ (we0 s hs))
    have := of_decide_eq_true this
    have h2 := reachBytes_lt
    omega
  obtain ⟨A1, c1, zs1, rfl, ro1, le1, we1⟩ := open_int_row Try.underlying42 Try.underlying3 cells_int (hval 1 42 v1 rfl rfl) h1
  obtain ⟨A2, c2, zs2, rfl, ro2, le2, we2⟩ := open_int_row Try.underlying42 Try.underlying3 cells_int (hval 2 42 v2 rfl rfl) h2
  exact (law_news A0 c0 xs0 A1 c1 zs1 A2 c2 zs2 W le0 sz0 ro0 le1 le2 ro1 ro2).mono fun e W2 ⟨he, hb⟩ =>
    ⟨_, he, law_post laidOut (by kernel_rfl) (by kernel_rfl) Try.underlying4 rfl hW' ⟨rfl, rfl, rfl⟩ hb⟩

theorem over : Rows.inodeNewsRow.holds Try.pinned (OpenSpec.ofChange Rows.inodeNewsSpec) :=
  OpenClaim.holds_of_wide 7 Try.f7 rfl rfl rfl rfl rfl rfl rfl ⟨rfl, rfl, rfl, rfl, rfl⟩ rfl rfl rfl rfl rfl (by kernel_rfl) Try.func7 (by kernel_rfl)
    (of_decide_eq_true (by kernel_rfl)) (by unfold Func.isWrapper; first | (rw [if_pos (by decide +kernel)]; kernel_rfl) | (rw [if_neg (by decide +kernel)]; exact ⟨rfl, rfl⟩))
    (fun os started H enc _ => lifted os started H enc)

theorem proved : Rows.InodeNewsSaid := over
#print axioms proved
end Go.Proofs.Ytclmocppphojfaa.inodeNews
