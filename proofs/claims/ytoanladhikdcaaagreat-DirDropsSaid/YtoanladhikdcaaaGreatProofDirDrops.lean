/-
  DirDrops: the volume in which any name is taken out of any directory, or the error, is the document's. No condition.
-/
import Derived.Test.YtoanladhikdcaaaGreatLawDirDropsAll
namespace Go.Proofs.YtoanladhikdcaaaGreat.dirDrops
open Go.ChangeShapes Go.WideShapes Go.ChangeAt Go.RowKit
open Go.ChangeMaps (open_string shut_string)
set_option linter.unusedVariables false
set_option linter.unusedSimpArgs false

set_option maxRecDepth 100000 in
theorem lifted (os : Os) (started : os.Started) (H : Type) (enc : TypeId × Value → H) :
    ReturnsInHanded {} Tryz.checked os 3 .any (Rows.dirDropsSpec.pre6 enc Tryz.prog Tryz.f3 Rows.dirDropsRow.domain false) (Rows.dirDropsSpec.post enc Tryz.prog Tryz.f3 false true false false) := by
  refine returnsInHanded_of_change_sized (C := Tryz.checked) own started (by kernel_rfl) Tryz.func3
    (ChangeSpec.witness6 (enc := enc) (C := Tryz.checked) false ⟨#[], #[.slice none 0 0, .int .i64 0, .string ByteArray.empty], []⟩ 8 (by kernel_rfl) (by kernel_rfl) (by kernel_rfl) (by kernel_rfl)) ?_
  intro W base args ds gs before hval0 hW hcnd hsz0 _
  have hval : ∀ (j : Nat) t v, Tryz.f3.params[j]? = some t → args[j]? = some v → Value.okWide Tryz.prog W .any base t v := hval0
  have hW' := hW
  obtain ⟨p, q, hA0, hV, rfl, hfz, hnd⟩ := hW
  have hA : DataW.TrodAll enc Tryz.prog W 0 (fun _ => true) true Tryz.f3.params.toList args.toList ds p := hA0
  have hsz : (DataW.weightsEach Tryz.prog (Tryz.f3.params.toList ++ Rows.dirDropsSpec.plain.varTypes Tryz.prog) (ds ++ gs)).all (· ≤ reachBytes) = true := hsz0
  rw [Tryz.params3] at hA hval hsz
  obtain ⟨v0, vs0, d0, ds0, p0, q0, hargs, rfl, rfl, h0, r0⟩ := trodAll_cons hA
  obtain ⟨v1, vs1, d1, ds1, p1, q1, rfl, rfl, rfl, h1, r1⟩ := trodAll_cons r0
  obtain ⟨v2, vs2, d2, ds2, p2, q2, rfl, rfl, rfl, h2, r2⟩ := trodAll_cons r1
  obtain ⟨rfl, rfl, rfl⟩ := trodAll_nil r2
  obtain rfl : args = #[v0, v1, v2] := by cases args; simp_all
  obtain ⟨rfl, rfl⟩ := trodVars_none hV
  have q0 := h0
  obtain ⟨A0, c0, xs0, rfl, ro0, le0, we0⟩ := open_rows Tryz.underlying22 Tryz.underlying9 cells_str (hval 0 22 v0 rfl rfl) h0
  have sz0 : ∀ s ∈ xs0, s.size ≤ 140737488355328 := fun s hs => by
    have := List.all_eq_true.1 hsz _ (DataW.weights_mem_each (j := 0) (t := 22) rfl rfl _ (we0 s hs))
    have := of_decide_eq_true this
    have h2 := reachBytes_lt
    omega
  obtain ⟨a1, rfl, rfl, rfl, w1⟩ := open_int Tryz.underlying3 (hval 1 3 v1 rfl rfl) h1
  obtain ⟨a2, rfl, rfl, rfl, w2⟩ := open_string Tryz.underlying9 (hval 2 9 v2 rfl rfl) h2
  have sz2 : a2.size ≤ 140737488355328 := by
    have h5 := List.all_eq_true.1 hsz _ (DataW.weights_mem_each (j := 2) (t := 9) rfl rfl a2.data.toList.length (by simp [DataW.weights]))
    have h5 := of_decide_eq_true h5
    have h6 := reachBytes_lt
    have h7 : a2.data.toList.length = a2.size := by rw [Array.length_toList]; rfl
    omega
  exact (law_drops A0 c0 xs0 a1 a2 W le0 sz0 sz2 ro0).mono fun e W2 ⟨he, hb⟩ =>
    ⟨_, he, law_post laidOut (by kernel_rfl) (by kernel_rfl) Tryz.underlying4 rfl hW' ⟨rfl, rfl, rfl⟩ hb⟩

theorem over : Rows.dirDropsRow.holds Tryz.pinned (OpenSpec.ofChange Rows.dirDropsSpec) :=
  OpenClaim.holds_of_wide 3 Tryz.f3 rfl rfl rfl rfl rfl rfl rfl ⟨rfl, rfl, rfl, rfl, rfl⟩ rfl rfl rfl rfl rfl (by kernel_rfl) Tryz.func3 (by kernel_rfl)
    (of_decide_eq_true (by kernel_rfl)) (by unfold Func.isWrapper; first | (rw [if_pos (by decide +kernel)]; kernel_rfl) | (rw [if_neg (by decide +kernel)]; exact ⟨rfl, rfl⟩))
    (fun os started H enc _ => lifted os started H enc)

theorem proved : Rows.DirDropsSaid := over
#print axioms proved
end Go.Proofs.YtoanladhikdcaaaGreat.dirDrops
