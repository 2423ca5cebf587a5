/-
  QuotaChecked: a volume on which nobody has more than may be is one still, whatever limit is set with OK; so Check finds nothing behind any row of limits on a volume without any. No condition.
-/
import Derived.Test.YtjmafegckfijbaaLawQuoChk
namespace Go.Proofs.Ytjmafegckfijbaa.quotaChecked
open Go.ChangeShapes Go.WideShapes Go.ChangeAt Go.RowKit
open Go.ChangeMaps (open_string shut_string)
set_option linter.unusedVariables false
set_option linter.unusedSimpArgs false

theorem wf_u16 {z : Int} (h : (Lit.int .u16 z).wf = true) : ∃ n : Nat, z = n ∧ n < 65536 := by
  simp [Lit.wf, IntKind.min, IntKind.max, IntKind.signed, IntKind.bits] at h
  exact ⟨z.toNat, by omega, by omega⟩
theorem cells_u8 : Try.prog.cellsOf 5 = 1 := by kernel_rfl
theorem cells_u16 : Try.prog.cellsOf 37 = 1 := by kernel_rfl
theorem in_u8 {z : Int} (h : (Lit.int .u8 z).wf = true) : 0 ≤ z ∧ z < 256 := by
  obtain ⟨n, rfl, h⟩ := wf_u8 h
  omega
theorem in_u16 {z : Int} (h : (Lit.int .u16 z).wf = true) : 0 ≤ z ∧ z < 65536 := by
  obtain ⟨n, rfl, h⟩ := wf_u16 h
  omega
set_option maxRecDepth 100000 in
theorem lifted (os : Os) (started : os.Started) (H : Type) (enc : TypeId × Value → H) :
    ReturnsInHanded {} Try.checked os 11 .any (Rows.quotaCheckedSpec.pre6 enc Try.prog Try.f11 Rows.quotaCheckedRow.domain false) (Rows.quotaCheckedSpec.post enc Try.prog Try.f11 false true false false) := by
  refine returnsInHanded_of_change_sized (C := Try.checked) own started (by kernel_rfl) Try.func11
    (ChangeSpec.witness6 (enc := enc) (C := Try.checked) false ⟨#[], #[.slice none 0 0, .slice none 0 0, .slice none 0 0], []⟩ 8 (by kernel_rfl) (by kernel_rfl) (by kernel_rfl) (by kernel_rfl)) ?_
  intro W base args ds gs before hval0 hW hcnd hsz0 _
  have hval : ∀ (j : Nat) t v, Try.f11.params[j]? = some t → args[j]? = some v → Value.okWide Try.prog W .any base t v := hval0
  have hW' := hW
  obtain ⟨p, q, hA0, hV, rfl, hfz, hnd⟩ := hW
  have hA : DataW.TrodAll enc Try.prog W 0 (fun _ => true) true Try.f11.params.toList args.toList ds p := hA0
  have hsz : (DataW.weightsEach Try.prog (Try.f11.params.toList ++ Rows.quotaCheckedSpec.plain.varTypes Try.prog) (ds ++ gs)).all (· ≤ reachBytes) = true := hsz0
  rw [Try.params11] at hA hval hsz
  obtain ⟨v0, vs0, d0, ds0, p0, q0, hargs, rfl, rfl, h0, r0⟩ := trodAll_cons hA
  obtain ⟨v1, vs1, d1, ds1, p1, q1, rfl, rfl, rfl, h1, r1⟩ := trodAll_cons r0
  obtain ⟨v2, vs2, d2, ds2, p2, q2, rfl, rfl, rfl, h2, r2⟩ := trodAll_cons r1
  obtain ⟨rfl, rfl, rfl⟩ := trodAll_nil r2
  obtain rfl : args = #[v0, v1, v2] := by cases args; simp_all
  obtain ⟨rfl, rfl⟩ := trodVars_none hV
  have q0 := h0
  obtain ⟨A0, c0, xs0, rfl, ro0, le0, we0⟩ := open_rows Try.underlying22 Try.underlying9 cells_str (hval 0 22 v0 rfl rfl) h0
  have sz0 : ∀ s ∈ xs0, s.size ≤ 140737488355328 := fun s hs => by
    have := List.all_eq_true.1 hsz _ (DataW.weights_mem_each (j := 0) (t := 22) rfl rfl _ (we0 s hs))
    have := of_decide_eq_true this
    have h2 := reachBytes_lt
    omega
  obtain ⟨A1, c1, zs1, rfl, ro1, le1, we1⟩ := open_int_row Try.underlying62 Try.underlying5 cells_u8 (hval 1 62 v1 rfl rfl) h1
  obtain ⟨A2, c2, zs2, rfl, ro2, le2, we2⟩ := open_int_row Try.underlying63 Try.underlying37 cells_u16 (hval 2 63 v2 rfl rfl) h2
  exact (law_chk A0 c0 xs0 A1 c1 zs1 A2 c2 zs2 W le0 sz0 (fun z hz => in_u8 (we1 z hz)) (fun z hz => in_u16 (we2 z hz)) le1 le2 ro0 ro1 ro2).mono fun e W2 ⟨he, hb⟩ =>
    ⟨_, he, law_post laidOut (by kernel_rfl) (by kernel_rfl) Try.underlying4 rfl hW' ⟨rfl, rfl, rfl⟩ hb⟩

theorem over : Rows.quotaCheckedRow.holds Try.pinned (OpenSpec.ofChange Rows.quotaCheckedSpec) :=
  OpenClaim.holds_of_wide 11 Try.f11 rfl rfl rfl rfl rfl rfl rfl ⟨rfl, rfl, rfl, rfl, rfl⟩ rfl rfl rfl rfl rfl (by kernel_rfl) Try.func11 (by kernel_rfl)
    (of_decide_eq_true (by kernel_rfl)) (by unfold Func.isWrapper; first | (rw [if_pos (by decide +kernel)]; kernel_rfl) | (rw [if_neg (by decide +kernel)]; exact ⟨rfl, rfl⟩))
    (fun os started H enc _ => lifted os started H enc)

theorem proved : Rows.QuotaCheckedSaid := over
#print axioms proved
end Go.Proofs.Ytjmafegckfijbaa.quotaChecked
