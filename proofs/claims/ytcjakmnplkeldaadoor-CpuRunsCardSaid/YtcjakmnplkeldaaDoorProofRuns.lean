/-
  CpuRuns: so many steps, one behind the other, as long as they run: each is the document's. No condition.
-/
import Derived.Test.YtcjakmnplkeldaaDoorCpuLaid
import Derived.Test.YtcjakmnplkeldaaDoorOpenCpu
import Derived.Test.YtcjakmnplkeldaaDoorLawRuns
namespace Go.Proofs.YtcjakmnplkeldaaDoor.cpuRuns
open Go.ChangeShapes Go.WideShapes Go.ChangeAt Go.RowKit
open Go.ChangeMaps (open_string shut_string)
set_option linter.unusedVariables false
set_option linter.unusedSimpArgs false

theorem cells_str : Tryd.prog.cellsOf 9 = 1 := by kernel_rfl
theorem reads (os : Os) {H : Type} (enc : TypeId × Value → H) : ∃ places, DataW.whole enc Tryd.prog ((laidWorld os).forCall (fun _ _ => 0) ⟨#[], #[.agg (cpuC (List.replicate 16 0) 0), .agg (pteL (List.replicate 16 ⟨false, false, 0⟩)).toArray, .slice none 0 0, .int .u8 0], []⟩).memory Tryd.f4.params.toList Rows.cpuRunsSpec.vars false (#[.agg (cpuC (List.replicate 16 0) 0), .agg (pteL (List.replicate 16 ⟨false, false, 0⟩)).toArray, .slice none 0 0, .int .u8 0] : Array Value).toList 8 = some ([.agg [.agg (List.replicate 16 (.lit (.int .u32 0))), .lit (.int .u32 0)], .agg (List.replicate 16 (.agg [.lit (.bool false), .lit (.bool false), .lit (.int .i64 0)])), .nil, .lit (.int .u8 0)], [], places) :=
  ⟨[], by kernel_rfl⟩

set_option maxRecDepth 100000 in
theorem lifted (os : Os) (started : os.Started) (H : Type) (enc : TypeId × Value → H) (F : Stop.Interp) :
    ReturnsInHanded {} Tryd.checked os 4 .any ((OpenSpec.ofChange Rows.cpuRunsSpec).preRow enc Tryd.prog Tryd.f4 Rows.cpuRunsRow.domain false Rows.cpuRunsRow.laid) (((OpenSpec.ofChange Rows.cpuRunsSpec).at F).post enc Tryd.prog Tryd.f4 false true false false) := by
  obtain ⟨places, hx⟩ := reads os enc
  refine returnsInHanded_of_row (C := Tryd.checked) (s := OpenSpec.ofChange Rows.cpuRunsSpec) own started (by kernel_rfl) Tryd.func4
    (witness_row_at (enc := enc) (C := Tryd.checked) false (laidWorld os) #[.agg (cpuC (List.replicate 16 0) 0), .agg (pteL (List.replicate 16 ⟨false, false, 0⟩)).toArray, .slice none 0 0, .int .u8 0] (World.laidAll_os _ _ _) (by kernel_rfl) (by kernel_rfl) (by kernel_rfl)
      (OpenSpec.preRow_of_cond 8 hx (by kernel_rfl) (fun k hk => by cases hk) (by kernel_rfl) (laid_met os _))) ?_
  intro W base args ds gs before hval0 hW _ _ hsz0 hL _ _
  have hval : ∀ (j : Nat) t v, Tryd.f4.params[j]? = some t → args[j]? = some v → Value.okWide Tryd.prog W .any base t v := hval0
  have hW' := hW
  obtain ⟨p, q, hA0, hV, rfl, hfz, hnd⟩ := hW
  have hA : DataW.TrodAll enc Tryd.prog W 0 (fun _ => true) true Tryd.f4.params.toList args.toList ds p := hA0
  have hsz : (DataW.weightsEach Tryd.prog (Tryd.f4.params.toList ++ Rows.cpuRunsSpec.plain.varTypes Tryd.prog) (ds ++ gs)).all (· ≤ reachBytes) = true := hsz0
  rw [Tryd.params4] at hA hval hsz
  obtain ⟨v0, vs0, d0, ds0, p0, q0, hargs, rfl, rfl, h0, r0⟩ := trodAll_cons hA
  obtain ⟨v1, vs1, d1, ds1, p1, q1, rfl, rfl, rfl, h1, r1⟩ := trodAll_cons r0
  obtain ⟨v2, vs2, d2, ds2, p2, q2, rfl, rfl, rfl, h2, r2⟩ := trodAll_cons r1
  obtain ⟨v3, vs3, d3, ds3, p3, q3, rfl, rfl, rfl, h3, r3⟩ := trodAll_cons r2
  obtain ⟨rfl, rfl, rfl⟩ := trodAll_nil r3
  obtain rfl : args = #[v0, v1, v2, v3] := by cases args; simp_all
  obtain ⟨rfl, rfl⟩ := trodVars_none hV
  obtain ⟨R0, pc0, rfl, re0, pl0⟩ := open_cpu (hval 0 25 v0 rfl rfl) h0
  obtain ⟨l1, rfl, ll1⟩ := open_space (hval 1 29 v1 rfl rfl) h1
  have q2 := h2
  obtain ⟨A2, c2, xs2, rfl, ro2, le2, we2⟩ := open_rows Tryd.underlying30 Tryd.underlying9 cells_str (hval 2 30 v2 rfl rfl) h2
  have sz2 : ∀ s ∈ xs2, s.size ≤ 9223372036854775807 := fun s hs => by
    have := List.all_eq_true.1 hsz _ (DataW.weights_mem_each (j := 2) (t := 30) rfl rfl _ (we2 s hs))
    have := of_decide_eq_true this
    have h2 := reachBytes_lt
    omega
  have no2 : A2 = none → xs2.length = 0 ∧ c2 = 0 := fun e => by subst e; exact open_none Tryd.underlying30 Tryd.underlying9 cells_str q2
  obtain ⟨z3, rfl, rfl, rfl, w3⟩ := open_int Tryd.underlying5 (hval 3 5 v3 rfl rfl) h3
  obtain ⟨n3, rfl, hn3⟩ := wf_u8 w3
  have L := laid_of hL
  exact (law_runs R0 pc0 l1 A2 c2 xs2 n3 W L re0 pl0 ll1 le2 sz2 ro2 no2 hn3).mono fun e W2 ⟨he, hb⟩ =>
    ⟨_, he, law_post laidOut (by kernel_rfl) (by kernel_rfl) Tryd.underlying4 rfl hW' ⟨rfl, rfl, rfl⟩ hb⟩

theorem said : Rows.CpuRunsSaid :=
  OpenClaim.holds_of_cond 4 Tryd.f4 rfl rfl rfl rfl rfl rfl rfl ⟨rfl, rfl, rfl, rfl, rfl⟩ rfl rfl rfl rfl rfl (by kernel_rfl) Tryd.func4 (by kernel_rfl)
    (of_decide_eq_true (by kernel_rfl)) (by unfold Func.isWrapper; first | (rw [if_pos (by decide +kernel)]; kernel_rfl) | (rw [if_neg (by decide +kernel)]; exact ⟨rfl, rfl⟩))
    (fun os started H enc _ F => by rw [OpenClaim.pre_eq_preRow]; exact lifted os started H enc F)

theorem plain (f : FuncId) (fn : Func) (hf : Tryd.pinned.checked.prog.funcNamed "hibernacle/hibernaclelaw14.CpuRuns" = some f) (hfn : Tryd.pinned.checked.prog.funcs[f]? = some fn) :
    false = Tryd.pinned.checked.prog.looks [] ∧ ∀ (j : Nat) t, fn.params[j]? = some t → Tryd.pinned.checked.prog.wantsStandIn t = false := by
  obtain rfl : f = 4 := Option.some.inj ((show Tryd.prog.funcNamed "hibernacle/hibernaclelaw14.CpuRuns" = some 4 by kernel_rfl).symm.trans hf) |>.symm
  obtain rfl : fn = Tryd.f4 := (Option.some.inj (Tryd.func4.symm.trans hfn)).symm
  refine ⟨by kernel_rfl, fun j t ht => ?_⟩
  rw [Tryd.params4] at ht
  have hm : t ∈ [25, 29, 30, 5] := by simpa using Array.mem_of_getElem? ht
  exact (show ∀ t ∈ [25, 29, 30, 5], Tryd.prog.wantsStandIn t = false by
    simp only [List.mem_cons, List.not_mem_nil, or_false]
    rintro t (rfl | rfl | rfl | rfl) <;> kernel_rfl) t hm

theorem card : Rows.CpuRunsCardSaid :=
  Claim7.holds_tied_plain_at .later [] _ _ _ _ said (fun _ h => by cases h) (by kernel_rfl) (fun _ h => by cases h) cpuRuns_row_tie rfl ⟨rfl, rfl⟩ (by kernel_rfl) rfl plain (by kernel_rfl)
#print axioms card
end Go.Proofs.YtcjakmnplkeldaaDoor.cpuRuns
