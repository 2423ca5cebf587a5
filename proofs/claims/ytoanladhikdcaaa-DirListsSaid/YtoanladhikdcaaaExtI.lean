/-
  The iterator over a file's first blocks.
-/
import Derived.Test.YtoanladhikdcaaaExtN
namespace Go.Proofs.Ytoanladhikdcaaa
open Go.RowKit Go.Shelf
set_option linter.unusedVariables false
set_option linter.unusedSimpArgs false
set_option maxRecDepth 100000
attribute [local go_sem] Oper.semAt_some
/-- one block is as it was -/
def KeepB (b : Nat) (W W' : World) : Prop := ∀ cs t, Blk W b t cs → Blk W' b t cs
theorem KeepB.refl (b : Nat) (W : World) : KeepB b W W := fun _ _ h => h
theorem KeepB.trans {b : Nat} {A B C : World} (h : KeepB b A B) (k : KeepB b B C) : KeepB b A C := fun cs t hv => k cs t (h cs t hv)
theorem KeepB.grown {b : Nat} {W W' : World} {row : Option Nat} (h : W.grownBy W' row) (hr : some b ≠ row) : KeepB b W W' := fun cs t hv => hv.grown h hr
theorem KeepB.below {b : Nat} {W W' : World} (h : Below W.heap.size W W') : KeepB b W W' := fun cs t hv => hv.below h hv.lt
theorem KeepB.putObj {b : Nat} (W : World) (l : Nat) (o o' : Obj) (h : W.heap[l]? = some o) (ho : o.isCells = false) : KeepB b W (W.putObj l o') := fun cs t hv => by
  refine hv.grown (grownBy_putObj' W l o') ?_
  intro e
  have e' : b = l := Option.some.inj e
  subst e'
  unfold Blk at hv
  rw [hv] at h
  cases h
  cases ho
/-- the first so many of all -/
def upK (c : Nat) : List (Fin 70) := (List.finRange 70).take c
theorem upK_len (c : Nat) (h : c ≤ 70) : (upK c).length = c := by unfold upK; simp [h]
theorem upK_succ (c : Nat) (h : c < 70) : upK (c + 1) = upK c ++ [⟨c, h⟩] := by
  unfold upK
  rw [List.take_succ_eq_append_getElem (by simp [h])]
  simp
theorem upK_zero : upK 0 = [] := rfl
set_option maxHeartbeats 4000000 in
theorem first_stops (f : Nat → Int) (c n : Nat) (hc : c ≤ 70) (hn : 1 ≤ n) (Bl Bc : Nat) (w : World) (hl : Blk w Bl 137 (numC f 70)) (hb : Blk w Bc 3 #[.int .i64 (c : Int)]) :
    SeqStopsK Fence.wide n Try.prog 97 #[.pointer (some ⟨Bl, 0, none⟩), .pointer (some ⟨Bc, 0, none⟩)] (fun i : Fin 70 => #[.int .i64 (i.1 : Int), .int .i64 (f i.1)]) (KeepB Bc) (· = upK c) (fun _ => True) 70 w := fun l J Jx W hW hJ hJx hY h0 => by
  have HL := Lib.hid (hl.below hW hl.lt)
  have HB := Lib.hid (hb.below hW hb.lt)
  have HY := Lib.hid hY
  have H0 := Lib.hid h0
  clear hY hJ hJx h0 hl hb hW
  refine callsIn_of_wp Try.func97 rfl trivial ?_
  simp only [Try.ntmps97, List.size_toArray, List.length_cons, List.length_nil, Nat.reduceAdd, Nat.reduceSub, Array.replicate_succ, Array.replicate_zero, List.push_toArray, List.append_toArray, List.nil_append, List.cons_append]
  refine wpIn_wide.2 ?_
  go_wp2_with (refine load_blk 137 (.tmp 1) Bl 137 (numC f 70) _ rfl rfl rfl HL.out Try.underlying137 rfl (by rw [numC_size]; exact seventy_info) ?_)
  refine (wpIn_wide (n := n)).1 ?_
  have hidx := fun (k : Nat) (hk : k < 70) (w : World) => idx_num f w k hk
  have HI := Lib.hid hidx
  clear hidx HL
  gi_loopw [7] (fun i wr => ∃ k : Nat, k ≤ c ∧ i = .int .i64 k ∧ Hid (J (upK k) wr) ∧ Hid (KeepB Bc W wr)) (fun i _ => 70 - (intOf i).toNat)
  case atStart => exact ⟨0, by omega, rfl, H0, Lib.hid (KeepB.refl _ _)⟩
  case round =>
    obtain ⟨k, hk, rfl, JK, KK⟩ := hrel
    have cb : wr.cell? ⟨Bc, 0, none⟩ = some (.int .i64 (c : Int)) := (KK.out _ _ HB.out).cell 0 rfl
    by_cases h70 : k < 70
    · have i1 := fun w => HI.out k h70 w
      by_cases hlt : k < c
      · obtain ⟨fn, tmps, assign, body, hy0, hR⟩ := HY.out (upK k) ⟨k, h70⟩ wr JK.out (by rw [upK_len k (by omega)]; exact h70)
        have hy : (Instr.yield l #[.int .i64 (k : Int), .int .i64 (f k)]).run Try.prog wr = .ok (.round l fn tmps assign body) wr := hy0
        have HR := Lib.hid hR
        have HSU := Lib.hid (upK_succ k h70)
        clear hR hy0
        generalize f k = v at *
        have k1 : ¬ (c : Int) ≤ (k : Int) := by omega
        gi_wp2
        refine HR.out.mono ?_
        rintro e W3 (⟨rfl, hJ3, hk3⟩ | ⟨rfl, hJx3⟩)
        · have J3 : Hid (J (upK (k + 1)) W3) := by rw [HSU.out]; exact hJ3
          have K3 := Lib.hid (KK.out.trans hk3)
          clear hJ3 hk3 hy
          gi_wp2
          go_roundw
          case rel => exact ⟨k + 1, by omega, by go_num, J3, K3⟩
          case measure => simp [intOf]; omega
        · clear hy
          gi_wp2
          refine bodyPost_ret (results_none rfl _ _ _) rfl ?_
          exact ⟨⟨_, rfl⟩, .inr ⟨_, trivial, hJx3⟩⟩
      · obtain rfl : k = c := by omega
        generalize f k = v at *
        gi_wp2
        refine ⟨fun _ h => (by cases h), ?_⟩
        gi_wp2
        refine bodyPost_ret (results_none rfl _ _ _) rfl ?_
        exact ⟨⟨_, rfl⟩, .inl ⟨_, rfl, JK.out⟩⟩
    · obtain rfl : k = 70 := by omega
      obtain rfl : c = 70 := by omega
      gi_wp2
      go_end0
      exact ⟨⟨_, rfl⟩, .inl ⟨_, rfl, JK.out⟩⟩
end Go.Proofs.Ytoanladhikdcaaa
