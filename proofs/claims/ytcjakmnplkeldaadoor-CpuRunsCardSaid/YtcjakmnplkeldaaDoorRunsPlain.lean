/-
  Plain laws of CpuRuns: behind a step the registers are numbers again; rows of texts stay through stores into blocks of numbers.
-/
import Derived.Test.YtcjakmnplkeldaaDoorLawSteps
namespace Go.Proofs.YtcjakmnplkeldaaDoor
open Go.RowKit
set_option linter.unusedVariables false
set_option linter.unusedSimpArgs false
theorem thrR_lt (op b c : Nat) (hb : b < 4294967296) (hc : c < 4294967296) : thrR op b c < 4294967296 := by
  unfold thrR
  have h32 : (4294967296 : Nat) = 2 ^ 32 := by decide
  by_cases h1 : op = 1
  · rw [if_pos h1]
    exact Nat.mod_lt _ (by decide)
  rw [if_neg h1]
  by_cases h2 : op = 2
  · rw [if_pos h2]
    exact Nat.mod_lt _ (by decide)
  rw [if_neg h2]
  by_cases h3 : op = 3
  · rw [if_pos h3]
    exact Nat.mod_lt _ (by decide)
  rw [if_neg h3]
  by_cases h4 : op = 4
  · rw [if_pos h4]
    by_cases hc0 : c = 0
    · rw [if_pos hc0]; decide
    · rw [if_neg hc0]; exact Nat.lt_of_le_of_lt (Nat.div_le_self _ _) hb
  rw [if_neg h4]
  by_cases h5 : op = 5
  · rw [if_pos h5]
    by_cases hc0 : c = 0
    · rw [if_pos hc0]; exact hb
    · rw [if_neg hc0]; exact Nat.lt_of_le_of_lt (Nat.mod_le _ _) hb
  rw [if_neg h5]
  by_cases h6 : op = 6
  · rw [if_pos h6]
    exact Nat.lt_of_le_of_lt Nat.and_le_left hb
  rw [if_neg h6]
  by_cases h7 : op = 7
  · rw [if_pos h7]
    rw [h32] at hb hc ⊢; exact Nat.or_lt_two_pow hb hc
  rw [if_neg h7]
  by_cases h8 : op = 8
  · rw [if_pos h8]
    rw [h32] at hb hc ⊢; exact Nat.xor_lt_two_pow hb hc
  rw [if_neg h8]
  by_cases h9 : op = 9
  · rw [if_pos h9]
    exact Nat.mod_lt _ (by decide)
  rw [if_neg h9]
  by_cases h10 : op = 10
  · rw [if_pos h10]
    exact Nat.lt_of_le_of_lt (Nat.div_le_self _ _) hb
  rw [if_neg h10]
  by_cases h11 : op = 11
  · rw [if_pos h11]
    have h1 := Int.emod_lt_of_pos (sg b / 2 ^ (c % 32)) (show (0 : Int) < 4294967296 by decide)
    have h2 := Int.emod_nonneg (sg b / 2 ^ (c % 32)) (show (4294967296 : Int) ≠ 0 by decide)
    generalize sg b / 2 ^ (c % 32) % 4294967296 = q at *
    omega
  rw [if_neg h11]
  by_cases h12 : op = 12
  · rw [if_pos h12]
    by_cases hs : sg b < sg c
    · rw [if_pos hs]; decide
    · rw [if_neg hs]; decide
  rw [if_neg h12]
  by_cases hs : b < c
  · rw [if_pos hs]; decide
  · rw [if_neg hs]; decide
theorem ldR_lt {op : Nat} {xs : List ByteArray} {l : List Pte} {a v : Nat} (h : ldR op xs l a = some v) : v < 4294967296 := by
  unfold ldR at h
  split at h
  · exact loadR_four h
  · cases hr : loadR xs l a 1 with
    | none => rw [hr] at h; cases h
    | some u =>
      rw [hr] at h
      have hu := loadR_one hr
      simp only [Option.map_some, Option.some.injEq] at h
      subst h
      split
      · unfold sx8; split <;> omega
      · omega
structure StepOk (n : Nat) (o : StepO) : Prop where
  R : Regs o.R
  pc : o.pc < 4294967296
  xs : o.xs.length = n
theorem step_ok {R : List Nat} {pc : Nat} {l : List Pte} {xs : List ByteArray} (hR : Regs R) (hp : pc < 4294967296) : StepOk xs.length (stepR R pc l xs) := by
  have h0 : Regs (R.set 0 0) := hR.set_ 0 (by decide)
  have hpc : (pc + 4) % 4294967296 < 4294967296 := Nat.mod_lt _ (by decide)
  have bad : ∀ k n, StepOk xs.length ⟨R, pc, xs, k, n⟩ := fun k n => ⟨hR, hp, rfl⟩
  have good : ∀ (a v pc' : Nat) (k : Int) (n : Nat), v < 4294967296 → pc' < 4294967296 → StepOk xs.length ⟨((R.set 0 0).set a v).set 0 0, pc', xs, k, n⟩ := fun a v pc' k n hv hp' => ⟨(h0.set_ a hv).set_ 0 (by decide), hp', rfl⟩
  have same : ∀ (pc' : Nat) (k : Int) (n : Nat), pc' < 4294967296 → StepOk xs.length ⟨(R.set 0 0).set 0 0, pc', xs, k, n⟩ := fun pc' k n hp' => ⟨h0.set_ 0 (by decide), hp', rfl⟩
  have hm : ∀ n : Nat, n % 4294967296 < 4294967296 := fun n => Nat.mod_lt _ (by decide)
  unfold stepR
  split
  · exact bad _ _
  · split
    · exact bad _ _
    · rename_i x _
      have him : (x.imm % 4294967296).toNat < 4294967296 := by omega
      unfold stDo
      split
      · exact good _ _ _ _ _ (thrR_lt _ _ _ (h0.get _) (h0.get _)) hpc
      · split
        · exact good _ _ _ _ _ (thrR_lt _ _ _ (h0.get _) him) hpc
        · split
          · exact good _ _ _ _ _ (hm _) hpc
          · split
            · split
              · exact bad _ _
              · rename_i hv
                exact good _ _ _ _ _ (ldR_lt hv) hpc
            · split
              · split
                · exact bad _ _
                · rename_i hv
                  exact ⟨h0.set_ 0 (by decide), hpc, storeR_len hv⟩
              · split
                · refine same _ _ _ ?_
                  split
                  · exact hm _
                  · exact hpc
                · split
                  · exact good _ _ _ _ _ hpc (hm _)
                  · split
                    · exact good _ _ _ _ _ hpc (hm _)
                    · exact same _ _ _ hpc
/-- a row of texts stays, whatever numbers are stored into a block of numbers -/
theorem row_past {w w' : World} {g : Nat} {t : TypeId} {cs : Array Value} {A : Option Addr} {xs : List ByteArray} (h : RowAt w w.heap.size A (xs.map .string)) (hg : Blk w g t cs) (hi : ∀ v ∈ cs, ∃ k z, v = .int k z) (hgr : w.grownBy w' (some g)) : RowAt w' w'.heap.size A (xs.map .string) := by
  cases xs with
  | nil => exact .inl rfl
  | cons x xs =>
    obtain ⟨b, o, rfl, hb, hc⟩ := h.at_ (by simp)
    have hne : b ≠ g := by
      rintro rfl
      have h1 := hc 0 (.string x) rfl
      cases ho : cs[o]? with
      | some v =>
        have h2 := hg.cell o ho
        obtain ⟨k, z, rfl⟩ := hi v (Array.mem_of_getElem? ho)
        rw [Nat.add_zero] at h1
        rw [h1] at h2
        cases h2
      | none =>
        unfold World.cell? at h1
        unfold Blk at hg
        simp [hg, ho] at h1
    refine .inr ⟨b, o, rfl, Nat.lt_of_lt_of_le hb hgr.size, fun j v hv => ?_⟩
    exact (World.cell?_of_block (a := ⟨b, o + j, none⟩) (hgr.block b hb (ne_blk hne))).trans (hc j v hv)
theorem cpuC_ints (R : List Nat) (pc : Nat) : ∀ v ∈ cpuC R pc, ∃ k z, v = .int k z := by
  intro v hv
  simp [cpuC] at hv
  rcases hv with ⟨r, _, rfl⟩ | rfl <;> exact ⟨_, _, rfl⟩
theorem evC_ints (k : Int) (n : Nat) : ∀ v ∈ evC k n, ∃ k z, v = .int k z := by
  intro v hv
  simp [evC] at hv
  rcases hv with rfl | rfl <;> exact ⟨_, _, rfl⟩
end Go.Proofs.YtcjakmnplkeldaaDoor
