/-
  What isa.Op and hibernacleref10.Op compute: the number of a name.
-/
import Derived.Test.YtnaknooefjiahaaDoorRTextA
namespace Go.Proofs.YtnaknooefjiahaaDoor
open Go.RowKit
set_option linter.unusedVariables false
set_option linter.unusedSimpArgs false

/-- the operation of a name -/
def OpIs (s : ByteArray) (n : Nat) : Prop := (1 ≤ n ∧ n ≤ 31 ∧ nmB n = s) ∨ (n = 0 ∧ ∀ j, 1 ≤ j → j ≤ 31 → nmB j ≠ s)
theorem nmB_inj {i j : Nat} (h1 : 1 ≤ i) (h2 : i ≤ 31) (h3 : 1 ≤ j) (h4 : j ≤ 31) (h : nmB i = nmB j) : i = j := by
  apply nm_inj h1 h2 h3 h4
  have := congrArg (fun b : ByteArray => b.data.toList) h
  simpa [nmB] using this
theorem OpIs.det {s : ByteArray} {m n : Nat} (h : OpIs s m) (h' : OpIs s n) : m = n := by
  rcases h with ⟨a, b, c⟩ | ⟨rfl, c⟩ <;> rcases h' with ⟨a', b', c'⟩ | ⟨rfl, c'⟩
  · exact nmB_inj a b a' b' (c.trans c'.symm)
  · exact absurd c (c' m a b)
  · exact absurd c' (c n a' b')
  · rfl
def OpPost (s : ByteArray) (w : World) (e : Ending) (w' : World) : Prop := ∃ n : Nat, OpIs s n ∧ n ≤ 31 ∧ e = .returned (.tuple #[.int .u8 n, .bool (decide (0 < n))]) ∧ Below w.heap.size w w'
def nmV : Array Value := (nmT.map fun l => Value.string ⟨l.toArray⟩).toArray
theorem nmV_get (k : Nat) (h : k < 32) : nmV[k]? = some (.string (nmB k)) := by
  have : nmT.length = 32 := rfl
  simp [nmV, nmB, List.getD, this, h]
theorem Laid.blk {w : World} (h : Laid w) : ∃ t fr, w.heap[0]? = some (.cells nmV t fr) := by
  have h1 := h.1
  unfold World.var? at h1
  rw [gNames] at h1
  simp only [Option.bind_some] at h1
  cases hh : w.heap[0]? with
  | none => rw [hh] at h1; cases h1
  | some o =>
    rw [hh] at h1
    cases o <;> simp at h1
    rename_i c t fr
    exact ⟨t, fr, by rw [h1]; rfl⟩
theorem sizeStr (w : World) : (sizeOf 9).run Tryd.prog w = .ok 1 w := by kernel_rfl
theorem idx_names (w : World) (k : Nat) (hk : k < 32) : (Instr.index 51 (.agg nmV) (.int .i64 k)).run Tryd.prog w = .ok (.string (nmB k)) w := by
  have h1 : (0 : Int) ≤ (k : Int) ∧ (k : Int) < 32 := by omega
  have h2 := nmV_get k hk
  unfold Instr.index
  simp [go_sem, run_underlying Tryd.underlying51, h1, hk, h2]
theorem nmB_eq {k : Nat} {s : ByteArray} (h : nmB k = s) : ((nmB k).toList == s.toList) = true := by rw [h]; simp
theorem nmB_ne {k : Nat} {s : ByteArray} (h : nmB k ≠ s) : ((nmB k).toList == s.toList) = false := by
  simp only [beq_eq_false_iff_ne]
  intro e
  rw [Lib.toList_data, Lib.toList_data] at e
  exact h (WideShapes.bytes_inj e)
theorem arrSz : (Tryd.prog.info? 51).map (·.size) = some 32 := by kernel_rfl
set_option maxHeartbeats 1000000 in
theorem op_any (s : ByteArray) (w : World) (hl : Laid w) : Calls Tryd.prog 17 #[.string s] w (OpPost s w) := by
  obtain ⟨t, fr, hg⟩ := hl.blk
  have HG := Lib.hid hg
  clear hg hl
  have hidx := fun (k : Nat) (hk : k < 32) (w : World) => idx_names w k hk
  have HX := Lib.hid hidx
  clear hidx
  go_enter Tryd.func17, Tryd.ntmps17
  go_wp2_with (refine wpList_load_row rfl 51 _ rfl 0 rfl t nmV fr _ HG.out Tryd.underlying51 rfl arrSz ?_)
  go_loop [7] (fun i => ∃ k : Nat, k ≤ 32 ∧ i = .int .i64 k ∧ Hid (∀ j, 1 ≤ j → j < k → nmB j ≠ s)) (fun i => 32 - (intOf i).toNat)
  case atStart => exact ⟨0, by omega, rfl, fun j h1 h2 => by omega⟩
  case round =>
    obtain ⟨k, hk, rfl, HN⟩ := hrel
    by_cases hlt : k < 32
    · have hx := HX.out k hlt
      by_cases h1 : 1 ≤ k
      · have g1 : (1 : Int) ≤ (k : Int) := by omega
        by_cases he : nmB k = s
        · have HE := Lib.hid he
          have h2 := nmB_eq he
          clear he
          go_wp2
          go_ret2
          refine ⟨k, .inl ⟨h1, by omega, HE.out⟩, by omega, ?_, Below.refl _ _⟩
          rw [show decide (0 < k) = true by simp; omega]; rfl
        · have HE := Lib.hid he
          have h2 := nmB_ne he
          clear he
          go_wp2
          go_round
          case rel => exact ⟨k + 1, by omega, by go_num, fun j a b => by
            by_cases e : j = k
            · rw [e]; exact HE.out
            · exact HN.out j a (by omega)⟩
          case measure => simp [intOf]; omega
      · have g1 : decide ((1 : Int) ≤ (k : Int)) = false := by simp; omega
        go_wp2
        go_round
        case rel => exact ⟨k + 1, by omega, by go_num, fun j a b => by omega⟩
        case measure => simp [intOf]; omega
    · go_wp2
      go_ret2
      exact ⟨0, .inr ⟨rfl, fun j a b => HN.out j a (by omega)⟩, by omega, rfl, Below.refl _ _⟩
set_option maxHeartbeats 1000000 in
theorem rop_any (s : ByteArray) (w : World) : Calls Tryd.prog 18 #[.string s] w (OpPost s w) := by
  go_enter Tryd.func18, Tryd.ntmps18
  go_wp2_with fail
  refine (names_any _).mono ?_
  rintro e w1 ⟨g, rfl, hg, G0, hb1⟩
  have G := Lib.hid G0
  have B := Lib.hid hb1
  clear hg G0 hb1
  go_wp2
  go_loop [5] (fun i => ∃ k : Nat, k ≤ 31 ∧ i = .int .i64 k ∧ Hid (∀ j, 1 ≤ j → j ≤ k → nmB j ≠ s)) (fun i => 31 - (intOf i).toNat)
  case atStart => exact ⟨0, by omega, rfl, fun j h1 h2 => by omega⟩
  case round =>
    obtain ⟨k, hk, rfl, HN⟩ := hrel
    by_cases hlt : k < 31
    · have hc : w1.cell? ⟨g, k, none⟩ = some (.string (nmB (k + 1))) := G.out.cell k (nmR_get (k + 1) (by omega) (by omega))
      by_cases he : nmB (k + 1) = s
      · have HE := Lib.hid he
        have h2 := nmB_eq he
        clear he
        go_wp2
        go_ret2
        refine ⟨k + 1, .inl ⟨by omega, by omega, HE.out⟩, by omega, ?_, B.out⟩
        rw [show decide (0 < k + 1) = true by simp]; rfl
      · have HE := Lib.hid he
        have h2 := nmB_ne he
        clear he
        go_wp2
        go_round
        case rel => exact ⟨k + 1, by omega, by go_num, fun j a b => by
          by_cases e : j = k + 1
          · rw [e]; exact HE.out
          · exact HN.out j a (by omega)⟩
        case measure => simp [intOf]; omega
    · go_wp2
      go_ret2
      exact ⟨0, .inr ⟨rfl, fun j a b => HN.out j a (by omega)⟩, by omega, rfl, B.out⟩
end Go.Proofs.YtnaknooefjiahaaDoor
