/-
  What geom.bit computes, and geom.Of.
-/
import Derived.Test.YtoanladhikdcaaaGreatGeomA
import Derived.Test.YtoanladhikdcaaaGreatInfra
namespace Go.Proofs.YtoanladhikdcaaaGreat
open Go.RowKit
set_option linter.unusedVariables false
set_option linter.unusedSimpArgs false
theorem row_get {w : World} {B : Nat} {A : Option Addr} {xs : List ByteArray} (h : RowAt w B A (xs.map .string)) (k : Nat) (hk : k < xs.length) : ∃ b o, A = some ⟨b, o, none⟩ ∧ b < B ∧ w.cell? ⟨b, o + k, none⟩ = some (.string (xs.getD k ⟨#[]⟩)) := by
  obtain ⟨b, o, rfl, hb, hc⟩ := h.at_ (by simp; omega)
  refine ⟨b, o, rfl, hb, ?_⟩
  simp only [List.getD, List.getElem?_eq_getElem hk, Option.getD_some]
  exact hc k _ (by simp [hk])
theorem bitL_byte (s : ByteArray) (i : Nat) (h : i / 8 < s.size) : bitL s.data.toList i = (s[i / 8].toNat).testBit (i % 8) := by
  unfold bitL
  simp only [List.getD]
  rw [List.getElem?_eq_getElem (by simpa using h)]
  rfl
set_option maxHeartbeats 1000000 in
theorem bit_any (A : Option Addr) (c : Nat) (xs : List ByteArray) (i : Nat) (w : World) (hl : 3 ≤ xs.length) (hx : xs.length ≤ 1000000) (h2 : (xs.getD 2 ⟨#[]⟩).size = 128) (hi : i < 1024) (h : RowAt w w.heap.size A (xs.map .string)) :
    Calls Tryz.prog 85 #[.slice A xs.length c, .int .i64 i] w fun e w' => e = .returned (.bool (bitL (blkL xs 2) i)) ∧ w = w' := by
  obtain ⟨b, o, rfl, hb, hc⟩ := row_get h 2 (by omega)
  have HE : Hid (∀ s : ByteArray, xs.getD 2 ⟨#[]⟩ = s → bitL (blkL xs 2) i = bitL s.data.toList i) := fun s e => by unfold blkL; rw [e]
  generalize hs : xs.getD 2 ⟨#[]⟩ = s at h2 hc
  have h3 : i / 8 < s.size := by omega
  have HB := Lib.hid ((HE.out s hs).trans (bitL_byte s i h3))
  have hlt := s[i / 8].toNat_lt
  have HK := Lib.hid (bit_ask s[i / 8].toNat (i % 8) hlt)
  have l2 : (2 : Int) < (xs.length : Int) := by omega
  clear h hs HE h2 hlt
  go_enter Tryz.func85, Tryz.ntmps85
  go_wp2
  go_ret
  exact ⟨ret_bool (by rw [HB.out]; exact HK.out), rfl⟩
/-- what Of hands back -/
def ofE (n : Nat) : Option Nat → Ending
  | some m => .returned (.tuple #[.agg #[.int .i64 n, .int .i64 m, .int .i64 1, .int .i64 2, .int .i64 3, .int .i64 (dataN m : Nat)], .int .i64 0])
  | none => .returned (.tuple #[.agg #[.int .i64 0, .int .i64 0, .int .i64 0, .int .i64 0, .int .i64 0, .int .i64 0], .int .i64 3])
def OfPost (xs : List ByteArray) (w : World) (e : Ending) (w' : World) : Prop := e = ofE xs.length (ofR xs) ∧ Below w.heap.size w w'
theorem of_none {xs : List ByteArray} (h : ofR xs = none) {w w' : World} (hb : Below w.heap.size w w') : OfPost xs w (.returned (.tuple #[.agg #[.int .i64 0, .int .i64 0, .int .i64 0, .int .i64 0, .int .i64 0, .int .i64 0], .int .i64 3])) w' := by
  unfold OfPost; rw [h]; exact ⟨rfl, hb⟩
theorem getD_eq (xs : List ByteArray) (k : Nat) (h : k < xs.length) : xs.getD k ⟨#[]⟩ = xs[k] := by simp [List.getD, h]
set_option maxHeartbeats 1000000 in
theorem of_bad (A : Option Addr) (c : Nat) (xs : List ByteArray) (w : World) (hx : xs.length ≤ 1000000) (h : RowAt w w.heap.size A (xs.map .string)) (hn : ¬ ∀ s ∈ xs, s.size = 128) :
    Calls Tryz.prog 58 #[.slice A xs.length c] w (OfPost xs w) := by
  have HO := Lib.hid (show ofR xs = none from ofR_none.2 fun hv => hn hv.1)
  have HR := Lib.hid h
  have HN := Lib.hid hn
  have HB := Lib.hid (fun (o : Obj) => (Below.refl w.heap.size w).alloc (Nat.le_refl _) o)
  clear h hn
  go_enter Tryz.func58, Tryz.ntmps58
  go_wp2
  go_loop [12] (fun i => ∃ k : Nat, k ≤ xs.length ∧ i = .int .i64 k ∧ Hid (∀ j (hj : j < xs.length), j < k → xs[j].size = 128)) (fun i => xs.length - (intOf i).toNat)
  case atStart => exact ⟨0, Nat.zero_le _, rfl, fun j hj h => by omega⟩
  case round =>
    obtain ⟨k, hk, rfl, HK⟩ := hrel
    by_cases hlt : k < xs.length
    · obtain ⟨b, o, rfl, hb, hc⟩ := row_get HR.out k hlt
      rw [getD_eq xs k hlt] at hc
      have hc1 : (w.alloc (.cells #[.int .i64 0, .int .i64 0, .int .i64 0, .int .i64 0, .int .i64 0, .int .i64 0] 54)).cell? ⟨b, o + k, none⟩ = some (.string xs[k]) := ((HB.out _).cell (p := ⟨b, o + k, none⟩) hb).trans hc
      clear hc
      by_cases hs : xs[k].size = 128
      · have h1 : ((xs[k].size : Int) != 128) = false := by simp [hs]
        have HS := Lib.hid hs
        clear hs
        go_wp2
        go_round
        case rel => exact ⟨k + 1, by omega, by go_num, fun j hj hl => by
          by_cases e : j = k
          · subst e; exact HS.out
          · exact HK.out j hj (by omega)⟩
        case measure => simp [intOf]; omega
      · have h1 : ((xs[k].size : Int) != 128) = true := by simp; omega
        clear hs
        go_wp2
        exact bodyPost_ret (v := .tuple #[.agg #[.int .i64 0, .int .i64 0, .int .i64 0, .int .i64 0, .int .i64 0, .int .i64 0], .int .i64 3]) (by simp [results, Tryz.results58, go_sem]) rfl (of_none HO.out (HB.out _))
    · exfalso
      apply HN.out
      intro s hs
      obtain ⟨j, hj, rfl⟩ := List.getElem_of_mem hs
      exact HK.out j hj (by omega)
end Go.Proofs.YtoanladhikdcaaaGreat
