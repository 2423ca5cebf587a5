/-
  Get and Put, their answers spelled out.
-/
import Derived.Test.YtoanladhikdcaaaGreatInoPl
import Derived.Test.YtoanladhikdcaaaGreatInfra
namespace Go.Proofs.YtoanladhikdcaaaGreat
open Go.RowKit
set_option linter.unusedVariables false
set_option linter.unusedSimpArgs false
set_option maxRecDepth 100000
theorem RowAt.next {w w' : World} {A : Option Addr} {xs : List Value} (h : RowAt w w.heap.size A xs) (hb : Below w.heap.size w w') : RowAt w' w'.heap.size A xs := (h.below hb).mono hb.size
/-- Get, its numbers spelled out -/
theorem get_lit (A : Option Addr) (c : Nat) (xs : List ByteArray) (n : Int) (hx : xs.length ≤ 1000000) {L : List Nat} {code : Int} (hL : getR xs n = L) (hc : inoE xs n = code) (w : World) (h : RowAt w w.heap.size A (xs.map .string)) :
    Calls Tryz.prog 11 #[.slice A xs.length c, .int .i64 n] w fun e w' => e = .returned (.tuple #[.agg (inoC L), .int .i64 code]) ∧ Below w.heap.size w w' := by
  rw [← hL, ← hc]; exact get_ino A c xs n w hx h
theorem put_err {xs : List ByteArray} {n : Int} {l : List Int} (A : Option Addr) (c : Nat) (hx : xs.length ≤ 1000000) (hl : l.length = 12) (hr : ∀ z ∈ l, -9223372036854775808 ≤ z ∧ z ≤ 9223372036854775807) (h1 : (putO xs n l).1 = []) (w : World) (h : RowAt w w.heap.size A (xs.map .string)) :
    Calls Tryz.prog 71 #[.slice A xs.length c, .int .i64 n, .agg (intC l)] w fun e w' => (∃ A' c', e = .returned (.tuple #[.slice A' 0 c', .int .i64 (putO xs n l).2])) ∧ Below w.heap.size w w' :=
  (put_ino A c xs n l w hx h hl hr).mono fun e w' hq => by
    unfold RowCode at hq
    rw [h1] at hq
    obtain ⟨⟨v, he, hn⟩, hb⟩ := hq
    obtain ⟨A', c', rfl, _⟩ := hn.read
    exact ⟨⟨A', c', he⟩, hb⟩
theorem put_good {xs : List ByteArray} {m k : Nat} {nl : List Nat} (A : Option Addr) (c : Nat) (hx : xs.length ≤ 1000000) (hv : IsVol xs m) (a : 1 ≤ k) (b : k ≤ m) (hn : FitN nl) (w : World) (h : RowAt w w.heap.size A (xs.map .string)) :
    Calls Tryz.prog 71 #[.slice A xs.length c, .int .i64 k, .agg (inoC nl)] w fun e w' => (∃ A' c', e = .returned (.tuple #[.slice A' (putV xs k nl).length c', .int .i64 0]) ∧ RowAt w' w'.heap.size A' ((putV xs k nl).map .string)) ∧ Below w.heap.size w w' := by
  have e : inoC nl = intC (nl.map (fun k : Nat => (k : Int))) := by unfold inoC intC; rw [List.map_map]; rfl
  rw [e]
  have hf : ∀ z ∈ nl.map (fun k : Nat => (k : Int)), 0 ≤ z ∧ z < 4294967296 := fitsR_nat (by simpa using hn.1) (fits_of_nat hn)
  refine (put_ino A c xs k _ w hx h (by simpa using hn.1) (fun z hz => by have := hf z hz; omega)).mono fun e w' hq => ?_
  unfold RowCode at hq
  rw [putO_ok hv a b hn] at hq
  obtain ⟨⟨v, he, hn⟩, hb⟩ := hq
  obtain ⟨A', c', rfl, hr⟩ := hn.read
  exact ⟨⟨A', c', he, hr⟩, hb⟩
end Go.Proofs.YtoanladhikdcaaaGreat
