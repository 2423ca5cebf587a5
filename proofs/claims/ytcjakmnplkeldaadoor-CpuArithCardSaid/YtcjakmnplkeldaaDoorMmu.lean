/-
  What mmu.Find, there, Load, put and Store do.
-/
import Derived.Test.YtcjakmnplkeldaaDoorNum
import Derived.Test.YtcjakmnplkeldaaDoorClone
import Derived.Test.YtcjakmnplkeldaaDoorTail
import Derived.Test.YtcjakmnplkeldaaDoorRowOps
namespace Go.Proofs.YtcjakmnplkeldaaDoor
open Go.RowKit
set_option linter.unusedVariables false
set_option linter.unusedSimpArgs false

/-- the pages that a process sees -/
structure Pte where
  is : Bool
  wr : Bool
  fr : Int
def pteL (l : List Pte) : List Value := l.flatMap fun p => [.bool p.is, .bool p.wr, .int .i64 p.fr]
def spaceV (l : List Pte) : Value := .agg (pteL l).toArray
theorem pteL_get (l : List Pte) (i : Nat) (hi : i < l.length) : (pteL l)[3 * i]? = some (.bool l[i].is) ∧ (pteL l)[3 * i + 1]? = some (.bool l[i].wr) ∧ (pteL l)[3 * i + 2]? = some (.int .i64 l[i].fr) := by
  induction l generalizing i with
  | nil => simp at hi
  | cons p l ih =>
    cases i with
    | zero => simp [pteL]
    | succ i =>
      have := ih i (by simpa using hi)
      simp only [pteL, List.flatMap_cons, List.getElem_cons_succ] at this ⊢
      rw [show 3 * (i + 1) = 3 * i + 3 by omega, show 3 * i + 3 + 1 = (3 * i + 1) + 3 by omega, show 3 * i + 3 + 2 = (3 * i + 2) + 3 by omega]
      simpa [List.getElem?_append_right] using this

/-- the frame, and the place in it, of an address -/
def findR (l : List Pte) (a sz : Nat) (wr : Bool) : Option (Int × Nat) :=
  match l[a / 128]? with
  | some p => if a < 2048 ∧ a % sz = 0 ∧ p.is = true ∧ (wr = true → p.wr = true) then some (p.fr, a % 128) else none
  | none => none
/-- what Find hands back -/
def findE : Option (Int × Nat) → Ending
  | some (f, p) => .returned (.tuple #[.int .i64 f, .int .i64 (p : Nat), .bool true])
  | none => .returned (.tuple #[.int .i64 0, .int .i64 0, .bool false])
def FindPost (r : Option (Int × Nat)) (w : World) (e : Ending) (w' : World) : Prop := e = findE r ∧ Below w.heap.size w w'

set_option maxHeartbeats 1000000 in
theorem find_any (l : List Pte) (a sz : Nat) (wr : Bool) (w : World) (hl : l.length = 16) (hsz : sz = 1 ∨ sz = 4) (ha : a < 4294967296) :
    Calls Tryd.prog 39 #[.agg (pteL l).toArray, .int .u32 a, .int .i64 sz, .bool wr] w (FindPost (findR l a sz wr) w) := by
  by_cases h1 : a < 2048
  · have hi : a / 128 < l.length := by omega
    obtain ⟨p0, p1, p2⟩ := pteL_get l (a / 128) hi
    have hget : l[a / 128]? = some l[a / 128] := List.getElem?_eq_getElem hi
    generalize l[a / 128] = p at p0 p1 p2 hget
    have c0 : (w.alloc (.cells (pteL l).toArray 29)).cell? ⟨w.heap.size, a / 128 * 3, none⟩ = some (.bool p.is) := (Blk.new w 29 _).cell _ (by rw [Nat.mul_comm]; simpa using p0)
    have c1 : (w.alloc (.cells (pteL l).toArray 29)).cell? ⟨w.heap.size, a / 128 * 3 + 1, none⟩ = some (.bool p.wr) := (Blk.new w 29 _).cell _ (by rw [Nat.mul_comm (a / 128)]; simpa using p1)
    have c2 : (w.alloc (.cells (pteL l).toArray 29)).cell? ⟨w.heap.size, a / 128 * 3 + 2, none⟩ = some (.int .i64 p.fr) := (Blk.new w 29 _).cell _ (by rw [Nat.mul_comm (a / 128)]; simpa using p2)
    have i1 : (0 : Int) ≤ (a : Int) / 128 := by omega
    have i2 : (a : Int) / 128 < 16 := by omega
    have i3 : ((a : Int) / 128).toNat = a / 128 := by omega
    have hz : (w.alloc (.cells (pteL l).toArray 29)).heap.size = w.heap.size + 1 := by simp
    have hR : findR l a sz wr = if a % sz = 0 ∧ p.is = true ∧ (wr = true → p.wr = true) then some (p.fr, a % 128) else none := by unfold findR; rw [hget]; simp [h1]
    have h2 : ¬ (2048 : Int) ≤ (a : Int) := by omega
    have h2' : (a : Int) < 2048 := by omega
    clear ha h1 hget p0 p1 p2 hi hl
    obtain ⟨pi, pw, pf⟩ := p
    by_cases hm : a % sz = 0
    · have hm1 : ((a : Int) % 1 != 0) = false := by simp
      have HM : Hid (sz = 4 → ((a : Int) % 4 != 0) = false) := by rintro rfl; simp; omega
      have hF : findR l a sz wr = if (pi && (!wr || pw)) = true then some (pf, a % 128) else none := hR.trans (by cases pi <;> cases wr <;> cases pw <;> simp [hm])
      cases pi <;> cases wr <;> cases pw
      all_goals
        have HF := Lib.hid hF
        clear hF hR hm
        rcases hsz with rfl | rfl
        all_goals
          try have hm4 := HM.out rfl
          clear HM
          go_enter Tryd.func39, Tryd.ntmps39
          go_wp2
          go_ret3
          rw [HF.out]
          exact ⟨rfl, ((Below.refl _ _).alloc (Nat.le_refl _) _).alloc (by simp) _⟩
    · obtain rfl : sz = 4 := by rcases hsz with rfl | rfl; exact absurd (Nat.mod_one a) hm; rfl
      have hm4 : ((a : Int) % 4 != 0) = true := by simp; omega
      have HF : Hid (findR l a 4 wr = none) := hR.trans (by simp [hm])
      clear hR hm hsz
      go_enter Tryd.func39, Tryd.ntmps39
      go_wp2
      go_ret3
      rw [HF.out]
      exact ⟨rfl, (Below.refl _ _).alloc (Nat.le_refl _) _⟩
  · have hR : findR l a sz wr = none := by unfold findR; split <;> simp [h1]
    have HR := Lib.hid hR
    have h1' : ¬ (a : Int) < 2048 := by omega
    have h2' : (2048 : Int) ≤ (a : Int) := by omega
    have h3' : decide ((2048 : Int) ≤ (a : Int)) = true := by simpa using h2'
    clear hR ha h1
    rcases hsz with rfl | rfl
    all_goals
      go_enter Tryd.func39, Tryd.ntmps39
      go_wp2
      go_ret3
      rw [HR.out]
      exact ⟨rfl, (Below.refl _ _).alloc (Nat.le_refl _) _⟩

/-- the frame of a number, if it is there and has a page's bytes -/
def frame (xs : List ByteArray) (n : Int) : Option ByteArray :=
  if 0 ≤ n then match xs[n.toNat]? with
    | some s => if s.size = 128 then some s else none
    | none => none
  else none
theorem frame_some {xs : List ByteArray} {n : Int} {s : ByteArray} (h : frame xs n = some s) : ∃ k : Nat, n = k ∧ ∃ hk : k < xs.length, xs[k] = s ∧ s.size = 128 := by
  unfold frame at h
  split at h
  · rename_i h0
    split at h
    · rename_i t ht
      split at h
      · rename_i h1
        injection h with h
        subst h
        obtain ⟨hk, e⟩ := List.getElem?_eq_some_iff.1 ht
        exact ⟨n.toNat, by omega, hk, e, h1⟩
      · cases h
    · cases h
  · cases h

set_option maxHeartbeats 1000000 in
theorem there_any (A : Option Addr) (c : Nat) (xs : List ByteArray) (n : Int) (w : World) (hx : xs.length ≤ 1000000) (h : RowAt w w.heap.size A (xs.map .string)) :
    Calls Tryd.prog 40 #[.slice A xs.length c, .int .i64 n] w fun e w' => e = .returned (.bool (frame xs n).isSome) ∧ w = w' := by
  by_cases h0 : 0 ≤ n
  · obtain ⟨k, rfl⟩ := Int.eq_ofNat_of_zero_le h0
    by_cases h1 : k < xs.length
    · obtain ⟨b, o, rfl, hb, hc⟩ := h.at_ (by simp; omega)
      have g1 : w.cell? ⟨b, o + k, none⟩ = some (.string xs[k]) := hc k _ (by simp [h1])
      have i1 : (0 : Int) ≤ (k : Int) := by omega
      have i2 : (k : Int) < (xs.length : Int) := by omega
      clear hc h
      by_cases h2 : xs[k].size = 128
      · have HF : Hid (frame xs (k : Int) = some xs[k]) := by simp [frame, h1, h2, Hid]
        have h2' : ((xs[k].size : Int) == 128) = true := by simp [h2]
        clear h2
        go_enter Tryd.func40, Tryd.ntmps40
        go_wp2
        go_ret
        exact ⟨ret_bool (by rw [HF.out]; rfl), rfl⟩
      · have HF : Hid (frame xs (k : Int) = none) := by simp [frame, h1, h2, Hid]
        have h2' : ((xs[k].size : Int) == 128) = false := by simp; omega
        clear h2
        go_enter Tryd.func40, Tryd.ntmps40
        go_wp2
        go_ret
        exact ⟨ret_bool (by rw [HF.out]; rfl), rfl⟩
    · have HF : Hid (frame xs (k : Int) = none) := by simp [frame, h1, Hid]
      have h1' : decide (k < xs.length) = false := by simpa using h1
      clear h hx h0
      go_enter Tryd.func40, Tryd.ntmps40
      go_wp2
      go_ret
      exact ⟨ret_bool (by rw [HF.out]; rfl), rfl⟩
  · have HF : Hid (frame xs n = none) := by simp [frame, h0, Hid]
    have h0' : decide (0 ≤ n) = false := by simpa using h0
    clear h hx
    go_enter Tryd.func40, Tryd.ntmps40
    go_wp2
    go_ret
    exact ⟨ret_bool (by rw [HF.out]; rfl), rfl⟩

end Go.Proofs.YtcjakmnplkeldaaDoor
