/-
  Rows of the call's own, side by side.
-/
import Derived.Test.YtoanladhikdcaaaGreatRGeomU
import Derived.Test.YtoanladhikdcaaaGreatNumVol
namespace Go.Proofs.YtoanladhikdcaaaGreat
open Go.RowKit
set_option linter.unusedVariables false
theorem NewRow.own {ys : List ByteArray} {w w' : World} {v : Value} (h : NewRow ys w v w') (hl : ys.length ≤ maxLen) : OwnRow ys w v w' := by
  obtain ⟨g, rfl, hg, hn⟩ := h
  exact ⟨by simp, .inr ⟨g, _, _, rfl, hg, hn, Nat.le_refl _, hl, by simp, List.take_of_length_le (by simp)⟩⟩
/-- two rows of cells of two types are apart -/
theorem own_apart {w : World} {B C : Nat} {e f : TypeId} {v u : Value} {n k : Nat} {xs ys : List Value} (h : w.ownsRow B e 1 v n xs) (h2 : w.ownsRow C f 1 u k ys) (hef : e ≠ f) : v.ownBlock = none ∨ v.ownBlock ≠ u.ownBlock := by
  rcases h.2 with ⟨rfl, _⟩ | ⟨g, cap, cur, rfl, _, hg, _⟩
  · exact .inl rfl
  · right
    rcases h2.2 with ⟨rfl, _⟩ | ⟨g', cap', cur', rfl, _, hg', _⟩
    · intro h; cases h
    · intro h
      have e' : g = g' := Option.some.inj h
      subst e'
      rw [hg] at hg'
      cases hg'
      exact hef rfl
/-- how it stands when some have been taken -/
structure Takes (m room : Nat) (gs : List Nat) (ys : List ByteArray) : Prop where
  vol : IsVol ys m
  sum : roomR ys + gs.length = room
  rise : gs.Pairwise (· < ·)
  each : ∀ g ∈ gs, dataN m ≤ g ∧ g < ys.length ∧ bitL (blkL ys 2) g = true
  next : ∀ i, freeR ys m = some i → ∀ g ∈ gs, g < i
theorem Takes.start {m : Nat} {ys : List ByteArray} (h : IsVol ys m) : Takes m (roomR ys) [] ys := ⟨h, by simp, .nil, (fun g hg => by cases hg), (fun i _ g hg => by cases hg)⟩
theorem Takes.step {m room i : Nat} {gs : List Nat} {ys : List ByteArray} (h : Takes m room gs ys) (hf : freeR ys m = some i) : Takes m room (gs ++ [i]) (takeV ys i) := by
  have hl := h.vol.len
  obtain ⟨h1, h2, h3, h4⟩ := (freeR_some (by omega)).1 hf
  refine ⟨h.vol.take h1 h2, ?_, ?_, ?_, ?_⟩
  · have := room_take h.vol hf
    have := h.sum
    rw [List.length_append]; simp; omega
  · rw [List.pairwise_append]
    exact ⟨h.rise, by simp, fun a ha b hb => by simp at hb; subst hb; exact h.next _ hf a ha⟩
  · intro g hg
    rw [takeV_length, bit_take h.vol hf]
    rcases List.mem_append.1 hg with hg | hg
    · have := h.each g hg; exact ⟨this.1, this.2.1, by rw [this.2.2]; rfl⟩
    · simp at hg; subst hg; exact ⟨h1, h2, by simp⟩
  · intro j hj g hg
    have hn := next_free h.vol hf hj
    rcases List.mem_append.1 hg with hg | hg
    · have := h.next _ hf g hg; omega
    · simp at hg; subst hg; exact hn
end Go.Proofs.YtoanladhikdcaaaGreat
