/-
  Plain laws of CpuApart: what a step does hangs on the pages that its Space has alone.
-/
import Derived.Test.YtcjakmnplkeldaaDoorLittlePlain
namespace Go.Proofs.YtcjakmnplkeldaaDoor
set_option linter.unusedVariables false
set_option linter.unusedSimpArgs false
/-- does one of the first so many pages have a frame? -/
def seenN (l : List Pte) (i : Nat) : Nat → Bool
  | 0 => false
  | k + 1 => seenN l i k || (match l[k]? with | some p => p.is && p.fr == (i : Int) | none => false)
theorem seenN_of {l : List Pte} {i : Nat} {q : Nat} {p : Pte} (hq : l[q]? = some p) (h1 : p.is = true) (h3 : p.fr = i) : ∀ k, q < k → seenN l i k = true
  | 0, h => by omega
  | k + 1, h => by
    unfold seenN
    by_cases e : q = k
    · subst e
      rw [hq]
      simp [h1, h3]
    · rw [seenN_of hq h1 h3 k (by omega)]
      rfl
def apE (l : List Pte) (xs : List ByteArray) (z : ByteArray) (i : Nat) : ByteArray := if seenN l i 16 = true then xs.getD i ByteArray.empty else z
def apL (l : List Pte) (xs : List ByteArray) (z : ByteArray) (n : Nat) : List ByteArray := (List.range n).map (apE l xs z)
theorem apL_succ (l : List Pte) (xs : List ByteArray) (z : ByteArray) (n : Nat) : apL l xs z (n + 1) = apL l xs z n ++ [apE l xs z n] := by
  unfold apL; rw [List.range_succ, List.map_append]; rfl
theorem apL_length (l : List Pte) (xs : List ByteArray) (z : ByteArray) (n : Nat) : (apL l xs z n).length = n := by simp [apL]
theorem apL_get {l : List Pte} {xs : List ByteArray} {z : ByteArray} {n i : Nat} (h : i < n) : (apL l xs z n)[i]? = some (apE l xs z i) := by simp [apL, h]
theorem apL_seen {l : List Pte} {xs : List ByteArray} {z : ByteArray} {i : Nat} (h : seenN l i 16 = true) : (apL l xs z xs.length)[i]? = xs[i]? := by
  by_cases hi : i < xs.length
  · rw [apL_get hi]; unfold apE; rw [if_pos h]; simp [List.getD_eq_getElem?_getD, hi]
  · rw [List.getElem?_eq_none (by rw [apL_length]; omega), List.getElem?_eq_none (by omega)]
theorem apL_small {l : List Pte} {xs : List ByteArray} {z : ByteArray} (h : Small xs) (hz : z.size = 128) : Small (apL l xs z xs.length) := by
  refine ⟨by rw [apL_length]; exact h.1, fun s hs => ?_⟩
  unfold apL at hs
  rw [List.mem_map] at hs
  obtain ⟨i, hi, rfl⟩ := hs
  rw [List.mem_range] at hi
  unfold apE
  split
  · simp only [List.getD_eq_getElem?_getD, List.getElem?_eq_getElem hi, Option.getD_some]; exact h.2 _ (List.getElem_mem hi)
  · exact hz
theorem findR_seen {l : List Pte} {a sz : Nat} {wr : Bool} {k p : Nat} (hl : l.length = 16) (h : findR l a sz wr = some ((k : Int), p)) : seenN l k 16 = true := by
  unfold findR at h
  split at h
  · rename_i q hq
    split at h
    · rename_i hh
      injection h with h
      injection h with h1 h2
      exact seenN_of hq hh.2.2.1 h1 16 (by have := (List.getElem?_eq_some_iff.1 hq).1; omega)
    · cases h
  · cases h
theorem frame_ap {l : List Pte} {xs : List ByteArray} {z : ByteArray} {a sz : Nat} {wr : Bool} {f : Int} {p : Nat} (hl : l.length = 16) (h : findR l a sz wr = some (f, p)) : frame (apL l xs z xs.length) f = frame xs f := by
  unfold frame
  by_cases h0 : 0 ≤ f
  · obtain ⟨k, rfl⟩ := Int.eq_ofNat_of_zero_le h0
    rw [if_pos h0, if_pos h0, Int.toNat_natCast, apL_seen (findR_seen hl h)]
  · rw [if_neg h0, if_neg h0]
theorem loadR_ap {l : List Pte} {xs : List ByteArray} {z : ByteArray} (hl : l.length = 16) (a sz : Nat) : loadR (apL l xs z xs.length) l a sz = loadR xs l a sz := by
  unfold loadR
  cases hf : findR l a sz false with
  | none => rfl
  | some fp =>
    obtain ⟨f, p⟩ := fp
    dsimp only
    rw [frame_ap hl hf]
theorem ldR_ap {l : List Pte} {xs : List ByteArray} {z : ByteArray} (hl : l.length = 16) (op a : Nat) : ldR op (apL l xs z xs.length) l a = ldR op xs l a := by
  unfold ldR
  rw [loadR_ap hl, loadR_ap hl]
/-- two memories, behind a step from two -/
def Two (xs zs ys us : List ByteArray) : Prop := (ys = xs ∧ us = zs) ∨ ∃ (k : Nat) (s t : ByteArray), xs[k]? = some s ∧ zs[k]? = some s ∧ ys = xs.set k t ∧ us = zs.set k t
theorem storeR_ap {l : List Pte} {xs : List ByteArray} {z : ByteArray} (hl : l.length = 16) (a sz v : Nat) :
    (storeR xs l a sz v = none ∧ storeR (apL l xs z xs.length) l a sz v = none) ∨ ∃ ys us, storeR xs l a sz v = some ys ∧ storeR (apL l xs z xs.length) l a sz v = some us ∧ Two xs (apL l xs z xs.length) ys us := by
  unfold storeR
  cases hf : findR l a sz true with
  | none => exact .inl ⟨rfl, rfl⟩
  | some fp =>
    obtain ⟨f, p⟩ := fp
    dsimp only
    rw [frame_ap hl hf]
    cases hs : frame xs f with
    | none => exact .inl ⟨rfl, rfl⟩
    | some s =>
      obtain ⟨k, rfl, hk, _⟩ := frame_is hs
      exact .inr ⟨_, _, rfl, rfl, .inr ⟨k, s, _, hk, (apL_seen (findR_seen hl hf)).trans hk, rfl, rfl⟩⟩
/-- two steps that came out alike -/
structure Alike (xs zs : List ByteArray) (o u : StepO) : Prop where
  R : u.R = o.R
  pc : u.pc = o.pc
  kind : u.kind = o.kind
  n : u.n = o.n
  two : Two xs zs o.xs u.xs
theorem step_ap {l : List Pte} {xs : List ByteArray} {z : ByteArray} (hl : l.length = 16) (R : List Nat) (pc : Nat) : Alike xs (apL l xs z xs.length) (stepR R pc l xs) (stepR R pc l (apL l xs z xs.length)) := by
  have triv : ∀ (R : List Nat) (pc : Nat) (k : Int) (n : Nat), Alike xs (apL l xs z xs.length) ⟨R, pc, xs, k, n⟩ ⟨R, pc, apL l xs z xs.length, k, n⟩ := fun R pc k n => ⟨rfl, rfl, rfl, rfl, .inl ⟨rfl, rfl⟩⟩
  unfold stepR
  rw [loadR_ap hl]
  split
  · exact triv _ _ _ _
  · split
    · exact triv _ _ _ _
    · unfold stDo
      rw [ldR_ap hl]
      split
      · exact triv _ _ _ _
      · split
        · exact triv _ _ _ _
        · split
          · exact triv _ _ _ _
          · split
            · split <;> exact triv _ _ _ _
            · split
              · rename_i x _ _ _ _ _ _
                rcases storeR_ap (z := z) (xs := xs) hl ((((R.set 0 0).getD x.b 0) + (x.imm % 4294967296).toNat) % 4294967296) (if x.op = 24 then 1 else 4) ((R.set 0 0).getD x.a 0) with ⟨h1, h2⟩ | ⟨ys, us, h1, h2, h3⟩
                · rw [h1, h2]; exact triv _ _ _ _
                · rw [h1, h2]; exact ⟨rfl, rfl, rfl, rfl, h3⟩
              · split
                · exact triv _ _ _ _
                · split
                  · exact triv _ _ _ _
                  · split <;> exact triv _ _ _ _
theorem Two.len {xs zs ys us : List ByteArray} (h : Two xs zs ys us) : ys.length = xs.length ∧ us.length = zs.length := by
  rcases h with ⟨rfl, rfl⟩ | ⟨k, s, t, _, _, rfl, rfl⟩ <;> simp
theorem Two.same {xs zs ys us : List ByteArray} (h : Two xs zs ys us) {i : Nat} (he : zs[i]? = xs[i]?) : ys[i]? = us[i]? := by
  rcases h with ⟨rfl, rfl⟩ | ⟨k, s, t, h1, h2, rfl, rfl⟩
  · exact he.symm
  · have a := (List.getElem?_eq_some_iff.1 h1).1
    have b := (List.getElem?_eq_some_iff.1 h2).1
    rw [List.getElem?_set, List.getElem?_set]
    by_cases e : k = i
    · rw [if_pos e, if_pos e, if_pos (by omega), if_pos (by omega)]
    · rw [if_neg e, if_neg e, he]
theorem Two.other {xs zs ys us : List ByteArray} (h : Two xs zs ys us) {i : Nat} (he : zs[i]? ≠ xs[i]?) : ys[i]? = xs[i]? ∧ us[i]? = zs[i]? := by
  rcases h with ⟨rfl, rfl⟩ | ⟨k, s, t, h1, h2, rfl, rfl⟩
  · exact ⟨rfl, rfl⟩
  · have e : ¬ k = i := by rintro rfl; exact he (h2.trans h1.symm)
    rw [List.getElem?_set, List.getElem?_set, if_neg e, if_neg e]
    exact ⟨rfl, rfl⟩
end Go.Proofs.YtcjakmnplkeldaaDoor
