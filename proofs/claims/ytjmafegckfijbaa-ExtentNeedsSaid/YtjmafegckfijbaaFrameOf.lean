/-
  Behind a region that was walked by an invariant: the frame is the old one with the region's slots put.
-/
import Derived.Test.YtjmafegckfijbaaInfra
namespace Go.Proofs.Ytjmafegckfijbaa
open Go.RowKit
set_option linter.unusedSimpArgs false
def putsD (b : Act) : List (Nat × Value) → Act
  | [] => b
  | (d, v) :: r => putsD (b.put (some d) v) r
theorem frame_of {a' : Act} : ∀ (ds : List Nat) {a : Act}, a'.defers = a.defers → a'.tmps.size = a.tmps.size → (∀ t, t ∉ ds → a'.tmps[t]? = a.tmps[t]?) → a' = putsD a (ds.map fun d => (d, a'.tmps.getD d undef))
  | [], a, hd, hs, hr => by
    cases a'; cases a
    simp only at hd hs hr
    subst hd
    have : ∀ (x y : Array Value), (∀ t, x[t]? = y[t]?) → x = y := fun x y h => Array.ext_getElem? h
    rw [this _ _ (fun t => hr t (by simp))]
    rfl
  | d :: r, a, hd, hs, hr => by
    show a' = putsD (a.put (some d) (a'.tmps.getD d undef)) (r.map fun d => (d, a'.tmps.getD d undef))
    refine frame_of r hd (by rw [hs]; simp [Act.put]) (fun t ht => ?_)
    by_cases e : t = d
    · subst e
      by_cases hlt : t < a.tmps.size
      · have : t < a'.tmps.size := by omega
        simp [Act.put, Array.getElem?_setIfInBounds, hlt, this, Array.getD_eq_getD_getElem?]
      · rw [Array.getElem?_eq_none (by omega), Array.getElem?_eq_none (by simp [Act.put]; omega)]
    · rw [hr t (by simp [e, ht])]
      simp [Act.put, Array.getElem?_setIfInBounds, Ne.symm e]
theorem notDst_of {l : List Oper} {n : Nat} {ds : List Nat} (h : (l.take n).filterMap (fun o => o.dst) = ds) {t : Nat} (ht : t ∉ ds) : ∀ (j : Nat) (oj : Oper), j < n → l[j]? = some oj → oj.dst ≠ some t := by
  intro j oj hj ho e
  apply ht
  rw [← h, List.mem_filterMap]
  refine ⟨oj, List.mem_of_getElem? (i := j) ?_, e⟩
  rw [List.getElem?_take, if_pos hj]; exact ho
theorem notDstQ {l : List Oper} {t : Nat} (h : l.all (fun o => o.dst != some t) = true) : ∀ (j : Nat) (oj : Oper), l.toArray[j]? = some oj → oj.dst ≠ some t := fun j oj hj => by
  have := List.all_eq_true.1 h oj (List.mem_of_getElem? (by simpa using hj))
  simpa using this
end Go.Proofs.Ytjmafegckfijbaa
