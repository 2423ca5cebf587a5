/-
  Inodes, put and got: plain.
-/
import Derived.Test.YtclmocppphojfaaInoD
namespace Go.Proofs.Ytclmocppphojfaa
set_option linter.unusedVariables false
set_option linter.unusedSimpArgs false
def putInoL (bs : List UInt8) (p : Nat) (l : List Nat) : List UInt8 := bs.take p ++ fbytes l allF ++ bs.drop (p + 24)
theorem putInoB_list (s : ByteArray) (p : Nat) (l : List Nat) : (putInoB s p l).data.toList = putInoL s.data.toList p l := by unfold putInoB putInoL; simp
theorem putInoL_len (bs : List UInt8) (p : Nat) (l : List Nat) (h : p + 24 ≤ bs.length) : (putInoL bs p l).length = bs.length := by
  unfold putInoL
  rw [List.length_append, List.length_append, fbytes_all_len, List.length_take, List.length_drop]
  omega
theorem putInoB_size (s : ByteArray) (p : Nat) (l : List Nat) (h : p + 24 ≤ s.size) : (putInoB s p l).size = s.size := by
  have := putInoL_len s.data.toList p l (by rw [Array.length_toList]; exact h)
  rw [← putInoB_list, Array.length_toList, Array.length_toList] at this
  exact this
theorem putInoL_get (bs : List UInt8) (p : Nat) (l : List Nat) (h : p + 24 ≤ bs.length) (i : Nat) : (putInoL bs p l)[i]? = if p ≤ i ∧ i < p + 24 then (fbytes l allF)[i - p]? else bs[i]? := by
  have hf := fbytes_all_len l
  unfold putInoL
  rw [List.append_assoc, List.getElem?_append]
  have htl : (bs.take p).length = p := by rw [List.length_take]; omega
  rw [htl]
  by_cases h1 : i < p
  · rw [if_pos h1, if_neg (by omega), List.getElem?_take, if_pos h1]
  · rw [if_neg h1, List.getElem?_append, hf]
    by_cases h2 : i < p + 24
    · rw [if_pos (by omega), if_pos (by omega)]
    · rw [if_neg (by omega), if_neg (by omega), List.getElem?_drop]
      congr 1
      omega
/-- what lies apart of an inode is as it was -/
theorem numAt_put_other (bs : List UInt8) (p : Nat) (l : List Nat) (h : p + 24 ≤ bs.length) (q k : Nat) (hq : q + k ≤ p ∨ p + 24 ≤ q) : numAt (putInoL bs p l) q k = numAt bs q k := by
  unfold numAt
  congr 1
  apply List.ext_getElem?
  intro i
  rw [List.getElem?_take, List.getElem?_take]
  by_cases hi : i < k
  · rw [if_pos hi, if_pos hi, List.getElem?_drop, List.getElem?_drop, putInoL_get _ _ _ h, if_neg (by omega)]
  · rw [if_neg hi, if_neg hi]
theorem numAt_put_same (bs : List UInt8) (p : Nat) (l : List Nat) (h : p + 24 ≤ bs.length) (o k : Nat) (hq : o + k ≤ 24) : numAt (putInoL bs p l) (p + o) k = leN (((fbytes l allF).drop o).take k) := by
  unfold numAt
  congr 1
  apply List.ext_getElem?
  intro i
  rw [List.getElem?_take, List.getElem?_take]
  by_cases hi : i < k
  · rw [if_pos hi, if_pos hi, List.getElem?_drop, List.getElem?_drop, putInoL_get _ _ _ h, if_pos (by omega)]
    congr 1
    omega
  · rw [if_neg hi, if_neg hi]
theorem len12 {α : Type} {l : List α} (h : l.length = 12) : ∃ a0 a1 a2 a3 a4 a5 a6 a7 a8 a9 a10 a11, l = [a0, a1, a2, a3, a4, a5, a6, a7, a8, a9, a10, a11] := by
  match l, h with
  | [a0, a1, a2, a3, a4, a5, a6, a7, a8, a9, a10, a11], _ => exact ⟨_, _, _, _, _, _, _, _, _, _, _, _, rfl⟩
/-- may the numbers of an inode be? -/
def FitN (l : List Nat) : Prop := l.length = 12 ∧ ∀ i : Fin 12, l.getD (fof i) 0 < 256 ^ fsz i
theorem inoR_put {bs : List UInt8} {p : Nat} {l : List Nat} (h : p + 24 ≤ bs.length) (hl : FitN l) : inoR (putInoL bs p l) p = l := by
  obtain ⟨hlen, hf⟩ := hl
  obtain ⟨a0, a1, a2, a3, a4, a5, a6, a7, a8, a9, a10, a11, rfl⟩ := len12 hlen
  have key : ∀ (o k a : Nat), o + k ≤ 24 → (((fbytes [a0, a1, a2, a3, a4, a5, a6, a7, a8, a9, a10, a11] allF).drop o).take k) = putL a k → a < 256 ^ k → numAt (putInoL bs p [a0, a1, a2, a3, a4, a5, a6, a7, a8, a9, a10, a11]) (p + o) k = a := fun o k a h1 h2 h3 => by
    rw [numAt_put_same _ _ _ h _ _ h1, h2, leN_putL, Nat.mod_eq_of_lt h3]
  have k0 := key 0 1 a0 (by omega) rfl (hf 0)
  rw [Nat.add_zero] at k0
  unfold inoR
  rw [k0, key 2 2 a1 (by omega) rfl (hf 2), key 1 1 a2 (by omega) rfl (hf 1), key 4 4 a3 (by omega) rfl (hf 3), key 8 2 a4 (by omega) rfl (hf 4), key 10 2 a5 (by omega) rfl (hf 5), key 12 2 a6 (by omega) rfl (hf 6), key 14 2 a7 (by omega) rfl (hf 7), key 16 2 a8 (by omega) rfl (hf 8), key 18 2 a9 (by omega) rfl (hf 9), key 20 2 a10 (by omega) rfl (hf 10), key 22 2 a11 (by omega) rfl (hf 11)]
theorem inoR_other {bs : List UInt8} {p q : Nat} {l : List Nat} (h : p + 24 ≤ bs.length) (hq : q + 24 ≤ p ∨ p + 24 ≤ q) : inoR (putInoL bs p l) q = inoR bs q := by
  unfold inoR
  rw [numAt_put_other _ _ _ h q 1 (by omega), numAt_put_other _ _ _ h (q + 2) 2 (by omega), numAt_put_other _ _ _ h (q + 1) 1 (by omega), numAt_put_other _ _ _ h (q + 4) 4 (by omega), numAt_put_other _ _ _ h (q + 8) 2 (by omega), numAt_put_other _ _ _ h (q + 10) 2 (by omega), numAt_put_other _ _ _ h (q + 12) 2 (by omega), numAt_put_other _ _ _ h (q + 14) 2 (by omega), numAt_put_other _ _ _ h (q + 16) 2 (by omega), numAt_put_other _ _ _ h (q + 18) 2 (by omega), numAt_put_other _ _ _ h (q + 20) 2 (by omega), numAt_put_other _ _ _ h (q + 22) 2 (by omega)]
theorem putInoL_comm {bs : List UInt8} {p q : Nat} {x y : List Nat} (h : p + 24 ≤ bs.length) (h' : q + 24 ≤ bs.length) (hq : q + 24 ≤ p ∨ p + 24 ≤ q) : putInoL (putInoL bs p x) q y = putInoL (putInoL bs q y) p x := by
  have e1 := putInoL_len bs p x h
  have e2 := putInoL_len bs q y h'
  apply List.ext_getElem?
  intro i
  rw [putInoL_get _ _ _ (by omega), putInoL_get _ _ _ h, putInoL_get _ _ _ (by omega), putInoL_get _ _ _ h']
  by_cases h1 : q ≤ i ∧ i < q + 24
  · rw [if_pos h1, if_neg (by omega), if_pos h1]
  · rw [if_neg h1]
    by_cases h2 : p ≤ i ∧ i < p + 24
    · rw [if_pos h2, if_pos h2]
    · rw [if_neg h2, if_neg h2, if_neg h1]
theorem chunk (l : List UInt8) (a k : Nat) : l.take a ++ (l.drop a).take k = l.take (a + k) := by
  rw [List.take_add]
theorem putL_numAt (bs : List UInt8) (q k : Nat) (h : q + k ≤ bs.length) : putL (numAt bs q k) k = (bs.drop q).take k := by
  unfold numAt
  have hl : ((bs.drop q).take k).length = k := by rw [List.length_take, List.length_drop]; omega
  have := putL_leN ((bs.drop q).take k)
  rwa [hl] at this
theorem putInoL_self {bs : List UInt8} {p : Nat} (h : p + 24 ≤ bs.length) : putInoL bs p (inoR bs p) = bs := by
  have hb : fbytes (inoR bs p) allF = (bs.drop p).take 24 := by
    have e : fbytes (inoR bs p) allF = putL (numAt bs p 1) 1 ++ (putL (numAt bs (p + 1) 1) 1 ++ (putL (numAt bs (p + 2) 2) 2 ++ (putL (numAt bs (p + 4) 4) 4 ++ (putL (numAt bs (p + 8) 2) 2 ++ (putL (numAt bs (p + 10) 2) 2 ++ (putL (numAt bs (p + 12) 2) 2 ++ (putL (numAt bs (p + 14) 2) 2 ++ (putL (numAt bs (p + 16) 2) 2 ++ (putL (numAt bs (p + 18) 2) 2 ++ (putL (numAt bs (p + 20) 2) 2 ++ (putL (numAt bs (p + 22) 2) 2 ++ []))))))))))) := rfl
    rw [e, putL_numAt _ _ _ (by omega), putL_numAt _ _ _ (by omega), putL_numAt _ _ _ (by omega), putL_numAt _ _ _ (by omega), putL_numAt _ _ _ (by omega), putL_numAt _ _ _ (by omega), putL_numAt _ _ _ (by omega), putL_numAt _ _ _ (by omega), putL_numAt _ _ _ (by omega), putL_numAt _ _ _ (by omega), putL_numAt _ _ _ (by omega), putL_numAt _ _ _ (by omega)]
    simp only [← List.drop_drop, ← List.append_assoc, chunk, List.append_nil, Nat.reduceAdd]
  unfold putInoL
  rw [hb, List.append_assoc]
  conv => rhs; rw [← List.take_append_drop p bs]
  congr 1
  rw [← List.drop_drop]
  exact List.take_append_drop 24 _
end Go.Proofs.Ytclmocppphojfaa
