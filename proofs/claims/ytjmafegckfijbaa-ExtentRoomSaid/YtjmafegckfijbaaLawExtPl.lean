/-
  What all bytes of the files are behind a write and behind a cut (plain).
-/
import Derived.Test.YtjmafegckfijbaaLaidPl
namespace Go.Proofs.Ytjmafegckfijbaa
set_option linter.unusedVariables false
set_option linter.unusedSimpArgs false
section
variable {V W : List ByteArray} {m n off size : Nat} {F : List Nat} {d : List UInt8} {l' : List Nat} {ys : List ByteArray}
/-- bytes cut to a size, or with zeros up to it -/
def cutL (size : Nat) (l : List UInt8) : List UInt8 := l.take size ++ List.replicate (size - l.length) 0
theorem cutL_len (size : Nat) (l : List UInt8) : (cutL size l).length = size := by unfold cutL; simp; omega
theorem cutL_get (size : Nat) (l : List UInt8) (i : Nat) : (cutL size l)[i]? = if i < size then some (l.getD i 0) else none := by
  unfold cutL
  by_cases h : i < size
  · rw [if_pos h]
    by_cases h2 : i < l.length
    · rw [List.getElem?_append_left (by simp; omega), List.getElem?_take, if_pos h, List.getD_eq_getElem?_getD, List.getElem?_eq_getElem h2]; rfl
    · rw [List.getElem?_append_right (by simp; omega), List.getElem?_replicate, if_pos (by simp; omega), List.getD_eq_getElem?_getD, List.getElem?_eq_none (by omega)]; rfl
  · rw [if_neg h, List.getElem?_eq_none (by simp; omega)]
theorem whole_get (h : SndV V m F) (hn : n ∈ F) (i : Nat) : (wholeX V n)[i]? = if i < sizeX (getR V (n : Int)) then some (byteX V m (getR V (n : Int)) i) else none := by
  rw [wholeX_eq h hn, List.getElem?_map]
  by_cases hi : i < sizeX (getR V (n : Int))
  · rw [if_pos hi, List.getElem?_range hi]; rfl
  · rw [if_neg hi, List.getElem?_eq_none (by simpa using hi)]; rfl
theorem whole_len (h : SndV V m F) (hn : n ∈ F) : (wholeX V n).length = sizeX (getR V (n : Int)) := by rw [wholeX_eq h hn]; simp
theorem whole_getD (h : SndV V m F) (hn : n ∈ F) {i : Nat} (hi : i < 8960) : (wholeX V n).getD i 0 = byteX V m (getR V (n : Int)) i := by
  rw [List.getD_eq_getElem?_getD, whole_get h hn]
  by_cases h1 : i < sizeX (getR V (n : Int))
  · rw [if_pos h1]; rfl
  · rw [if_neg h1, (h.good n hn).zero i (by omega) hi]; rfl
theorem StepV.other_whole (h : SndV V m F) (s : StepV V m F n ys l' W) {k : Nat} (hk : k ∈ F) (hne : k ≠ n) : wholeX W k = wholeX V k := by
  obtain ⟨a, b, c⟩ := s.other k hk hne
  rw [wholeX_eq h hk, wholeX_eq s.snd hk, a]
  refine List.map_congr_left (fun i hi => c i ?_)
  have := List.mem_range.1 hi
  have := sizeX_le (getR V (k : Int))
  omega
theorem CutV.whole (h : SndV V m F) (hn : n ∈ F) (c : CutV V m F n size W) : wholeX W n = cutL size (wholeX V n) := by
  obtain ⟨r, cs, st⟩ := c.st
  apply List.ext_getElem?
  intro i
  rw [whole_get st.snd hn, cutL_get, st.get, cs.size]
  by_cases hi : i < size
  · have := c.small
    rw [if_pos hi, if_pos hi, st.byte, cs.byte i (by omega), if_pos hi, whole_getD h hn (by omega)]
  · rw [if_neg hi, if_neg hi]
/-- bytes with others written over them, zeros between -/
def wrL (off : Nat) (d l : List UInt8) : List UInt8 := if d = [] then l else (cutL (max l.length (off + d.length)) l).take off ++ d ++ (cutL (max l.length (off + d.length)) l).drop (off + d.length)
theorem wrL_get (off : Nat) (d l : List UInt8) (hd : d ≠ []) (i : Nat) : (wrL off d l)[i]? = if i < max l.length (off + d.length) then some (if off ≤ i ∧ i < off + d.length then d.getD (i - off) 0 else l.getD i 0) else none := by
  unfold wrL
  rw [if_neg hd]
  have e := cutL_len (max l.length (off + d.length)) l
  have e1 : ((cutL (max l.length (off + d.length)) l).take off).length = off := by rw [List.length_take, e]; omega
  have e2 : ((cutL (max l.length (off + d.length)) l).take off ++ d).length = off + d.length := by rw [List.length_append, e1]
  by_cases h1 : i < off
  · rw [if_pos (by omega), if_neg (by omega), List.getElem?_append_left (by omega), List.getElem?_append_left (by omega), List.getElem?_take, if_pos h1, cutL_get, if_pos (by omega)]
  · by_cases h2 : i < off + d.length
    · rw [if_pos (by omega), if_pos ⟨by omega, h2⟩, List.getElem?_append_left (by omega), List.getElem?_append_right (by omega), e1, List.getD_eq_getElem?_getD, List.getElem?_eq_getElem (by omega)]; rfl
    · rw [List.getElem?_append_right (by omega), e2, List.getElem?_drop, cutL_get, show off + d.length + (i - (off + d.length)) = i by omega, if_neg (show ¬ (off ≤ i ∧ i < off + d.length) by omega)]
theorem WroteV.whole (h : SndV V m F) (hn : n ∈ F) (c : WroteV V m F n off d W) : wholeX W n = wrL off d (wholeX V n) := by
  obtain ⟨r, ws, st, _⟩ := c.st
  have hz := sizeX_le (getR V (n : Int))
  have hs := c.small
  by_cases hd : d = []
  · have e : wrL off d (wholeX V n) = wholeX V n := by unfold wrL; rw [if_pos hd]
    have ez := ws.size
    rw [if_pos hd] at ez
    rw [e, wholeX_eq h hn, wholeX_eq st.snd hn, st.get, ez]
    refine List.map_congr_left (fun i hi => ?_)
    have := List.mem_range.1 hi
    rw [st.byte, ws.byte i (by omega)]
    unfold wrF
    rw [if_neg (by rw [hd]; simp)]
  · have ez := ws.size
    rw [if_neg hd] at ez
    apply List.ext_getElem?
    intro i
    rw [whole_get st.snd hn, wrL_get _ _ _ hd, st.get, ez, whole_len h hn]
    by_cases hi : i < max (sizeX (getR V (n : Int))) (off + d.length)
    · rw [if_pos hi, if_pos hi, st.byte, ws.byte i (by omega), whole_getD h hn (by omega)]; rfl
    · rw [if_neg hi, if_neg hi]
end
theorem mem1 : 1 ∈ filesF := by decide
theorem mem2 : 2 ∈ filesF := by decide
theorem mem3 : 3 ∈ filesF := by decide
/-- ExtentCuts, in plain words -/
theorem cuts_plain {V : List ByteArray} (h : LaidS V) {size more : Nat} (hs : size ≤ 8960) (hm : more ≤ 8960) :
    (cutO V 2 size).2 = 0 ∧ (cutO (cutO V 2 size).1 2 more).2 = 0 ∧ LaidS (cutO V 2 size).1 ∧ LaidS (cutO (cutO V 2 size).1 2 more).1 ∧
    wholeX (cutO V 2 size).1 2 = cutL size (wholeX V 2) ∧ wholeX (cutO (cutO V 2 size).1 2 more).1 2 = cutL more (cutL size (wholeX V 2)) ∧
    wholeX (cutO (cutO V 2 size).1 2 more).1 1 = wholeX V 1 ∧ wholeX (cutO (cutO V 2 size).1 2 more).1 3 = wholeX V 3 := by
  have key : ∀ {V : List ByteArray}, LaidS V → ∀ {size : Nat}, size ≤ 8960 → (cutO V 2 size).2 = 0 ∧ CutV V 4 filesF 2 size (cutO V 2 size).1 := by
    intro V h size hs
    rcases h.snd.cut filesF_nodup mem2 (size : Int) with ⟨a, _, c⟩ | ⟨_, c | c⟩
    · rw [Int.toNat_natCast] at c
      exact ⟨a, c⟩
    · omega
    · omega
  obtain ⟨a1, c1⟩ := key h hs
  obtain ⟨r1, _, s1⟩ := c1.st
  have h1 : LaidS (cutO V 2 size).1 := s1.laid h
  obtain ⟨a2, c2⟩ := key h1 hm
  obtain ⟨r2, _, s2⟩ := c2.st
  refine ⟨a1, a2, h1, s2.laid h1, c1.whole h.snd mem2, ?_, ?_, ?_⟩
  · rw [c2.whole h1.snd mem2, c1.whole h.snd mem2]
  · rw [s2.other_whole h1.snd mem1 (by decide), s1.other_whole h.snd mem1 (by decide)]
  · rw [s2.other_whole h1.snd mem3 (by decide), s1.other_whole h.snd mem3 (by decide)]
end Go.Proofs.Ytjmafegckfijbaa
