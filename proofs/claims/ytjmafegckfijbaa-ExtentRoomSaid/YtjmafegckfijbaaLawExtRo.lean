/-
  ExtentRoom, in plain words; and what the map of the blocks met reads as.
-/
import Derived.Test.YtjmafegckfijbaaLawExtPl
import Derived.Maps.Own
import Derived.Maps.Views
namespace Go.Proofs.Ytjmafegckfijbaa
open Go.Maps
set_option linter.unusedVariables false
set_option linter.unusedSimpArgs false
section
variable {V W : List ByteArray} {n i j k b : Nat}
/-- the block k of the file n -/
def blkF (V : List ByteArray) (n k : Nat) : Nat := atX V 4 (getR V (n : Int)) k
theorem blkF_used (h : LaidS V) (hn : n ∈ filesF) (hk : k < 70) (h0 : blkF V n k ≠ 0) : usedR V (blkF V n k : Nat) = true := by
  have g := h.snd.good n hn
  have hb : bitV V (blkF V n k) = true := by
    have e : slotX V 4 (getR V (n : Int)) k = blkF V n k := slotX_lt hk
    rw [← e]
    exact g.own.used k (by omega) (by rw [e]; exact h0)
  have hlt := bitV_dat h.snd.vol hb
  unfold usedR
  rw [ofR_some.2 h.snd.vol]
  show (decide (_ ∧ _) && bitL (blkL V 2) (Int.toNat (blkF V n k : Int))) = true
  rw [Int.toNat_natCast, decide_eq_true (by omega)]
  exact hb
theorem blkF_inj (h : LaidS V) {n' k' : Nat} (hn : n ∈ filesF) (hn' : n' ∈ filesF) (hk : k < 70) (hk' : k' < 70) (e : blkF V n k = blkF V n' k') (h0 : blkF V n k ≠ 0) : n = n' ∧ k = k' := by
  have e1 : slotX V 4 (getR V (n : Int)) k = blkF V n k := slotX_lt hk
  have e2 : slotX V 4 (getR V (n' : Int)) k' = blkF V n' k' := slotX_lt hk'
  by_cases hne : n = n'
  · subst hne
    exact ⟨rfl, (h.snd.good n hn).own.inj k k' (by omega) (by omega) (by rw [e1, e2, e]) (by rw [e1]; exact h0)⟩
  · exfalso
    have := h.snd.apart n hn n' hn' hne k k' (by omega) (by omega) (by rw [e1, e2, e])
    rw [e1] at this
    exact h0 this
/-- the blocks of all files below i, and the first j of the next -/
def seenB (V : List ByteArray) (i j b : Nat) : Prop := ∃ n k, n ∈ filesF ∧ k < 70 ∧ blkF V n k = b ∧ (n ≤ i ∨ n = i + 1 ∧ k < j)
theorem seenB_up (h : seenB V i j b) : seenB V i (j + 1) b := by
  obtain ⟨n, k, h1, h2, h3, h4⟩ := h
  exact ⟨n, k, h1, h2, h3, by omega⟩
theorem seenB_next (h : seenB V i j b) : seenB V (i + 1) 0 b := by
  obtain ⟨n, k, h1, h2, h3, h4⟩ := h
  exact ⟨n, k, h1, h2, h3, by omega⟩
theorem seenB_new (h : LaidS V) (hn : i + 1 ∈ filesF) (hj : j < 70) (h0 : blkF V (i + 1) j ≠ 0) : ¬ seenB V i j (blkF V (i + 1) j) := by
  rintro ⟨n, k, h1, h2, h3, h4⟩
  obtain ⟨e1, e2⟩ := blkF_inj h h1 hn h2 hj h3 (by rw [h3]; exact h0)
  omega
theorem seenB_this (hn : i + 1 ∈ filesF) (hj : j < 70) : seenB V i (j + 1) (blkF V (i + 1) j) := ⟨i + 1, j, hn, hj, rfl, .inr ⟨rfl, by omega⟩⟩
/-- the map of the blocks met -/
def MetOk (V : List ByteArray) (i j : Nat) (D : DataW Unit) : Prop := IsMap D ∧ ∀ b : Nat, ¬ seenB V i j b → D.atKey (.int .i64 (b : Int)) (.lit (.int .i64 0)) = .lit (.int .i64 0)
theorem MetOk.start (V : List ByteArray) : MetOk V 0 0 (.map []) := ⟨isMap_empty, fun b _ => rfl⟩
theorem MetOk.up {D : DataW Unit} (h : MetOk V i j D) : MetOk V i (j + 1) D := ⟨h.1, fun b hb => h.2 b (fun hs => hb (seenB_up hs))⟩
theorem MetOk.next {D : DataW Unit} (h : MetOk V i j D) : MetOk V (i + 1) 0 D := ⟨h.1, fun b hb => h.2 b (fun hs => hb (seenB_next hs))⟩
theorem MetOk.put {D : DataW Unit} (h : MetOk V i j D) (hn : i + 1 ∈ filesF) (hj : j < 70) : MetOk V i (j + 1) (D.put (.int .i64 (blkF V (i + 1) j : Nat)) (.lit (.int .i64 1))) := by
  refine ⟨h.1.put _ _, fun b hb => ?_⟩
  have hne : (Lit.int .i64 (b : Int)) ≠ .int .i64 (blkF V (i + 1) j : Nat) := fun e => by
    injection e with _ e
    have : b = blkF V (i + 1) j := by omega
    exact hb (by rw [this]; exact seenB_this hn hj)
  rw [atKey_put_other hne]
  exact h.2 b (fun hs => hb (seenB_up hs))
theorem key_zero {D : DataW Unit} {kl : Lit} {c : Int} (h : D.atKey kl (.lit (.int .i64 0)) = .lit (.int .i64 c)) {z : Int} (h2 : D.atKey kl (.lit (.int .i64 0)) = .lit (.int .i64 z)) : c = z := by
  rw [h] at h2
  injection h2 with h2
  injection h2 with _ h2
/-- what all files have together -/
def sumQ (V : List ByteArray) (i : Nat) : Nat := ((List.range i).map fun k => countO V ((k + 1 : Nat) : Int)).sum
theorem sumQ_succ (V : List ByteArray) (i : Nat) : sumQ V (i + 1) = sumQ V i + countO V ((i + 1 : Nat) : Int) := by
  unfold sumQ
  rw [List.range_succ, List.map_append, List.sum_append]
  simp
theorem sumQ_room (h : LaidS V) : roomR V + sumQ V 3 = roomR (fmtV 40 4) := by
  rw [← h.room]
  congr 1
  unfold sumQ sumC filesF
  simp only [show List.range 3 = [0, 1, 2] from rfl, List.map_cons, List.map_nil, List.sum_cons, List.sum_nil]
  rw [countO_vol h.snd (show 0 + 1 ∈ filesF by decide), countO_vol h.snd (show 1 + 1 ∈ filesF by decide), countO_vol h.snd (show 2 + 1 ∈ filesF by decide)]
theorem sumQ_le (h : LaidS V) {i : Nat} (hi : i ≤ 3) : sumQ V i ≤ sumQ V 3 := by
  have h1 : sumQ V 1 = sumQ V 0 + _ := sumQ_succ V 0
  have h2 : sumQ V 2 = sumQ V 1 + _ := sumQ_succ V 1
  have h3 : sumQ V 3 = sumQ V 2 + _ := sumQ_succ V 2
  have key : i = 0 ∨ i = 1 ∨ i = 2 ∨ i = 3 := by omega
  rcases key with rfl | rfl | rfl | rfl <;> omega
/-- the volume behind so many files cut to nothing -/
def cutQ (V : List ByteArray) : Nat → List ByteArray
  | 0 => V
  | i + 1 => (cutO (cutQ V i) ((i + 1 : Nat) : Int) 0).1
theorem cutQ_one (h : LaidS W) (hn : n ∈ filesF) : (cutO W (n : Int) 0).2 = 0 ∧ LaidS (cutO W (n : Int) 0).1 ∧ cntS (cutO W (n : Int) 0).1 4 (getR (cutO W (n : Int) 0).1 (n : Int)) = 0 ∧ ∀ k ∈ filesF, k ≠ n → cntS (cutO W (n : Int) 0).1 4 (getR (cutO W (n : Int) 0).1 (k : Int)) = cntS W 4 (getR W (k : Int)) := by
  rcases h.snd.cut filesF_nodup hn 0 with ⟨a, _, c⟩ | ⟨_, c | c⟩
  · obtain ⟨r, cs, st⟩ := c.st
    refine ⟨a, st.laid h, ?_, fun k hk hne => ?_⟩
    · have h70 : slotX r.1 4 r.2 70 = 0 := Classical.byContradiction fun hx => by
        have := (cs.ind hx).2
        exact absurd this (by decide)
      rw [st.get]
      unfold cntS
      rw [List.length_eq_zero_iff, List.filter_eq_nil_iff]
      intro s hs
      have hs71 := List.mem_range.1 hs
      rw [st.slot]
      by_cases e : s = 70
      · rw [e, h70]; decide
      · rw [slotX_lt (by omega), cs.at_ s (by omega), if_neg (by unfold needN; simp)]
        decide
    · obtain ⟨o1, o2, _⟩ := st.other k hk hne
      rw [o1]
      exact cntS_congr o2
  · omega
  · omega
theorem cutQ_all (h : LaidS V) : ∀ i, i ≤ 3 → LaidS (cutQ V i) ∧ ∀ n, 1 ≤ n → n ≤ i → cntS (cutQ V i) 4 (getR (cutQ V i) (n : Int)) = 0
  | 0, _ => ⟨h, fun n h1 h2 => by omega⟩
  | i + 1, hi => by
    obtain ⟨h1, h2⟩ := cutQ_all h i (by omega)
    obtain ⟨a, b, c, d⟩ := cutQ_one h1 (n := i + 1) (filesF_mem.2 (by omega))
    refine ⟨b, fun n h3 h4 => ?_⟩
    by_cases e : n = i + 1
    · rw [e]; exact c
    · exact (d n (filesF_mem.2 (by omega)) e).trans (h2 n h3 (by omega))
theorem cutQ_room (h : LaidS V) : roomR (cutQ V 3) = roomR (fmtV 40 4) := by
  obtain ⟨h1, h2⟩ := cutQ_all h 3 (Nat.le_refl _)
  rw [← h1.room]
  unfold sumC filesF
  simp only [List.map_cons, List.map_nil, List.sum_cons, List.sum_nil]
  rw [h2 1 (by omega) (by omega), h2 2 (by omega) (by omega), h2 3 (by omega) (by omega)]
  rfl
theorem cutQ_step (h : LaidS V) (hi : i < 3) : (cutO (cutQ V i) ((i + 1 : Nat) : Int) 0).2 = 0 ∧ countO (cutQ V (i + 1)) ((i + 1 : Nat) : Int) = 0 := by
  have h1 := (cutQ_all h i (by omega)).1
  obtain ⟨a, b, c, d⟩ := cutQ_one h1 (n := i + 1) (filesF_mem.2 (by omega))
  refine ⟨a, ?_⟩
  rw [countO_vol (V := cutQ V (i + 1)) (m := 4) (F := filesF) b.snd (filesF_mem.2 (by omega))]
  exact c
end
end Go.Proofs.Ytjmafegckfijbaa
