/-
  Joined in one text: Snd20, IntRow, Sound20, LawQuoSm, LawQuoSums.
-/
import Derived.Test.YtjmafegckfijbaaExtSnd
import Derived.Test.YtjmafegckfijbaaInfra
import Derived.ArgAppend
import Derived.Test.YtjmafegckfijbaaRExtCnt
import Derived.Test.YtjmafegckfijbaaRGeomU
import Derived.Test.YtjmafegckfijbaaRInoAll
import Derived.BigQuiet
import Derived.Test.YtjmafegckfijbaaQuoA
import Derived.Test.YtjmafegckfijbaaLaidPl
import Derived.Test.YtjmafegckfijbaaQuoAlive
import Derived.Test.YtjmafegckfijbaaQuoB
namespace Go.Proofs.Ytjmafegckfijbaa
set_option linter.unusedVariables false
set_option linter.unusedSimpArgs false
/-- the first eight numbers of an inode -/
def dirL (l : List Nat) (k : Nat) : List Nat := [l.getD 10 0, l.getD 11 0] ++ (List.range k).map fun j => l.getD (4 + j) 0
def indL (xs : List ByteArray) (b k : Nat) : List Nat := (List.range k).map fun j => numAt (blkL xs b) (2 * j) 2
/-- all numbers of blocks of an inode -/
def numsL (xs : List ByteArray) (m : Nat) (l : List Nat) : List Nat := dirL l 6 ++ (if datB xs m (l.getD 10 0) = true then indL xs (l.getD 10 0) 64 else [])
theorem dirL_len (l : List Nat) (k : Nat) : (dirL l k).length = 2 + k := by unfold dirL; simp; omega
theorem indL_len (xs : List ByteArray) (b k : Nat) : (indL xs b k).length = k := by unfold indL; simp
theorem dirL_succ (l : List Nat) (k : Nat) : dirL l (k + 1) = dirL l k ++ [l.getD (4 + k) 0] := by
  unfold dirL
  rw [List.range_succ, List.map_append, ← List.append_assoc]; rfl
theorem indL_succ (xs : List ByteArray) (b k : Nat) : indL xs b (k + 1) = indL xs b k ++ [numAt (blkL xs b) (2 * k) 2] := by
  unfold indL
  rw [List.range_succ, List.map_append]; rfl
theorem numsL_len (xs : List ByteArray) (m : Nat) (l : List Nat) : (numsL xs m l).length ≤ 72 := by
  unfold numsL
  rw [List.length_append, dirL_len]
  split
  · rw [indL_len]; omega
  · simp
/-- each number that these inodes name is that of a block which is taken -/
def SndU (xs : List ByteArray) (m : Nat) (ns : List Nat) : Prop := ∀ n ∈ ns, ∀ z ∈ numsL xs m (getR xs (n : Int)), z ≠ 0 → usedR xs (z : Int) = true
theorem SndU.snoc {xs : List ByteArray} {m n : Nat} {ns : List Nat} (h : SndU xs m ns) (hn : ∀ z ∈ numsL xs m (getR xs (n : Int)), z ≠ 0 → usedR xs (z : Int) = true) : SndU xs m (ns ++ [n]) := by
  intro k hk
  rcases List.mem_append.1 hk with h1 | h1
  · exact h k h1
  · rw [List.mem_singleton.1 h1]; exact hn
theorem usedR_bit {xs : List ByteArray} {m z : Nat} (hv : IsVol xs m) (h : usedR xs (z : Int) = true) : bitV xs z = true := by
  unfold usedR at h
  rw [ofR_some.2 hv] at h
  have := (Bool.and_eq_true_iff.1 h).2
  rw [Int.toNat_natCast] at this
  exact this
theorem slot_mem {xs : List ByteArray} {m : Nat} {l : List Nat} {s : Nat} (hs : s < 71) (h0 : slotX xs m l s ≠ 0) : slotX xs m l s ∈ numsL xs m l := by
  unfold numsL
  by_cases h70 : s = 70
  · subst h70
    obtain ⟨_, e⟩ := slot_ind_ne h0
    rw [e]
    unfold dirL
    simp
  · rw [slotX_lt (by omega)] at h0 ⊢
    by_cases h6 : s < 6
    · rw [at_low h6] at h0 ⊢
      split at h0
      · rename_i hd
        rw [if_pos hd]
        unfold dirL
        simp only [List.mem_append, List.mem_map, List.mem_range]
        exact .inl (.inr ⟨s, h6, rfl⟩)
      · exact absurd rfl h0
    · have hi : slotX xs m l 70 ≠ 0 := fun e => h0 (at_hi0 (by omega) e)
      obtain ⟨hd, e⟩ := slot_ind_ne hi
      rw [at_hi (by omega) hi, e] at h0 ⊢
      split at h0
      · rename_i hd2
        rw [if_pos hd2, if_pos hd]
        unfold indL
        simp only [List.mem_append, List.mem_map, List.mem_range]
        exact .inr ⟨s - 6, by omega, rfl⟩
      · exact absurd rfl h0
theorem SndU.used {xs : List ByteArray} {m n : Nat} {ns : List Nat} (h : SndU xs m ns) (hv : IsVol xs m) (hn : n ∈ ns) : ∀ s, s < 71 → slotX xs m (getR xs (n : Int)) s ≠ 0 → bitV xs (slotX xs m (getR xs (n : Int)) s) = true :=
  fun s hs h0 => usedR_bit hv (h n hn _ (slot_mem hs h0) h0)
end Go.Proofs.Ytjmafegckfijbaa

namespace Go.Proofs.Ytjmafegckfijbaa
open Go.RowKit
set_option linter.unusedVariables false
set_option linter.unusedSimpArgs false
structure IRow (w : World) (g cap : Nat) (l : List Int) : Prop where
  lt : g < w.heap.size
  le : l.length ≤ cap
  max : cap ≤ maxLen
  there : ∀ j, j < cap → (w.cell? ⟨g, j, none⟩).isSome = true ∧ w.frozen? ⟨g, j, none⟩ = false
  cell : ∀ j u, l[j]? = some u → w.cell? ⟨g, j, none⟩ = some (.int .i64 u)
theorem IRow.kept {w w' : World} {g cap : Nat} {l : List Int} (h : IRow w g cap l) (hz : w.heap.size ≤ w'.heap.size) (hb : w'.heap[g]? = w.heap[g]?) : IRow w' g cap l :=
  ⟨Nat.lt_of_lt_of_le h.lt hz, h.le, h.max, fun j hj => by rw [World.cell?_of_block (a := ⟨g, j, none⟩) hb, World.frozen?_of_block (a := ⟨g, j, none⟩) hb]; exact h.there j hj, fun j u hu => (World.cell?_of_block (a := ⟨g, j, none⟩) hb).trans (h.cell j u hu)⟩
theorem IRow.below {w w' : World} {B g cap : Nat} {l : List Int} (h : IRow w g cap l) (hb : Below B w w') (hg : g < B) : IRow w' g cap l := h.kept hb.size (hb.block g hg)
theorem IRow.new (w : World) (e : TypeId) (l : List Int) (hl : l.length ≤ maxLen) : IRow (w.alloc (.cells (l.map (Value.int .i64)).toArray e)) w.heap.size l.length l := by
  have hb := Blk.new w e (l.map (Value.int .i64)).toArray
  refine ⟨hb.lt, Nat.le_refl _, hl, fun j hj => ⟨?_, hb.frozen j⟩, fun j u hu => hb.cell j (by simp [hu])⟩
  rw [hb.cell j (v := .int .i64 l[j]) (by simp [hj])]
  rfl
theorem IRow.set {w : World} {g cap : Nat} {l : List Int} (h : IRow w g cap l) (hr : l.length + 1 ≤ cap) (b : Int) : IRow (w.setCell ⟨g, l.length, none⟩ (.int .i64 b)) g cap (l ++ [b]) := by
  have h0 := h.there l.length (by omega)
  refine ⟨by simpa using h.lt, by simpa using hr, h.max, fun j hj => ⟨?_, ?_⟩, fun j u hu => ?_⟩
  · by_cases e : j = l.length
    · subst e
      rw [World.cell?_setCell_same' _ _ _ h0.1]; rfl
    · rw [World.cell?_setCell_other (h := fun h => e (by injection h with _ h _; exact h.symm))]
      exact (h.there j hj).1
  · rw [World.frozen?_setCell]; exact (h.there j hj).2
  · by_cases e : j < l.length
    · rw [World.cell?_setCell_other (h := fun h => by injection h with _ h _; omega)]
      rw [List.getElem?_append_left e] at hu
      exact h.cell j u hu
    · have hj2 : j = l.length := by
        have := (List.getElem?_eq_some_iff.1 hu).1
        rw [List.length_append] at this
        have h1 : ([b] : List Int).length = 1 := rfl
        omega
      subst hj2
      rw [World.cell?_setCell_same' _ _ _ h0.1]
      rw [List.getElem?_append_right (Nat.le_refl _)] at hu
      simp at hu
      rw [hu]
/-- a row that is not the block g -/
def RowOff (w : World) (g : Nat) (A : Option Addr) (xs : List Value) : Prop := xs = [] ∨ ∃ b o, A = some ⟨b, o, none⟩ ∧ b < w.heap.size ∧ b ≠ g ∧ ∀ i v, xs[i]? = some v → w.cell? ⟨b, o + i, none⟩ = some v
theorem RowOff.below {w w' : World} {g : Nat} {A : Option Addr} {xs : List Value} (h : RowOff w g A xs) (hb : Below w.heap.size w w') : RowOff w' g A xs := by
  rcases h with h | ⟨b, o, hA, hl, hg, hc⟩
  · exact .inl h
  · exact .inr ⟨b, o, hA, Nat.lt_of_lt_of_le hl hb.size, hg, fun i v hv => (hb.cell (p := ⟨b, o + i, none⟩) hl).trans (hc i v hv)⟩
theorem RowOff.push {w w' : World} {g g' : Nat} {A : Option Addr} {xs : List Value} (h : RowOff w g A xs) (hg' : g' = g ∨ w.heap.size ≤ g') (hb : w.grownBy w' (some g)) : RowOff w' g' A xs := by
  rcases h with h | ⟨b, o, hA, hl, hg, hc⟩
  · exact .inl h
  · refine .inr ⟨b, o, hA, Nat.lt_of_lt_of_le hl hb.size, ?_, fun i v hv => (World.cell?_of_block (a := ⟨b, o + i, none⟩) (hb.block b hl (by simpa using hg))).trans (hc i v hv)⟩
    rcases hg' with e | e
    · rw [e]; exact hg
    · omega
theorem RowOff.of_low {w : World} {B g : Nat} {A : Option Addr} {xs : List Value} (h : RowAt w B A xs) (hB : B ≤ w.heap.size) (hg : B ≤ g) : RowOff w g A xs := by
  rcases Nat.eq_zero_or_pos xs.length with h0 | h0
  · exact .inl (List.eq_nil_of_length_eq_zero h0)
  · obtain ⟨b, o, hA, hl, hc⟩ := h.at_ h0
    exact .inr ⟨b, o, hA, by omega, by omega, hc⟩
theorem RowOff.of_own {w : World} {base g : Nat} {e : TypeId} {A : Option Addr} {n c : Nat} {xs : List Value} (h : w.ownsRow base e 1 (.slice A n c) n xs) (hg : g < base) : RowOff w g A xs := by
  rcases Nat.eq_zero_or_pos xs.length with h0 | h0
  · exact .inl (List.eq_nil_of_length_eq_zero h0)
  · obtain ⟨b, o, hA, hl, hc⟩ := (RowAt.of_own h).at_ h0
    refine .inr ⟨b, o, hA, hl, ?_, hc⟩
    have := own_row h b (by rw [hA]; rfl)
    omega
theorem RowOff.at_ {w : World} {g : Nat} {A : Option Addr} {xs : List Value} (h : RowOff w g A xs) (hn : 0 < xs.length) : ∃ b o, A = some ⟨b, o, none⟩ ∧ ∀ i v, xs[i]? = some v → w.cell? ⟨b, o + i, none⟩ = some v := by
  rcases h with h | ⟨b, o, hA, _, _, hc⟩
  · rw [h] at hn; cases hn
  · exact ⟨b, o, hA, hc⟩
theorem RowOff.of_irow {w : World} {g g' cap : Nat} {l : List Int} (h : IRow w g' cap l) (hne : g' ≠ g) : RowOff w g (some ⟨g', 0, none⟩) (l.map (Value.int .i64)) := by
  refine .inr ⟨g', 0, rfl, h.lt, hne, fun i v hv => ?_⟩
  rw [List.getElem?_map] at hv
  obtain ⟨u, hu, rfl⟩ := Option.map_eq_some_iff.1 hv
  rw [Nat.zero_add]
  exact h.cell i u hu
theorem below_push {B g : Nat} {a w w' : World} (h : Below B a w) (hb : w.grownBy w' (some g)) (hB : B ≤ w.heap.size) (hg : B ≤ g) : Below B a w' :=
  h.grown hb hB (fun k e => by cases e; exact hg)
section
variable {P : Program}
/-- x = append(x, b), for the walk -/
theorem wpList_ints_push (w : World) {ops : Array Oper} {rest : List Oper} {o : Oper} {a : Act} {Q : Exit → Act → World → Prop}
    (hg : o.guard = none) (s x : Operand) (t : TypeId) (hop : o.op = Op.call { callee := Callee.builtin Builtin.append, args := #[s, x], argTypes := #[t, t] })
    (e : TypeId) (i : TypeInfo) (h1 : P.underlying t = some (.slice e)) (h2 : P.info? e = some i) (h3 : i.zero = some (.int .i64 0)) (h4 : i.size = 1) (h5 : i.bytes = 8)
    (g cap : Nat) (l : List Int) (hs : a.eval s = .slice (some ⟨g, 0, none⟩) l.length cap) (R : IRow w g cap l)
    (ad : Addr) (c : Nat) (b : Int) (hx : a.eval x = .slice (some ad) 1 c) (hc : w.cell? ad = some (.int .i64 b)) (hl : l.length + 1 ≤ 1000000)
    (hK : ∀ g' cap' w', IRow w' g' cap' (l ++ [b]) → (g' = g ∨ w.heap.size ≤ g') → w.grownBy w' (some g) → wpList P ops Q rest (a.put o.dst (.slice (some ⟨g', 0, none⟩) (l.length + 1) cap')) w') :
    wpList P ops Q (o :: rest) a w := by
  have hle := R.le
  refine wpList_append_arg w hg s x t hop e i (.int .i64 0) 1 8 h1 h2 h3 h4 h5 rfl (by decide) g 0 l.length cap (l.map fun y => Value.int .i64 y) hs (by simp) (fun j u hj => ?_) ad 1 c [.int .i64 b] hx rfl (fun j u hj => ?_) (fun u hu => ?_) (fun hr j hj => ?_) (by unfold maxLen; omega) (by omega) (fun hr => ?_) (fun hr v' w' r1 r2 => ?_)
  · rw [List.getElem?_map] at hj
    obtain ⟨y, hy, rfl⟩ := Option.map_eq_some_iff.1 hj
    rw [Nat.zero_add]
    exact R.cell j y hy
  · cases j with
    | zero =>
      obtain rfl : Value.int .i64 b = u := by simpa using hj
      have : ad.add 0 = ad := by cases ad; rfl
      rw [this]; exact hc
    | succ j => simp at hj
  · obtain rfl := List.mem_singleton.1 hu
    rfl
  · have hj0 : j = 0 := by
      have : j < 1 := hj
      omega
    subst hj0
    rw [Nat.zero_add, Nat.mul_one, Nat.add_zero]
    exact R.there l.length (by omega)
  · rw [Nat.zero_add, Nat.mul_one]
    refine hK g cap _ (R.set (by omega) b) (.inl rfl) ?_
    exact only_setCell ⟨rfl, rfl, rfl, Nat.le_refl _, fun _ _ _ => rfl⟩ _ _
  · obtain ⟨q1, q2⟩ := r1
    rcases q2 with ⟨_, hn⟩ | ⟨g', cap', cur, rfl, hb, hh, hle', hm, hsz, ht⟩
    · omega
    · rw [Nat.mul_one] at hsz ht
      refine hK g' cap' w' ⟨?_, by simpa using hle', hm, fun j hj => ⟨?_, ?_⟩, fun j u hu => ?_⟩ (.inr hb) ⟨r2.os, r2.tape, r2.output, r2.size, fun k hk hne => ?_⟩
      · rcases Nat.lt_or_ge g' w'.heap.size with hlt | hge
        · exact hlt
        · rw [Array.getElem?_eq_none hge] at hh; cases hh
      · simp [World.cell?, hh, hsz, hj]
      · simp [World.frozen?, hh]
      · have e0 : ((l.map fun y => Value.int .i64 y) ++ [Value.int .i64 b]) = (l ++ [b]).map fun y => Value.int .i64 y := by simp
        rw [e0] at ht
        have h3 : (cur.toList.take (l.length + 1))[j]? = some (.int .i64 u) := by rw [ht, List.getElem?_map, hu]; rfl
        have hj : j < l.length + 1 := by
          have := (List.getElem?_eq_some_iff.1 hu).1
          simpa using this
        rw [List.getElem?_take, if_pos hj, Array.getElem?_toList] at h3
        simp only [World.cell?, hh]
        exact h3
      · exact r2.block k hk (fun h => by cases h)
end
end Go.Proofs.Ytjmafegckfijbaa

namespace Go.Proofs.Ytjmafegckfijbaa
open Go.RowKit
set_option linter.unusedVariables false
set_option linter.unusedSimpArgs false
set_option maxRecDepth 100000
def SoundPost (xs : List ByteArray) (w : World) (e : Ending) (w' : World) : Prop := (∃ r : Int, e = .returned (.int .i64 r) ∧ (r = 1 → ∃ m, IsVol xs m ∧ SndU xs m (allO xs))) ∧ Below w.heap.size w w'
theorem sound_zero {xs : List ByteArray} {w w' : World} (h : Below w.heap.size w w') : SoundPost xs w (.returned (.int .i64 0)) w' := ⟨⟨0, rfl, fun h => by cases h⟩, h⟩
def intL (l : List Nat) : List Int := l.map fun n : Nat => (n : Int)
theorem intL_len (l : List Nat) : (intL l).length = l.length := List.length_map _
theorem intL_snoc (l : List Nat) (n : Nat) : intL (l ++ [n]) = intL l ++ [(n : Int)] := by unfold intL; simp
theorem intL_get {l : List Nat} {i n : Nat} (h : l[i]? = some n) : (intL l)[i]? = some (n : Int) := by unfold intL; simp [h]
set_option maxHeartbeats 8000000 in
theorem sound_any (A : Option Addr) (c : Nat) (xs : List ByteArray) (w : World) (hx : xs.length ≤ 1000000) (h : RowAt w w.heap.size A (xs.map .string)) :
    Calls Try.prog 33 #[.slice A xs.length c] w (SoundPost xs w) := by
  have HR := Lib.hid h
  obtain ⟨i0, q1, q2, q3, q4⟩ := info_parts i64_info
  have I0 := Lib.hid (And.intro q1 (And.intro q2 (And.intro q3 q4)))
  clear q1 q2 q3 q4 h
  go_enter Try.func33, Try.ntmps33
  go_wp2_with fail
  refine (rof_any A c xs _ hx HR.out).mono ?_
  rintro e w1 ⟨rfl, hb1⟩
  have B1 := Lib.hid hb1
  have R1 := Lib.hid ((HR.out.below hb1).mono hb1.size)
  have hz1 := hb1.size
  clear hb1 HR
  cases ho : ofR xs with
  | none =>
    unfold ofE
    go_wp2
    go_ret
    exact sound_zero (B1.out.alloc hz1 _)
  | some m =>
    have hv := ofR_some.1 ho
    have hlen := hv.len
    have HV := Lib.hid hv
    clear ho hv
    unfold ofE
    dsimp only
    have hd3 : dataN m ≤ 67 := by unfold dataN; omega
    obtain ⟨d, hd⟩ : ∃ d, dataN m = d := ⟨_, rfl⟩
    have HD := Lib.hid hd
    rw [hd] at hd3
    rw [hd]
    clear hd
    obtain ⟨ns, hns⟩ : ∃ ns, allO xs = ns := ⟨_, rfl⟩
    have HNS := Lib.hid hns
    have hnl := allO_len xs
    rw [hns] at hnl
    have CA := Lib.hid (fun w hr => rall_ino A c xs w hx hr)
    rw [hns] at CA
    have CG := Lib.hid (fun (n : Nat) w hr => rget_ino A c xs (n : Int) w hx hr)
    have CU := Lib.hid (fun (z : Int) w hr => rused_any A c xs z w hx hr)
    clear hns
    have b2 : Below w1.heap.size w1 (w1.alloc (.cells #[.int .i64 (xs.length : Int), .int .i64 (m : Int), .int .i64 1, .int .i64 2, .int .i64 3, .int .i64 (d : Int)] 66)) := (Below.refl _ _).alloc (Nat.le_refl _) _
    have g2 := Blk.new w1 66 #[.int .i64 (xs.length : Int), .int .i64 (m : Int), .int .i64 1, .int .i64 2, .int .i64 3, .int .i64 (d : Int)]
    have s2 : (w1.alloc (.cells #[.int .i64 (xs.length : Int), .int .i64 (m : Int), .int .i64 1, .int .i64 2, .int .i64 3, .int .i64 (d : Int)] 66)).heap.size = w1.heap.size + 1 := by simp
    have i3 := IRow.new (w1.alloc (.cells #[.int .i64 (xs.length : Int), .int .i64 (m : Int), .int .i64 1, .int .i64 2, .int .i64 3, .int .i64 (d : Int)] 66)) 3 [] (Nat.zero_le _)
    have b3 : Below (w1.alloc (.cells #[.int .i64 (xs.length : Int), .int .i64 (m : Int), .int .i64 1, .int .i64 2, .int .i64 3, .int .i64 (d : Int)] 66)).heap.size (w1.alloc (.cells #[.int .i64 (xs.length : Int), .int .i64 (m : Int), .int .i64 1, .int .i64 2, .int .i64 3, .int .i64 (d : Int)] 66)) ((w1.alloc (.cells #[.int .i64 (xs.length : Int), .int .i64 (m : Int), .int .i64 1, .int .i64 2, .int .i64 3, .int .i64 (d : Int)] 66)).alloc (.cells #[] 3)) := (Below.refl _ _).alloc (Nat.le_refl _) _
    rw [show (List.map (Value.int .i64) []).toArray = #[] from rfl] at i3
    go_wp2_with fail
    generalize hw2 : w1.alloc (.cells #[.int .i64 (xs.length : Int), .int .i64 (m : Int), .int .i64 1, .int .i64 2, .int .i64 3, .int .i64 (d : Int)] 66) = w2 at *
    generalize hw3 : w2.alloc (.cells #[] 3) = w3 at *
    clear hw2 hw3
    rw [s2] at i3
    generalize hg0 : w1.heap.size = g0 at *
    have BW2 := Lib.hid (B1.out.trans (b2.mono (by rw [← hg0] at *; exact B1.out.size)))
    have RV3 := Lib.hid ((((R1.out.below b2).mono (by omega : g0 ≤ w2.heap.size)).below b3).mono b3.size)
    have G3 := Lib.hid (g2.below b3 (by omega))
    have IM3 := Lib.hid i3
    have B3 := Lib.hid b3
    have S2 := Lib.hid s2
    -- LOOPS
    refine (CA.out _ RV3.out).mono ?_
    rintro e w4 ⟨⟨v4, rfl, hn4⟩, hb4⟩
    obtain ⟨A4, c4, rfl, hr4⟩ := hn4.read
    have RA4 := Lib.hid (RowOff.of_own (g := g0 + 1) hn4 (by have := i3.lt; omega))
    have IM4 := Lib.hid (IM3.out.below hb4 IM3.out.lt)
    have B4 := Lib.hid (B3.out.trans (hb4.mono B3.out.size))
    have RV2 := Lib.hid (((R1.out.below b2).mono (by omega) : RowAt w2 w2.heap.size A (xs.map .string)))
    replace g2 := Lib.hid g2
    have HS0 : Hid (SndU xs m (ns.take 0)) := fun n hn => by cases hn
    clear hn4 hb4 hr4 CA IM3 RV3 G3 B3 R1 B1 i3 b3
    go_wp2
    go_loopw [5, 27] (fun met i wr => ∃ (k gm cm : Nat) (ms : List Int), k ≤ ns.length ∧ i = .int .i64 (k : Int) ∧ met = .slice (some ⟨gm, 0, none⟩) ms.length cm ∧ Hid (ms.length ≤ 72 * k) ∧ Hid (IRow wr gm cm ms) ∧ Hid (w2.heap.size ≤ gm) ∧ Hid (RowOff wr gm A4 (numsC ns)) ∧ Hid (SndU xs m (ns.take k)) ∧ Hid (Below w2.heap.size w2 wr)) (fun _ i _ => ns.length - (intOf i).toNat)
    case atStart => exact ⟨0, g0 + 1, 0, [], Nat.zero_le _, rfl, rfl, Lib.hid (Nat.zero_le _), IM4, Lib.hid (by rw [s2]; exact Nat.le_refl _), RA4, HS0, B4⟩
    case round =>
      clear IM4 RA4 HS0 B4
      obtain ⟨k, gm, cm, ms, hk, rfl, rfl, HMM, IM, HBG, RA, HSU, BB⟩ := hrel
      by_cases hlt : k < ns.length
      · have i2 : (k : Int) < (ns.length : Int) := by omega
        obtain ⟨ba, oa, rfl, hca⟩ := RA.out.at_ (by unfold numsC; rw [List.length_map]; omega)
        obtain ⟨n, hn⟩ : ∃ n, ns[k] = n := ⟨_, rfl⟩
        have HNK : Hid ((some ns[k]).toList = [n]) := by show _ = _; rw [hn]; rfl
        have q1 := hca k (.int .i64 (n : Int)) (by unfold numsC; rw [List.getElem?_map, List.getElem?_eq_getElem hlt, hn]; rfl)
        have RVr := Lib.hid ((RV2.out.below BB.out).mono BB.out.size)
        clear hn hca
        go_wp2_with fail
        refine (CG.out n _ RVr.out).mono ?_
        rintro e w5 ⟨rfl, hb5⟩
        have IM5 := Lib.hid (IM.out.below hb5 IM.out.lt)
        have RA5 := Lib.hid (RA.out.below hb5)
        have BB5 := Lib.hid (BB.out.trans (hb5.mono BB.out.size))
        have hz5 := hb5.size
        obtain ⟨l, hll⟩ : ∃ l, getR xs (n : Int) = l := ⟨_, rfl⟩
        have hl12 : l.length = 12 := by rw [← hll]; exact getR_len _ _
        have HLL := Lib.hid hll
        rw [hll]
        have HIZ : Hid ((inoC l).size = 12) := by show _ = _; rw [inoC_size, hl12]
        have HI := Lib.hid (ino_info12 hl12)
        have c10 := inoC_at hl12 10 (by omega)
        have c11 := inoC_at hl12 11 (by omega)
        have HCI := Lib.hid (fun i hi => inoC_at hl12 i hi)
        obtain ⟨l10, hl10⟩ : ∃ l10, l.getD 10 0 = l10 := ⟨_, rfl⟩
        obtain ⟨l11, hl11⟩ : ∃ l11, l.getD 11 0 = l11 := ⟨_, rfl⟩
        have HD0 : Hid (intL (dirL l 0) = [(l10 : Int), (l11 : Int)]) := by show _ = _; rw [← hl10, ← hl11]; rfl
        have H10 := Lib.hid hl10
        rw [hl10] at c10
        rw [hl11] at c11
        clear hb5 hll hl12 IM RA BB RVr q1 hl10 hl11
        go_wp2_with (refine store_blk 45 (.tmp 8) (.tmp 37) w5.heap.size 45 (inoC (List.replicate 12 0)) (inoC l) rfl rfl rfl rfl (Blk.new w5 _ _) (by rw [HIZ.out]; rfl) HI.out (inoC_one _) ?_; intro w6 hr6 hg6; have k10 := hr6.cell 10 c10; have k11 := hr6.cell 11 c11)
        have a6 : Below w5.heap.size w5 w6 := ((Below.refl _ _).alloc (Nat.le_refl _) _).grown hg6 (by simp) (fun k e => by cases e; exact Nat.le_refl _)
        have G6 := Lib.hid hr6
        have IM6 := Lib.hid (IM5.out.below a6 IM5.out.lt)
        have HG6 : Hid (gm < w6.heap.size) := IM6.out.lt
        have RA6 := Lib.hid (RA5.out.below a6)
        have BB6 := Lib.hid (BB5.out.trans (a6.mono BB5.out.size))
        have IL := Lib.hid (IRow.new w6 3 [(l10 : Int), (l11 : Int)] (by unfold maxLen; simp))
        clear a6 hr6 hg6 k10 k11 IM5 RA5 BB5 hz5
        generalize w5.heap.size = gx at *
        go_loopw [10, 11] (fun lv i wr => ∃ (j gl cl : Nat) (L : List Int), j ≤ 6 ∧ i = .int .i64 (j : Int) ∧ lv = .slice (some ⟨gl, 0, none⟩) L.length cl ∧ Hid (L = intL (dirL l j)) ∧ Hid (IRow wr gl cl L) ∧ Hid (w6.heap.size ≤ gl) ∧ Hid (Below w6.heap.size w6 wr)) (fun _ i _ => 6 - (intOf i).toNat)
        case atStart => exact ⟨0, _, 2, [(l10 : Int), (l11 : Int)], by omega, rfl, rfl, Lib.hid HD0.out.symm, IL, Lib.hid (Nat.le_refl _), Lib.hid ((Below.refl _ _).alloc (Nat.le_refl _) _)⟩
        case round =>
          clear IL
          obtain ⟨j, gl, cl, L, hj, rfl, rfl, HL, IL, HGL, BL⟩ := hrel
          by_cases hlt2 : j < 6
          · have i3 : (j : Int) < 6 := by omega
            obtain ⟨lj, hlj⟩ : ∃ lj, l.getD (4 + j) 0 = lj := ⟨_, rfl⟩
            have cj := HCI.out (4 + j) (by omega)
            rw [hlj] at cj
            have qj := (G6.out.below BL.out G6.out.lt).cell (4 + j) cj
            have HLJ : Hid (L ++ [(lj : Int)] = intL (dirL l (j + 1))) := by show _ = _; rw [dirL_succ, intL_snoc, HL.out, hlj]
            have ILa := Lib.hid (IL.out.below ((Below.refl _ _).alloc (Nat.le_refl _) (.cells #[.int .i64 (lj : Int)] 3)) IL.out.lt)
            have HC : Hid ((wr.alloc (.cells #[.int .i64 (lj : Int)] 3)).cell? ⟨wr.heap.size, 0, none⟩ = some (.int .i64 (lj : Int))) := (Blk.new wr _ _).cell 0 rfl
            have hmb : L.length + 1 ≤ 1000000 := by rw [HL.out, intL_len, dirL_len]; omega
            clear hlj cj
            go_wp2_with (at_builtin; refine wpList_ints_push _ rfl (.tmp 48) (.tmp 53) 26 rfl 3 i0 Try.underlying26 I0.out.1 I0.out.2.1 I0.out.2.2.1 I0.out.2.2.2 gl cl L rfl ILa.out ⟨wr.heap.size, 0, none⟩ 1 (lj : Int) rfl HC.out hmb ?_; intro g9 c9 w9 own hg9 hgr9)
            have hall : Below wr.heap.size wr (wr.alloc (.cells #[.int .i64 (lj : Int)] 3)) := (Below.refl _ _).alloc (Nat.le_refl _) _
            have BL9 := Lib.hid (below_push (BL.out.trans (hall.mono BL.out.size)) hgr9 (Nat.le_trans BL.out.size hall.size) HGL.out)
            have HGL9 : Hid (w6.heap.size ≤ g9) := by
              show _ ≤ _
              have h1 := BL.out.size
              have h2 := hall.size
              rcases hg9 with e | e
              · rw [e]; exact HGL.out
              · omega
            have IL9 := Lib.hid own
            clear own hg9 hgr9 hall IL BL HGL ILa HC qj HL
            go_wp2
            go_roundw
            case rel => exact ⟨j + 1, g9, c9, L ++ [(lj : Int)], by omega, by go_num, by rw [List.length_append]; rfl, HLJ, IL9, HGL9, BL9⟩
            case measure => simp [intOf]; omega
          · obtain rfl : j = 6 := by omega
            rw [show ((6 : Nat) : Int) = 6 from rfl]
            have k10 := (G6.out.below BL.out G6.out.lt).cell 10 c10
            have G9 := Lib.hid ((g2.out.below BB6.out (by have := S2.out; omega)).below BL.out (by have h1 := BB6.out.size; have h2 := S2.out; omega))
            have kd := G9.out.cell 5 rfl
            have kb := G9.out.cell 0 rfl
            clear G9 HD0
            cases hdb : datB xs m l10 with
            | true =>
              have hdd := datB_iff.1 hdb
              rw [HD.out] at hdd
              have d1 : (d : Int) ≤ (l10 : Int) := by omega
              have d2 : (l10 : Int) < (xs.length : Int) := by omega
              have HNL : Hid (numsL xs m l = dirL l 6 ++ indL xs l10 64) := by show _ = _; unfold numsL; rw [H10.out, if_pos hdb]
              have HD6 := Lib.hid HL.out
              have HL3 : Hid (L = intL (dirL l 6 ++ indL xs l10 0)) := by
                show _ = _
                have : indL xs l10 0 = [] := rfl
                rw [this, List.append_nil]; exact HL.out
              have hb10 := HV.out.blk l10 hdd.2
              obtain ⟨s, hs⟩ : ∃ s, xs[l10]'hdd.2 = s := ⟨_, rfl⟩
              have hss : s.data.toList = blkL xs l10 := by unfold blkL; rw [List.getD_eq_getElem?_getD, List.getElem?_eq_getElem hdd.2, hs]; rfl
              have hsz : s.size = 128 := by
                have h1 : s.data.toList.length = 128 := by rw [hss]; exact hb10
                rw [Array.length_toList] at h1; exact h1
              have HSS := Lib.hid hss
              have HSZ := Lib.hid hsz
              have CTW := Lib.hid (fun k w (hk : k + 2 ≤ 128) => rget_two s k w (by rw [hsz]; exact hk) (by rw [hsz]; decide))
              have HRW : Hid ((xs.map Value.string)[l10]? = some (.string s)) := by show _ = _; rw [List.getElem?_map, List.getElem?_eq_getElem hdd.2, hs]; rfl
              clear hdb hdd hb10 hs hss hsz HL
              go_wp2
              go_loopw [10, 12] (fun lv i wr => ∃ (j gl cl : Nat) (L : List Int), j ≤ 64 ∧ i = .int .i64 (j : Int) ∧ lv = .slice (some ⟨gl, 0, none⟩) L.length cl ∧ Hid (L = intL (dirL l 6 ++ indL xs l10 j)) ∧ Hid (IRow wr gl cl L) ∧ Hid (w6.heap.size ≤ gl) ∧ Hid (Below w6.heap.size w6 wr)) (fun _ i _ => 64 - (intOf i).toNat)
              case atStart => exact ⟨0, gl, cl, L, by omega, rfl, rfl, HL3, IL, HGL, BL⟩
              case round =>
                clear HL3 IL HGL BL HD6 k10 kd kb
                obtain ⟨j, gl, cl, L, hj, rfl, rfl, HL, IL, HGL, BL⟩ := hrel
                by_cases hlt2 : j < 64
                · have i3 : (j : Int) < 64 := by omega
                  obtain ⟨p, hp⟩ : ∃ p, 2 * j = p := ⟨_, rfl⟩
                  have hp2 : p + 2 ≤ 128 := by omega
                  have a1 : IntKind.i64.wrap (2 * (j : Int)) = (p : Int) := by
                    have : IntKind.i64.wrap (2 * (j : Int)) = 2 * (j : Int) := IntWalk.i64_in _ (by omega)
                    rw [this]; omega
                  have a2 : IntKind.i64.wrap ((p : Int) + 2) = ((p + 2 : Nat) : Int) := by
                    have : IntKind.i64.wrap ((p : Int) + 2) = (p : Int) + 2 := IntWalk.i64_in _ (by omega)
                    rw [this]; omega
                  have a3 : (0 : Int) ≤ (p : Int) := by omega
                  have a4 : (p : Int) ≤ ((p + 2 : Nat) : Int) := by omega
                  have a5 : ((p + 2 : Nat) : Int) ≤ (s.size : Int) := by rw [HSZ.out]; omega
                  have k10 := (G6.out.below BL.out G6.out.lt).cell 10 c10
                  obtain ⟨v, hv2⟩ : ∃ v, leN ((s.data.toList.drop p).take 2) = v := ⟨_, rfl⟩
                  have hvn : numAt (blkL xs l10) (2 * j) 2 = v := by rw [hp, ← HSS.out]; exact hv2
                  have hvl : v < 65536 := by rw [← hvn]; exact numAt_lt _ _ 2
                  have a6 : IntKind.i64.wrap (v : Int) = (v : Int) := IntWalk.i64_in _ (by omega)
                  have HLJ : Hid (L ++ [(v : Int)] = intL (dirL l 6 ++ indL xs l10 (j + 1))) := by show _ = _; rw [indL_succ, ← List.append_assoc, intL_snoc, HL.out, hvn]
                  have CT2 := Lib.hid (fun w => CTW.out p w hp2)
                  rw [hv2] at CT2
                  have RVr := Lib.hid ((RV2.out.below ((BB6.out.trans (BL.out.mono BB6.out.size)))))
                  obtain ⟨bA, oA, rfl, hbA, hcA⟩ := RVr.out.at_ (by rw [List.length_map]; have := HV.out.len; omega)
                  have kA := hcA l10 _ HRW.out
                  have ILa := Lib.hid (IL.out.below ((Below.refl _ _).alloc (Nat.le_refl _) (.cells #[.int .i64 (v : Int)] 3)) IL.out.lt)
                  have HC : Hid ((wr.alloc (.cells #[.int .i64 (v : Int)] 3)).cell? ⟨wr.heap.size, 0, none⟩ = some (.int .i64 (v : Int))) := (Blk.new wr _ _).cell 0 rfl
                  have hmb : L.length + 1 ≤ 1000000 := by rw [HL.out, intL_len, List.length_append, dirL_len, indL_len]; omega
                  clear hp hv2 hvn hbA hcA
                  go_wp2_with fail
                  refine (CT2.out _).mono ?_
                  rintro e w8 ⟨rfl, rfl⟩
                  go_wp2_with (at_builtin; refine wpList_ints_push _ rfl (.tmp 71) (.tmp 85) 26 rfl 3 i0 Try.underlying26 I0.out.1 I0.out.2.1 I0.out.2.2.1 I0.out.2.2.2 gl cl L rfl ILa.out ⟨wr.heap.size, 0, none⟩ 1 (v : Int) rfl HC.out hmb ?_; intro g9 c9 w9 own hg9 hgr9)
                  have hall : Below wr.heap.size wr (wr.alloc (.cells #[.int .i64 (v : Int)] 3)) := (Below.refl _ _).alloc (Nat.le_refl _) _
                  have BL9 := Lib.hid (below_push (BL.out.trans (hall.mono BL.out.size)) hgr9 (Nat.le_trans BL.out.size hall.size) HGL.out)
                  have HGL9 : Hid (w6.heap.size ≤ g9) := by
                    show _ ≤ _
                    have h1 := BL.out.size
                    have h2 := hall.size
                    rcases hg9 with e | e
                    · rw [e]; exact HGL.out
                    · omega
                  have IL9 := Lib.hid own
                  clear own hg9 hgr9 hall IL BL HGL ILa HC HL kA k10
                  go_wp2
                  go_roundw
                  case rel => exact ⟨j + 1, g9, c9, L ++ [(v : Int)], by omega, by go_num, by rw [List.length_append]; rfl, HLJ, IL9, HGL9, BL9⟩
                  case measure => simp [intOf]; omega
                · obtain rfl : j = 64 := by omega
                  rw [show ((64 : Nat) : Int) = 64 from rfl]
                  have HLT := Lib.hid hj
                  have ILf := Lib.hid IL.out
                  replace HL : Hid (L = intL (numsL xs m l)) := by show _ = _; rw [HNL.out]; exact HL.out
                  clear HNL
                  clear IL G6 HLT
                  have HLN : Hid (L.length ≤ 72) := by show _ ≤ _; rw [HL.out, intL_len]; exact numsL_len _ _ _
                  have hln := HLN.out
                  have IM7 := Lib.hid (IM6.out.below BL.out HG6.out)
                  have RA7 := Lib.hid (RA6.out.below BL.out)
                  have RL7 := Lib.hid (RowOff.of_irow ILf.out (g := gm) (by have h1 := HGL.out; have h2 := HG6.out; omega))
                  have BB7 := Lib.hid (BB6.out.trans (BL.out.mono BB6.out.size))
                  have HU0 : Hid (∀ (i' z : Nat), i' < 0 → (numsL xs m l)[i']? = some z → z ≠ 0 → usedR xs (z : Int) = true) := fun i' z h => absurd h (by omega)
                  have HM7 : Hid (ms.length ≤ 72 * k + 0) := HMM.out
                  clear IM6 RA6 ILf BB6 HGL HG6 BL HMM
                  generalize wr = w7 at *
                  go_wp2
                  go_loopw [5, 89] (fun met i wr => ∃ (j gm cm : Nat) (ms : List Int), j ≤ L.length ∧ i = .int .i64 (j : Int) ∧ met = .slice (some ⟨gm, 0, none⟩) ms.length cm ∧ Hid (ms.length ≤ 72 * k + j) ∧ Hid (IRow wr gm cm ms) ∧ Hid (w2.heap.size ≤ gm) ∧ Hid (RowOff wr gm (some ⟨ba, oa, none⟩) (numsC ns)) ∧ Hid (RowOff wr gm (some ⟨gl, 0, none⟩) (L.map (Value.int .i64))) ∧ Hid (∀ (i' z : Nat), i' < j → (numsL xs m l)[i']? = some z → z ≠ 0 → usedR xs (z : Int) = true) ∧ Hid (Below w2.heap.size w2 wr)) (fun _ i _ => L.length - (intOf i).toNat)
                  case atStart => exact ⟨0, gm, cm, ms, Nat.zero_le _, rfl, rfl, HM7, IM7, HBG, RA7, RL7, HU0, BB7⟩
                  case round =>
                    clear HM7 IM7 HBG RA7 RL7 HU0 BB7
                    obtain ⟨j, gm, cm, ms, hj, rfl, rfl, HMM, IM, HBG, RA, RL, HU, BB⟩ := hrel
                    by_cases hlt2 : j < L.length
                    · have i3 : (j : Int) < (L.length : Int) := by omega
                      obtain ⟨z, hz⟩ : ∃ z, (numsL xs m l)[j]? = some z := by
                        have : j < (numsL xs m l).length := by rw [HL.out, intL_len] at hlt2; exact hlt2
                        exact ⟨_, List.getElem?_eq_getElem this⟩
                      have HZ := Lib.hid hz
                      have hLj : (L.map (Value.int .i64))[j]? = some (.int .i64 (z : Int)) := by rw [HL.out, List.getElem?_map, intL_get hz]; rfl
                      have HLJ := Lib.hid hLj
                      have CLJ : Hid (∀ W, RowOff W gm (some ⟨gl, 0, none⟩) (L.map (Value.int .i64)) → W.cell? ⟨gl, j, none⟩ = some (.int .i64 (z : Int))) := fun W hW => by
                        obtain ⟨b, o, hA, hc⟩ := hW.at_ (by rw [List.length_map]; omega)
                        injection hA with hA
                        injection hA with h1 h2 _
                        have := hc j _ HLJ.out
                        rw [← h1, ← h2, Nat.zero_add] at this
                        exact this
                      have q1 := CLJ.out wr RL.out
                      clear hz hLj
                      by_cases hz0 : z = 0
                      · subst hz0
                        have HU2 : Hid (∀ (i' z : Nat), i' < j + 1 → (numsL xs m l)[i']? = some z → z ≠ 0 → usedR xs (z : Int) = true) := fun i' z hi hz h0 => by
                          by_cases e : i' = j
                          · rw [e, HZ.out] at hz
                            exact absurd (Option.some.inj hz).symm h0
                          · exact HU.out i' z (by omega) hz h0
                        have HM2 : Hid (ms.length ≤ 72 * k + (j + 1)) := by have := HMM.out; show _ ≤ _; omega
                        clear HU HMM
                        go_wp2
                        go_roundw
                        case rel => exact ⟨j + 1, gm, cm, ms, by omega, by go_num, rfl, HM2, IM, HBG, RA, RL, HU2, BB⟩
                        case measure => simp [intOf]; omega
                      · have hz1 : ¬ ((z : Int) = 0) := by omega
                        have hz2 : ((z : Int) == 0) = false := beq_eq_false_iff_ne.2 (by omega)
                        have G9 := Lib.hid (g2.out.below BB.out (by have := S2.out; omega))
                        have u1 : ∀ u : Ext wr, u.val.cell? ⟨gl, j, none⟩ = some (.int .i64 (z : Int)) := fun u => u.cell q1
                        have u2 : ∀ u : Ext wr, u.val.cell? ⟨g0, 0, none⟩ = some (.int .i64 (xs.length : Int)) := fun u => u.cell (G9.out.cell 0 rfl)
                        have u3 : ∀ u : Ext wr, u.val.cell? ⟨g0, 5, none⟩ = some (.int .i64 (d : Int)) := fun u => u.cell (G9.out.cell 5 rfl)
                        have RVr := Lib.hid ((RV2.out.below BB.out).mono BB.out.size)
                        have QU : Hid (∀ u : Ext wr, Calls Try.prog 75 #[.slice A xs.length c, .int .i64 (z : Int)] u.val fun e w' => e = .returned (.bool (usedR xs (z : Int))) ∧ Below u.val.heap.size u.val w') := fun u => CU.out _ _ (RVr.out.ext u)
                        have BWr := Lib.hid (BW2.out.trans (BB.out.mono BW2.out.size))
                        clear G9 RVr
                        by_cases c1 : z < d
                        · have e1 : decide ((z : Int) < (d : Int)) = true := decide_eq_true (by omega)
                          have c1' : (z : Int) < (d : Int) := by omega
                          go_wp2
                          refine wp_region_ext (by kernel_rfl) (by kernel_rfl) ?_
                          repeat (go_big_quiet_step (first | (go_at_call 75; with_reducible exact Ext.call (QU.out _))))
                          refine wpQuiet_nil ?_
                          rintro _ ⟨u, rfl⟩
                          have BWu := Lib.hid (BWr.out.trans (u.below.mono BWr.out.size))
                          go_wp2
                          go_ret
                          exact sound_zero BWu.out
                        · have e1 : decide ((z : Int) < (d : Int)) = false := decide_eq_false (by omega)
                          have c1' : ¬ (z : Int) < (d : Int) := by omega
                          by_cases c2 : xs.length ≤ z
                          · have e2 : decide ((xs.length : Int) ≤ (z : Int)) = true := decide_eq_true (by omega)
                            have c2' : (xs.length : Int) ≤ (z : Int) := by omega
                            go_wp2
                            refine wp_region_ext (by kernel_rfl) (by kernel_rfl) ?_
                            repeat (go_big_quiet_step (first | (go_at_call 75; with_reducible exact Ext.call (QU.out _))))
                            refine wpQuiet_nil ?_
                            rintro _ ⟨u, rfl⟩
                            have BWu := Lib.hid (BWr.out.trans (u.below.mono BWr.out.size))
                            go_wp2
                            go_ret
                            exact sound_zero BWu.out
                          · have e2 : decide ((xs.length : Int) ≤ (z : Int)) = false := decide_eq_false (by omega)
                            have c2' : ¬ (xs.length : Int) ≤ (z : Int) := by omega
                            cases hus : usedR xs (z : Int) with
                            | false =>
                              rw [hus] at QU
                              go_wp2
                              refine wp_region_ext (by kernel_rfl) (by kernel_rfl) ?_
                              repeat (go_big_quiet_step (first | (go_at_call 75; with_reducible exact Ext.call (QU.out _))))
                              refine wpQuiet_nil ?_
                              rintro _ ⟨u, rfl⟩
                              have BWu := Lib.hid (BWr.out.trans (u.below.mono BWr.out.size))
                              go_wp2
                              go_ret
                              exact sound_zero BWu.out
                            | true =>
                              rw [hus] at QU
                              have HU2 : Hid (∀ (i' z : Nat), i' < j + 1 → (numsL xs m l)[i']? = some z → z ≠ 0 → usedR xs (z : Int) = true) := fun i' z' hi hz h0 => by
                                by_cases e : i' = j
                                · rw [e, HZ.out] at hz
                                  rw [← Option.some.inj hz]; exact hus
                                · exact HU.out i' z' (by omega) hz h0
                              clear hus HU
                              have hml : ms.length ≤ 10000 := by have := HMM.out; omega
                              go_wp2
                              refine wp_region_ext (by kernel_rfl) (by kernel_rfl) ?_
                              repeat (go_big_quiet_step (first | (go_at_call 75; with_reducible exact Ext.call (QU.out _))))
                              refine wpQuiet_nil ?_
                              rintro _ ⟨u, rfl⟩
                              have IM8 := Lib.hid (IM.out.below u.below IM.out.lt)
                              have RA8 := Lib.hid (RA.out.below u.below)
                              have RL8 := Lib.hid (RL.out.below u.below)
                              have BB8 := Lib.hid (BB.out.trans (u.below.mono BB.out.size))
                              have BWu := Lib.hid (BWr.out.trans (u.below.mono BWr.out.size))
                              clear u1 u2 u3 QU IM RA RL BB BWr q1
                              generalize u.val = w8 at *
                              go_wp2
                              go_loopw [124] (fun i wr => ∃ p : Nat, p ≤ ms.length ∧ i = .int .i64 (p : Int) ∧ Hid (Below w8.heap.size w8 wr)) (fun i _ => ms.length - (intOf i).toNat)
                              case atStart => exact ⟨0, Nat.zero_le _, rfl, Lib.hid (Below.refl _ _)⟩
                              case round =>
                                obtain ⟨p, hp, rfl, BP⟩ := hrel
                                have q1 := CLJ.out wr (RL8.out.below BP.out)
                                by_cases hlt3 : p < ms.length
                                · have i4 : (p : Int) < (ms.length : Int) := by omega
                                  obtain ⟨y, hy⟩ : ∃ y, ms[p]? = some y := ⟨_, List.getElem?_eq_getElem hlt3⟩
                                  have q2 := (IM8.out.below BP.out IM8.out.lt).cell p y hy
                                  have u1 : ∀ u : Ext wr, u.val.cell? ⟨gl, j, none⟩ = some (.int .i64 (z : Int)) := fun u => u.cell q1
                                  have u2 : ∀ u : Ext wr, u.val.cell? ⟨gm, p, none⟩ = some (.int .i64 y) := fun u => u.cell q2
                                  clear hy
                                  go_wp2
                                  refine wp_region_ext (by kernel_rfl) (by kernel_rfl) ?_
                                  repeat (go_big_quiet_step (fail))
                                  refine wpQuiet_nil ?_
                                  rintro _ ⟨u, rfl⟩
                                  have BPu := Lib.hid (BP.out.trans (u.below.mono BP.out.size))
                                  clear u1 u2 q1 q2
                                  generalize u.val = w9 at *
                                  by_cases hyz : y = (z : Int)
                                  · have hyz1 : (y == (z : Int)) = true := by rw [hyz]; simp
                                    go_wp2
                                    go_ret
                                    exact sound_zero (BWu.out.trans (BPu.out.mono BWu.out.size))
                                  · have hyz1 : (y == (z : Int)) = false := beq_eq_false_iff_ne.2 hyz
                                    go_wp2
                                    go_roundw
                                    case rel => exact ⟨p + 1, by omega, by go_num, BPu⟩
                                    case measure => simp [intOf]; omega
                                · have hpe : p = ms.length := by omega
                                  have IMa := Lib.hid ((IM8.out.below BP.out IM8.out.lt).below ((Below.refl _ _).alloc (Nat.le_refl _) (.cells #[.int .i64 (z : Int)] 3)) (IM8.out.below BP.out IM8.out.lt).lt)
                                  have HC : Hid ((wr.alloc (.cells #[.int .i64 (z : Int)] 3)).cell? ⟨wr.heap.size, 0, none⟩ = some (.int .i64 (z : Int))) := (Blk.new wr _ _).cell 0 rfl
                                  have hmb : ms.length + 1 ≤ 1000000 := by have := HMM.out; omega
                                  clear hpe
                                  go_wp2_with (at_builtin; refine wpList_ints_push _ rfl (.tmp 137) (.tmp 142) 26 rfl 3 i0 Try.underlying26 I0.out.1 I0.out.2.1 I0.out.2.2.1 I0.out.2.2.2 gm cm ms rfl IMa.out ⟨wr.heap.size, 0, none⟩ 1 (z : Int) rfl HC.out hmb ?_; intro g9 c9 w9 own hg9 hgr9)
                                  have hall : Below wr.heap.size wr (wr.alloc (.cells #[.int .i64 (z : Int)] 3)) := (Below.refl _ _).alloc (Nat.le_refl _) _
                                  have hsz8 : w2.heap.size ≤ (wr.alloc (.cells #[.int .i64 (z : Int)] 3)).heap.size := Nat.le_trans BB8.out.size (Nat.le_trans BP.out.size hall.size)
                                  have RA9 := Lib.hid (((RA8.out.below BP.out).below hall).push hg9 hgr9)
                                  have RL9 := Lib.hid (((RL8.out.below BP.out).below hall).push hg9 hgr9)
                                  have BB9 := Lib.hid (below_push ((BB8.out.trans (BP.out.mono BB8.out.size)).trans (hall.mono (Nat.le_trans BB8.out.size BP.out.size))) hgr9 hsz8 HBG.out)
                                  have HG9 : Hid (w2.heap.size ≤ g9) := by
                                    show _ ≤ _
                                    rcases hg9 with e | e
                                    · rw [e]; exact HBG.out
                                    · omega
                                  have IM9 := Lib.hid own
                                  have HM9 : Hid ((ms ++ [(z : Int)]).length ≤ 72 * k + (j + 1)) := by have := HMM.out; show _ ≤ _; rw [List.length_append]; show _ + 1 ≤ _; omega
                                  clear own hg9 hgr9 hall hsz8 IM8 RA8 RL8 BB8 BP HMM IMa HC
                                  go_wp2
                                  go_roundw
                                  case rel => exact ⟨j + 1, g9, c9, ms ++ [(z : Int)], by omega, by go_num, by rw [List.length_append]; rfl, HM9, IM9, HG9, RA9, RL9, HU2, BB9⟩
                                  case measure => simp [intOf]; omega
                    · have hje : j = L.length := by omega
                      have HM2 : Hid (ms.length ≤ 72 * (k + 1)) := by have := HMM.out; show _ ≤ _; omega
                      have HS2 : Hid (SndU xs m (ns.take (k + 1))) := by
                        show SndU _ _ _
                        rw [List.take_add_one, List.getElem?_eq_getElem hlt, HNK.out]
                        refine HSU.out.snoc (fun z hz h0 => ?_)
                        rw [HLL.out] at hz
                        obtain ⟨i', hi'⟩ := List.mem_iff_getElem?.1 hz
                        have : i' < (numsL xs m l).length := (List.getElem?_eq_some_iff.1 hi').1
                        exact HU.out i' z (by rw [hje, HL.out, intL_len]; exact this) hi' h0
                      clear HU HMM
                      go_wp2
                      go_roundw
                      case rel => exact ⟨k + 1, gm, cm, ms, by omega, by go_num, rfl, HM2, IM, HBG, RA, HS2, BB⟩
                      case measure => simp [intOf]; omega
            | false =>
              have HNL : Hid (numsL xs m l = dirL l 6) := by show _ = _; unfold numsL; rw [H10.out, if_neg (by rw [hdb]; decide), List.append_nil]
              have hdd : ¬ (d ≤ l10 ∧ l10 < xs.length) := fun h => by
                have := datB_iff.2 (show dataN m ≤ l10 ∧ l10 < xs.length by rw [HD.out]; exact h)
                rw [hdb] at this; cases this
              have HLT := Lib.hid hj
              have ILf := Lib.hid IL.out
              replace HL : Hid (L = intL (numsL xs m l)) := by show _ = _; rw [HNL.out]; exact HL.out
              have dcs : ¬ (d : Int) ≤ (l10 : Int) ∨ ((d : Int) ≤ (l10 : Int) ∧ ¬ (l10 : Int) < (xs.length : Int)) := by omega
              clear hdb hdd HNL
              rcases dcs with d1 | ⟨d1, d2⟩
              · go_wp2
                clear k10 kd kb
                clear IL G6 HLT
                have HLN : Hid (L.length ≤ 72) := by show _ ≤ _; rw [HL.out, intL_len]; exact numsL_len _ _ _
                have hln := HLN.out
                have IM7 := Lib.hid (IM6.out.below BL.out HG6.out)
                have RA7 := Lib.hid (RA6.out.below BL.out)
                have RL7 := Lib.hid (RowOff.of_irow ILf.out (g := gm) (by have h1 := HGL.out; have h2 := HG6.out; omega))
                have BB7 := Lib.hid (BB6.out.trans (BL.out.mono BB6.out.size))
                have HU0 : Hid (∀ (i' z : Nat), i' < 0 → (numsL xs m l)[i']? = some z → z ≠ 0 → usedR xs (z : Int) = true) := fun i' z h => absurd h (by omega)
                have HM7 : Hid (ms.length ≤ 72 * k + 0) := HMM.out
                clear IM6 RA6 ILf BB6 HGL HG6 BL HMM
                generalize wr = w7 at *
                go_wp2
                go_loopw [5, 89] (fun met i wr => ∃ (j gm cm : Nat) (ms : List Int), j ≤ L.length ∧ i = .int .i64 (j : Int) ∧ met = .slice (some ⟨gm, 0, none⟩) ms.length cm ∧ Hid (ms.length ≤ 72 * k + j) ∧ Hid (IRow wr gm cm ms) ∧ Hid (w2.heap.size ≤ gm) ∧ Hid (RowOff wr gm (some ⟨ba, oa, none⟩) (numsC ns)) ∧ Hid (RowOff wr gm (some ⟨gl, 0, none⟩) (L.map (Value.int .i64))) ∧ Hid (∀ (i' z : Nat), i' < j → (numsL xs m l)[i']? = some z → z ≠ 0 → usedR xs (z : Int) = true) ∧ Hid (Below w2.heap.size w2 wr)) (fun _ i _ => L.length - (intOf i).toNat)
                case atStart => exact ⟨0, gm, cm, ms, Nat.zero_le _, rfl, rfl, HM7, IM7, HBG, RA7, RL7, HU0, BB7⟩
                case round =>
                  clear HM7 IM7 HBG RA7 RL7 HU0 BB7
                  obtain ⟨j, gm, cm, ms, hj, rfl, rfl, HMM, IM, HBG, RA, RL, HU, BB⟩ := hrel
                  by_cases hlt2 : j < L.length
                  · have i3 : (j : Int) < (L.length : Int) := by omega
                    obtain ⟨z, hz⟩ : ∃ z, (numsL xs m l)[j]? = some z := by
                      have : j < (numsL xs m l).length := by rw [HL.out, intL_len] at hlt2; exact hlt2
                      exact ⟨_, List.getElem?_eq_getElem this⟩
                    have HZ := Lib.hid hz
                    have hLj : (L.map (Value.int .i64))[j]? = some (.int .i64 (z : Int)) := by rw [HL.out, List.getElem?_map, intL_get hz]; rfl
                    have HLJ := Lib.hid hLj
                    have CLJ : Hid (∀ W, RowOff W gm (some ⟨gl, 0, none⟩) (L.map (Value.int .i64)) → W.cell? ⟨gl, j, none⟩ = some (.int .i64 (z : Int))) := fun W hW => by
                      obtain ⟨b, o, hA, hc⟩ := hW.at_ (by rw [List.length_map]; omega)
                      injection hA with hA
                      injection hA with h1 h2 _
                      have := hc j _ HLJ.out
                      rw [← h1, ← h2, Nat.zero_add] at this
                      exact this
                    have q1 := CLJ.out wr RL.out
                    clear hz hLj
                    by_cases hz0 : z = 0
                    · subst hz0
                      have HU2 : Hid (∀ (i' z : Nat), i' < j + 1 → (numsL xs m l)[i']? = some z → z ≠ 0 → usedR xs (z : Int) = true) := fun i' z hi hz h0 => by
                        by_cases e : i' = j
                        · rw [e, HZ.out] at hz
                          exact absurd (Option.some.inj hz).symm h0
                        · exact HU.out i' z (by omega) hz h0
                      have HM2 : Hid (ms.length ≤ 72 * k + (j + 1)) := by have := HMM.out; show _ ≤ _; omega
                      clear HU HMM
                      go_wp2
                      go_roundw
                      case rel => exact ⟨j + 1, gm, cm, ms, by omega, by go_num, rfl, HM2, IM, HBG, RA, RL, HU2, BB⟩
                      case measure => simp [intOf]; omega
                    · have hz1 : ¬ ((z : Int) = 0) := by omega
                      have hz2 : ((z : Int) == 0) = false := beq_eq_false_iff_ne.2 (by omega)
                      have G9 := Lib.hid (g2.out.below BB.out (by have := S2.out; omega))
                      have u1 : ∀ u : Ext wr, u.val.cell? ⟨gl, j, none⟩ = some (.int .i64 (z : Int)) := fun u => u.cell q1
                      have u2 : ∀ u : Ext wr, u.val.cell? ⟨g0, 0, none⟩ = some (.int .i64 (xs.length : Int)) := fun u => u.cell (G9.out.cell 0 rfl)
                      have u3 : ∀ u : Ext wr, u.val.cell? ⟨g0, 5, none⟩ = some (.int .i64 (d : Int)) := fun u => u.cell (G9.out.cell 5 rfl)
                      have RVr := Lib.hid ((RV2.out.below BB.out).mono BB.out.size)
                      have QU : Hid (∀ u : Ext wr, Calls Try.prog 75 #[.slice A xs.length c, .int .i64 (z : Int)] u.val fun e w' => e = .returned (.bool (usedR xs (z : Int))) ∧ Below u.val.heap.size u.val w') := fun u => CU.out _ _ (RVr.out.ext u)
                      have BWr := Lib.hid (BW2.out.trans (BB.out.mono BW2.out.size))
                      clear G9 RVr
                      by_cases c1 : z < d
                      · have e1 : decide ((z : Int) < (d : Int)) = true := decide_eq_true (by omega)
                        have c1' : (z : Int) < (d : Int) := by omega
                        go_wp2
                        refine wp_region_ext (by kernel_rfl) (by kernel_rfl) ?_
                        repeat (go_big_quiet_step (first | (go_at_call 75; with_reducible exact Ext.call (QU.out _))))
                        refine wpQuiet_nil ?_
                        rintro _ ⟨u, rfl⟩
                        have BWu := Lib.hid (BWr.out.trans (u.below.mono BWr.out.size))
                        go_wp2
                        go_ret
                        exact sound_zero BWu.out
                      · have e1 : decide ((z : Int) < (d : Int)) = false := decide_eq_false (by omega)
                        have c1' : ¬ (z : Int) < (d : Int) := by omega
                        by_cases c2 : xs.length ≤ z
                        · have e2 : decide ((xs.length : Int) ≤ (z : Int)) = true := decide_eq_true (by omega)
                          have c2' : (xs.length : Int) ≤ (z : Int) := by omega
                          go_wp2
                          refine wp_region_ext (by kernel_rfl) (by kernel_rfl) ?_
                          repeat (go_big_quiet_step (first | (go_at_call 75; with_reducible exact Ext.call (QU.out _))))
                          refine wpQuiet_nil ?_
                          rintro _ ⟨u, rfl⟩
                          have BWu := Lib.hid (BWr.out.trans (u.below.mono BWr.out.size))
                          go_wp2
                          go_ret
                          exact sound_zero BWu.out
                        · have e2 : decide ((xs.length : Int) ≤ (z : Int)) = false := decide_eq_false (by omega)
                          have c2' : ¬ (xs.length : Int) ≤ (z : Int) := by omega
                          cases hus : usedR xs (z : Int) with
                          | false =>
                            rw [hus] at QU
                            go_wp2
                            refine wp_region_ext (by kernel_rfl) (by kernel_rfl) ?_
                            repeat (go_big_quiet_step (first | (go_at_call 75; with_reducible exact Ext.call (QU.out _))))
                            refine wpQuiet_nil ?_
                            rintro _ ⟨u, rfl⟩
                            have BWu := Lib.hid (BWr.out.trans (u.below.mono BWr.out.size))
                            go_wp2
                            go_ret
                            exact sound_zero BWu.out
                          | true =>
                            rw [hus] at QU
                            have HU2 : Hid (∀ (i' z : Nat), i' < j + 1 → (numsL xs m l)[i']? = some z → z ≠ 0 → usedR xs (z : Int) = true) := fun i' z' hi hz h0 => by
                              by_cases e : i' = j
                              · rw [e, HZ.out] at hz
                                rw [← Option.some.inj hz]; exact hus
                              · exact HU.out i' z' (by omega) hz h0
                            clear hus HU
                            have hml : ms.length ≤ 10000 := by have := HMM.out; omega
                            go_wp2
                            refine wp_region_ext (by kernel_rfl) (by kernel_rfl) ?_
                            repeat (go_big_quiet_step (first | (go_at_call 75; with_reducible exact Ext.call (QU.out _))))
                            refine wpQuiet_nil ?_
                            rintro _ ⟨u, rfl⟩
                            have IM8 := Lib.hid (IM.out.below u.below IM.out.lt)
                            have RA8 := Lib.hid (RA.out.below u.below)
                            have RL8 := Lib.hid (RL.out.below u.below)
                            have BB8 := Lib.hid (BB.out.trans (u.below.mono BB.out.size))
                            have BWu := Lib.hid (BWr.out.trans (u.below.mono BWr.out.size))
                            clear u1 u2 u3 QU IM RA RL BB BWr q1
                            generalize u.val = w8 at *
                            go_wp2
                            go_loopw [124] (fun i wr => ∃ p : Nat, p ≤ ms.length ∧ i = .int .i64 (p : Int) ∧ Hid (Below w8.heap.size w8 wr)) (fun i _ => ms.length - (intOf i).toNat)
                            case atStart => exact ⟨0, Nat.zero_le _, rfl, Lib.hid (Below.refl _ _)⟩
                            case round =>
                              obtain ⟨p, hp, rfl, BP⟩ := hrel
                              have q1 := CLJ.out wr (RL8.out.below BP.out)
                              by_cases hlt3 : p < ms.length
                              · have i4 : (p : Int) < (ms.length : Int) := by omega
                                obtain ⟨y, hy⟩ : ∃ y, ms[p]? = some y := ⟨_, List.getElem?_eq_getElem hlt3⟩
                                have q2 := (IM8.out.below BP.out IM8.out.lt).cell p y hy
                                have u1 : ∀ u : Ext wr, u.val.cell? ⟨gl, j, none⟩ = some (.int .i64 (z : Int)) := fun u => u.cell q1
                                have u2 : ∀ u : Ext wr, u.val.cell? ⟨gm, p, none⟩ = some (.int .i64 y) := fun u => u.cell q2
                                clear hy
                                go_wp2
                                refine wp_region_ext (by kernel_rfl) (by kernel_rfl) ?_
                                repeat (go_big_quiet_step (fail))
                                refine wpQuiet_nil ?_
                                rintro _ ⟨u, rfl⟩
                                have BPu := Lib.hid (BP.out.trans (u.below.mono BP.out.size))
                                clear u1 u2 q1 q2
                                generalize u.val = w9 at *
                                by_cases hyz : y = (z : Int)
                                · have hyz1 : (y == (z : Int)) = true := by rw [hyz]; simp
                                  go_wp2
                                  go_ret
                                  exact sound_zero (BWu.out.trans (BPu.out.mono BWu.out.size))
                                · have hyz1 : (y == (z : Int)) = false := beq_eq_false_iff_ne.2 hyz
                                  go_wp2
                                  go_roundw
                                  case rel => exact ⟨p + 1, by omega, by go_num, BPu⟩
                                  case measure => simp [intOf]; omega
                              · have hpe : p = ms.length := by omega
                                have IMa := Lib.hid ((IM8.out.below BP.out IM8.out.lt).below ((Below.refl _ _).alloc (Nat.le_refl _) (.cells #[.int .i64 (z : Int)] 3)) (IM8.out.below BP.out IM8.out.lt).lt)
                                have HC : Hid ((wr.alloc (.cells #[.int .i64 (z : Int)] 3)).cell? ⟨wr.heap.size, 0, none⟩ = some (.int .i64 (z : Int))) := (Blk.new wr _ _).cell 0 rfl
                                have hmb : ms.length + 1 ≤ 1000000 := by have := HMM.out; omega
                                clear hpe
                                go_wp2_with (at_builtin; refine wpList_ints_push _ rfl (.tmp 137) (.tmp 142) 26 rfl 3 i0 Try.underlying26 I0.out.1 I0.out.2.1 I0.out.2.2.1 I0.out.2.2.2 gm cm ms rfl IMa.out ⟨wr.heap.size, 0, none⟩ 1 (z : Int) rfl HC.out hmb ?_; intro g9 c9 w9 own hg9 hgr9)
                                have hall : Below wr.heap.size wr (wr.alloc (.cells #[.int .i64 (z : Int)] 3)) := (Below.refl _ _).alloc (Nat.le_refl _) _
                                have hsz8 : w2.heap.size ≤ (wr.alloc (.cells #[.int .i64 (z : Int)] 3)).heap.size := Nat.le_trans BB8.out.size (Nat.le_trans BP.out.size hall.size)
                                have RA9 := Lib.hid (((RA8.out.below BP.out).below hall).push hg9 hgr9)
                                have RL9 := Lib.hid (((RL8.out.below BP.out).below hall).push hg9 hgr9)
                                have BB9 := Lib.hid (below_push ((BB8.out.trans (BP.out.mono BB8.out.size)).trans (hall.mono (Nat.le_trans BB8.out.size BP.out.size))) hgr9 hsz8 HBG.out)
                                have HG9 : Hid (w2.heap.size ≤ g9) := by
                                  show _ ≤ _
                                  rcases hg9 with e | e
                                  · rw [e]; exact HBG.out
                                  · omega
                                have IM9 := Lib.hid own
                                have HM9 : Hid ((ms ++ [(z : Int)]).length ≤ 72 * k + (j + 1)) := by have := HMM.out; show _ ≤ _; rw [List.length_append]; show _ + 1 ≤ _; omega
                                clear own hg9 hgr9 hall hsz8 IM8 RA8 RL8 BB8 BP HMM IMa HC
                                go_wp2
                                go_roundw
                                case rel => exact ⟨j + 1, g9, c9, ms ++ [(z : Int)], by omega, by go_num, by rw [List.length_append]; rfl, HM9, IM9, HG9, RA9, RL9, HU2, BB9⟩
                                case measure => simp [intOf]; omega
                  · have hje : j = L.length := by omega
                    have HM2 : Hid (ms.length ≤ 72 * (k + 1)) := by have := HMM.out; show _ ≤ _; omega
                    have HS2 : Hid (SndU xs m (ns.take (k + 1))) := by
                      show SndU _ _ _
                      rw [List.take_add_one, List.getElem?_eq_getElem hlt, HNK.out]
                      refine HSU.out.snoc (fun z hz h0 => ?_)
                      rw [HLL.out] at hz
                      obtain ⟨i', hi'⟩ := List.mem_iff_getElem?.1 hz
                      have : i' < (numsL xs m l).length := (List.getElem?_eq_some_iff.1 hi').1
                      exact HU.out i' z (by rw [hje, HL.out, intL_len]; exact this) hi' h0
                    clear HU HMM
                    go_wp2
                    go_roundw
                    case rel => exact ⟨k + 1, gm, cm, ms, by omega, by go_num, rfl, HM2, IM, HBG, RA, HS2, BB⟩
                    case measure => simp [intOf]; omega
              · go_wp2
                clear k10 kd kb
                clear IL G6 HLT
                have HLN : Hid (L.length ≤ 72) := by show _ ≤ _; rw [HL.out, intL_len]; exact numsL_len _ _ _
                have hln := HLN.out
                have IM7 := Lib.hid (IM6.out.below BL.out HG6.out)
                have RA7 := Lib.hid (RA6.out.below BL.out)
                have RL7 := Lib.hid (RowOff.of_irow ILf.out (g := gm) (by have h1 := HGL.out; have h2 := HG6.out; omega))
                have BB7 := Lib.hid (BB6.out.trans (BL.out.mono BB6.out.size))
                have HU0 : Hid (∀ (i' z : Nat), i' < 0 → (numsL xs m l)[i']? = some z → z ≠ 0 → usedR xs (z : Int) = true) := fun i' z h => absurd h (by omega)
                have HM7 : Hid (ms.length ≤ 72 * k + 0) := HMM.out
                clear IM6 RA6 ILf BB6 HGL HG6 BL HMM
                generalize wr = w7 at *
                go_wp2
                go_loopw [5, 89] (fun met i wr => ∃ (j gm cm : Nat) (ms : List Int), j ≤ L.length ∧ i = .int .i64 (j : Int) ∧ met = .slice (some ⟨gm, 0, none⟩) ms.length cm ∧ Hid (ms.length ≤ 72 * k + j) ∧ Hid (IRow wr gm cm ms) ∧ Hid (w2.heap.size ≤ gm) ∧ Hid (RowOff wr gm (some ⟨ba, oa, none⟩) (numsC ns)) ∧ Hid (RowOff wr gm (some ⟨gl, 0, none⟩) (L.map (Value.int .i64))) ∧ Hid (∀ (i' z : Nat), i' < j → (numsL xs m l)[i']? = some z → z ≠ 0 → usedR xs (z : Int) = true) ∧ Hid (Below w2.heap.size w2 wr)) (fun _ i _ => L.length - (intOf i).toNat)
                case atStart => exact ⟨0, gm, cm, ms, Nat.zero_le _, rfl, rfl, HM7, IM7, HBG, RA7, RL7, HU0, BB7⟩
                case round =>
                  clear HM7 IM7 HBG RA7 RL7 HU0 BB7
                  obtain ⟨j, gm, cm, ms, hj, rfl, rfl, HMM, IM, HBG, RA, RL, HU, BB⟩ := hrel
                  by_cases hlt2 : j < L.length
                  · have i3 : (j : Int) < (L.length : Int) := by omega
                    obtain ⟨z, hz⟩ : ∃ z, (numsL xs m l)[j]? = some z := by
                      have : j < (numsL xs m l).length := by rw [HL.out, intL_len] at hlt2; exact hlt2
                      exact ⟨_, List.getElem?_eq_getElem this⟩
                    have HZ := Lib.hid hz
                    have hLj : (L.map (Value.int .i64))[j]? = some (.int .i64 (z : Int)) := by rw [HL.out, List.getElem?_map, intL_get hz]; rfl
                    have HLJ := Lib.hid hLj
                    have CLJ : Hid (∀ W, RowOff W gm (some ⟨gl, 0, none⟩) (L.map (Value.int .i64)) → W.cell? ⟨gl, j, none⟩ = some (.int .i64 (z : Int))) := fun W hW => by
                      obtain ⟨b, o, hA, hc⟩ := hW.at_ (by rw [List.length_map]; omega)
                      injection hA with hA
                      injection hA with h1 h2 _
                      have := hc j _ HLJ.out
                      rw [← h1, ← h2, Nat.zero_add] at this
                      exact this
                    have q1 := CLJ.out wr RL.out
                    clear hz hLj
                    by_cases hz0 : z = 0
                    · subst hz0
                      have HU2 : Hid (∀ (i' z : Nat), i' < j + 1 → (numsL xs m l)[i']? = some z → z ≠ 0 → usedR xs (z : Int) = true) := fun i' z hi hz h0 => by
                        by_cases e : i' = j
                        · rw [e, HZ.out] at hz
                          exact absurd (Option.some.inj hz).symm h0
                        · exact HU.out i' z (by omega) hz h0
                      have HM2 : Hid (ms.length ≤ 72 * k + (j + 1)) := by have := HMM.out; show _ ≤ _; omega
                      clear HU HMM
                      go_wp2
                      go_roundw
                      case rel => exact ⟨j + 1, gm, cm, ms, by omega, by go_num, rfl, HM2, IM, HBG, RA, RL, HU2, BB⟩
                      case measure => simp [intOf]; omega
                    · have hz1 : ¬ ((z : Int) = 0) := by omega
                      have hz2 : ((z : Int) == 0) = false := beq_eq_false_iff_ne.2 (by omega)
                      have G9 := Lib.hid (g2.out.below BB.out (by have := S2.out; omega))
                      have u1 : ∀ u : Ext wr, u.val.cell? ⟨gl, j, none⟩ = some (.int .i64 (z : Int)) := fun u => u.cell q1
                      have u2 : ∀ u : Ext wr, u.val.cell? ⟨g0, 0, none⟩ = some (.int .i64 (xs.length : Int)) := fun u => u.cell (G9.out.cell 0 rfl)
                      have u3 : ∀ u : Ext wr, u.val.cell? ⟨g0, 5, none⟩ = some (.int .i64 (d : Int)) := fun u => u.cell (G9.out.cell 5 rfl)
                      have RVr := Lib.hid ((RV2.out.below BB.out).mono BB.out.size)
                      have QU : Hid (∀ u : Ext wr, Calls Try.prog 75 #[.slice A xs.length c, .int .i64 (z : Int)] u.val fun e w' => e = .returned (.bool (usedR xs (z : Int))) ∧ Below u.val.heap.size u.val w') := fun u => CU.out _ _ (RVr.out.ext u)
                      have BWr := Lib.hid (BW2.out.trans (BB.out.mono BW2.out.size))
                      clear G9 RVr
                      by_cases c1 : z < d
                      · have e1 : decide ((z : Int) < (d : Int)) = true := decide_eq_true (by omega)
                        have c1' : (z : Int) < (d : Int) := by omega
                        go_wp2
                        refine wp_region_ext (by kernel_rfl) (by kernel_rfl) ?_
                        repeat (go_big_quiet_step (first | (go_at_call 75; with_reducible exact Ext.call (QU.out _))))
                        refine wpQuiet_nil ?_
                        rintro _ ⟨u, rfl⟩
                        have BWu := Lib.hid (BWr.out.trans (u.below.mono BWr.out.size))
                        go_wp2
                        go_ret
                        exact sound_zero BWu.out
                      · have e1 : decide ((z : Int) < (d : Int)) = false := decide_eq_false (by omega)
                        have c1' : ¬ (z : Int) < (d : Int) := by omega
                        by_cases c2 : xs.length ≤ z
                        · have e2 : decide ((xs.length : Int) ≤ (z : Int)) = true := decide_eq_true (by omega)
                          have c2' : (xs.length : Int) ≤ (z : Int) := by omega
                          go_wp2
                          refine wp_region_ext (by kernel_rfl) (by kernel_rfl) ?_
                          repeat (go_big_quiet_step (first | (go_at_call 75; with_reducible exact Ext.call (QU.out _))))
                          refine wpQuiet_nil ?_
                          rintro _ ⟨u, rfl⟩
                          have BWu := Lib.hid (BWr.out.trans (u.below.mono BWr.out.size))
                          go_wp2
                          go_ret
                          exact sound_zero BWu.out
                        · have e2 : decide ((xs.length : Int) ≤ (z : Int)) = false := decide_eq_false (by omega)
                          have c2' : ¬ (xs.length : Int) ≤ (z : Int) := by omega
                          cases hus : usedR xs (z : Int) with
                          | false =>
                            rw [hus] at QU
                            go_wp2
                            refine wp_region_ext (by kernel_rfl) (by kernel_rfl) ?_
                            repeat (go_big_quiet_step (first | (go_at_call 75; with_reducible exact Ext.call (QU.out _))))
                            refine wpQuiet_nil ?_
                            rintro _ ⟨u, rfl⟩
                            have BWu := Lib.hid (BWr.out.trans (u.below.mono BWr.out.size))
                            go_wp2
                            go_ret
                            exact sound_zero BWu.out
                          | true =>
                            rw [hus] at QU
                            have HU2 : Hid (∀ (i' z : Nat), i' < j + 1 → (numsL xs m l)[i']? = some z → z ≠ 0 → usedR xs (z : Int) = true) := fun i' z' hi hz h0 => by
                              by_cases e : i' = j
                              · rw [e, HZ.out] at hz
                                rw [← Option.some.inj hz]; exact hus
                              · exact HU.out i' z' (by omega) hz h0
                            clear hus HU
                            have hml : ms.length ≤ 10000 := by have := HMM.out; omega
                            go_wp2
                            refine wp_region_ext (by kernel_rfl) (by kernel_rfl) ?_
                            repeat (go_big_quiet_step (first | (go_at_call 75; with_reducible exact Ext.call (QU.out _))))
                            refine wpQuiet_nil ?_
                            rintro _ ⟨u, rfl⟩
                            have IM8 := Lib.hid (IM.out.below u.below IM.out.lt)
                            have RA8 := Lib.hid (RA.out.below u.below)
                            have RL8 := Lib.hid (RL.out.below u.below)
                            have BB8 := Lib.hid (BB.out.trans (u.below.mono BB.out.size))
                            have BWu := Lib.hid (BWr.out.trans (u.below.mono BWr.out.size))
                            clear u1 u2 u3 QU IM RA RL BB BWr q1
                            generalize u.val = w8 at *
                            go_wp2
                            go_loopw [124] (fun i wr => ∃ p : Nat, p ≤ ms.length ∧ i = .int .i64 (p : Int) ∧ Hid (Below w8.heap.size w8 wr)) (fun i _ => ms.length - (intOf i).toNat)
                            case atStart => exact ⟨0, Nat.zero_le _, rfl, Lib.hid (Below.refl _ _)⟩
                            case round =>
                              obtain ⟨p, hp, rfl, BP⟩ := hrel
                              have q1 := CLJ.out wr (RL8.out.below BP.out)
                              by_cases hlt3 : p < ms.length
                              · have i4 : (p : Int) < (ms.length : Int) := by omega
                                obtain ⟨y, hy⟩ : ∃ y, ms[p]? = some y := ⟨_, List.getElem?_eq_getElem hlt3⟩
                                have q2 := (IM8.out.below BP.out IM8.out.lt).cell p y hy
                                have u1 : ∀ u : Ext wr, u.val.cell? ⟨gl, j, none⟩ = some (.int .i64 (z : Int)) := fun u => u.cell q1
                                have u2 : ∀ u : Ext wr, u.val.cell? ⟨gm, p, none⟩ = some (.int .i64 y) := fun u => u.cell q2
                                clear hy
                                go_wp2
                                refine wp_region_ext (by kernel_rfl) (by kernel_rfl) ?_
                                repeat (go_big_quiet_step (fail))
                                refine wpQuiet_nil ?_
                                rintro _ ⟨u, rfl⟩
                                have BPu := Lib.hid (BP.out.trans (u.below.mono BP.out.size))
                                clear u1 u2 q1 q2
                                generalize u.val = w9 at *
                                by_cases hyz : y = (z : Int)
                                · have hyz1 : (y == (z : Int)) = true := by rw [hyz]; simp
                                  go_wp2
                                  go_ret
                                  exact sound_zero (BWu.out.trans (BPu.out.mono BWu.out.size))
                                · have hyz1 : (y == (z : Int)) = false := beq_eq_false_iff_ne.2 hyz
                                  go_wp2
                                  go_roundw
                                  case rel => exact ⟨p + 1, by omega, by go_num, BPu⟩
                                  case measure => simp [intOf]; omega
                              · have hpe : p = ms.length := by omega
                                have IMa := Lib.hid ((IM8.out.below BP.out IM8.out.lt).below ((Below.refl _ _).alloc (Nat.le_refl _) (.cells #[.int .i64 (z : Int)] 3)) (IM8.out.below BP.out IM8.out.lt).lt)
                                have HC : Hid ((wr.alloc (.cells #[.int .i64 (z : Int)] 3)).cell? ⟨wr.heap.size, 0, none⟩ = some (.int .i64 (z : Int))) := (Blk.new wr _ _).cell 0 rfl
                                have hmb : ms.length + 1 ≤ 1000000 := by have := HMM.out; omega
                                clear hpe
                                go_wp2_with (at_builtin; refine wpList_ints_push _ rfl (.tmp 137) (.tmp 142) 26 rfl 3 i0 Try.underlying26 I0.out.1 I0.out.2.1 I0.out.2.2.1 I0.out.2.2.2 gm cm ms rfl IMa.out ⟨wr.heap.size, 0, none⟩ 1 (z : Int) rfl HC.out hmb ?_; intro g9 c9 w9 own hg9 hgr9)
                                have hall : Below wr.heap.size wr (wr.alloc (.cells #[.int .i64 (z : Int)] 3)) := (Below.refl _ _).alloc (Nat.le_refl _) _
                                have hsz8 : w2.heap.size ≤ (wr.alloc (.cells #[.int .i64 (z : Int)] 3)).heap.size := Nat.le_trans BB8.out.size (Nat.le_trans BP.out.size hall.size)
                                have RA9 := Lib.hid (((RA8.out.below BP.out).below hall).push hg9 hgr9)
                                have RL9 := Lib.hid (((RL8.out.below BP.out).below hall).push hg9 hgr9)
                                have BB9 := Lib.hid (below_push ((BB8.out.trans (BP.out.mono BB8.out.size)).trans (hall.mono (Nat.le_trans BB8.out.size BP.out.size))) hgr9 hsz8 HBG.out)
                                have HG9 : Hid (w2.heap.size ≤ g9) := by
                                  show _ ≤ _
                                  rcases hg9 with e | e
                                  · rw [e]; exact HBG.out
                                  · omega
                                have IM9 := Lib.hid own
                                have HM9 : Hid ((ms ++ [(z : Int)]).length ≤ 72 * k + (j + 1)) := by have := HMM.out; show _ ≤ _; rw [List.length_append]; show _ + 1 ≤ _; omega
                                clear own hg9 hgr9 hall hsz8 IM8 RA8 RL8 BB8 BP HMM IMa HC
                                go_wp2
                                go_roundw
                                case rel => exact ⟨j + 1, g9, c9, ms ++ [(z : Int)], by omega, by go_num, by rw [List.length_append]; rfl, HM9, IM9, HG9, RA9, RL9, HU2, BB9⟩
                                case measure => simp [intOf]; omega
                  · have hje : j = L.length := by omega
                    have HM2 : Hid (ms.length ≤ 72 * (k + 1)) := by have := HMM.out; show _ ≤ _; omega
                    have HS2 : Hid (SndU xs m (ns.take (k + 1))) := by
                      show SndU _ _ _
                      rw [List.take_add_one, List.getElem?_eq_getElem hlt, HNK.out]
                      refine HSU.out.snoc (fun z hz h0 => ?_)
                      rw [HLL.out] at hz
                      obtain ⟨i', hi'⟩ := List.mem_iff_getElem?.1 hz
                      have : i' < (numsL xs m l).length := (List.getElem?_eq_some_iff.1 hi').1
                      exact HU.out i' z (by rw [hje, HL.out, intL_len]; exact this) hi' h0
                    clear HU HMM
                    go_wp2
                    go_roundw
                    case rel => exact ⟨k + 1, gm, cm, ms, by omega, by go_num, rfl, HM2, IM, HBG, RA, HS2, BB⟩
                    case measure => simp [intOf]; omega
      · have hke : k = ns.length := by omega
        have HSF : Hid (SndU xs m ns) := by
          have := HSU.out
          rwa [hke, List.take_length] at this
        go_wp2
        go_ret
        exact ⟨⟨1, rfl, fun _ => ⟨m, HV.out, by rw [HNS.out]; exact HSF.out⟩⟩, BW2.out.trans (BB.out.mono BW2.out.size)⟩
end Go.Proofs.Ytjmafegckfijbaa

namespace Go.Proofs.Ytjmafegckfijbaa
set_option linter.unusedVariables false
set_option linter.unusedSimpArgs false
section
variable {V W : List ByteArray} {m n a : Nat}
/-- what the inodes have whose owner is one -/
def allS (xs : List ByteArray) (ns : List Nat) : Nat := ((ns.filter fun n : Nat => decide ((getR xs (n : Int)).getD 2 0 < 16)).map fun n : Nat => countO xs (n : Int)).sum
/-- what the first k owners have -/
def sumU (xs : List ByteArray) (k : Nat) : Nat := ((List.range k).map fun i : Nat => usedO xs (i : Int)).sum
theorem sumU_succ (xs : List ByteArray) (k : Nat) : sumU xs (k + 1) = sumU xs k + usedO xs (k : Int) := by
  unfold sumU
  rw [List.range_succ, List.map_append, List.sum_append]; simp
theorem sumU_le (xs : List ByteArray) : ∀ k, sumU xs k ≤ 4608 * k
  | 0 => by unfold sumU; simp
  | k + 1 => by have := sumU_le xs k; have := usedO_le xs (k : Int); rw [sumU_succ]; omega
theorem allS_snoc (xs : List ByteArray) (ns : List Nat) (n : Nat) : allS xs (ns ++ [n]) = allS xs ns + (if (getR xs (n : Int)).getD 2 0 < 16 then countO xs (n : Int) else 0) := by
  unfold allS
  rw [List.filter_append, List.map_append, List.sum_append]
  congr 1
  rw [List.filter_cons]
  by_cases h : (getR xs (n : Int)).getD 2 0 < 16
  · rw [decide_eq_true h, if_pos rfl, if_pos h]; simp
  · rw [decide_eq_false h, if_neg (by decide), if_neg h]; rfl
theorem allS_le (xs : List ByteArray) : ∀ ns : List Nat, allS xs ns ≤ 72 * ns.length
  | [] => by simp [allS]
  | n :: ns => by
    have ih := allS_le xs ns
    have hc := countO_le xs (n : Int)
    unfold allS at ih ⊢
    rw [List.filter_cons, List.length_cons]
    split
    · rw [List.map_cons, List.sum_cons]; omega
    · omega
theorem sum_two (f g : Nat → Nat) : ∀ l : List Nat, (l.map fun i => f i + g i).sum = (l.map f).sum + (l.map g).sum
  | [] => rfl
  | a :: l => by simp only [List.map_cons, List.sum_cons, sum_two f g l]; omega
theorem sum_one (o c : Nat) : ∀ k, ((List.range k).map fun i => if o = i then c else 0).sum = if o < k then c else 0
  | 0 => by simp
  | k + 1 => by
    rw [List.range_succ, List.map_append, List.sum_append, sum_one o c k]
    simp only [List.map_cons, List.map_nil, List.sum_cons, List.sum_nil]
    by_cases h : o = k
    · subst h; simp
    · by_cases h2 : o < k
      · rw [if_pos h2, if_neg h, if_pos (show o < k + 1 by omega)]; rfl
      · rw [if_neg h2, if_neg h, if_neg (show ¬ o < k + 1 by omega)]; rfl
/-- all owners' blocks together -/
theorem sums_all (xs : List ByteArray) : sumU xs 16 = allS xs (allO xs) := by
  have key : ∀ ns : List Nat, ((List.range 16).map fun i : Nat => usedL xs (i : Int) ns).sum = allS xs ns := by
    intro ns
    induction ns with
    | nil =>
      have : (fun i : Nat => usedL xs (i : Int) []) = fun _ => 0 := by funext i; rfl
      rw [this]; rfl
    | cons n ns ih =>
      have e : (fun i : Nat => usedL xs (i : Int) (n :: ns)) = fun i : Nat => (if (getR xs (n : Int)).getD 2 0 = i then countO xs (n : Int) else 0) + usedL xs (i : Int) ns := by
        funext i
        unfold usedL
        rw [List.filter_cons]
        unfold hisB
        by_cases h : (getR xs (n : Int)).getD 2 0 = i
        · have h2 : decide (((((getR xs (n : Int)).getD 2 0 : Nat) : Int)) = (i : Int)) = true := decide_eq_true (by omega)
          rw [h2, if_pos rfl, if_pos h, List.map_cons, List.sum_cons]
        · have h2 : decide (((((getR xs (n : Int)).getD 2 0 : Nat) : Int)) = (i : Int)) = false := decide_eq_false (by omega)
          rw [h2, if_neg (by decide), if_neg h, Nat.zero_add]
      rw [e, sum_two, ih, sum_one]
      unfold allS
      rw [List.filter_cons]
      by_cases h : (getR xs (n : Int)).getD 2 0 < 16
      · rw [if_pos h, decide_eq_true h, if_pos rfl, List.map_cons, List.sum_cons]
      · rw [if_neg h, decide_eq_false h, if_neg (by decide), Nat.zero_add]
  exact key _
/-- what one inode adds to an owner's blocks -/
def tmU (xs : List ByteArray) (a : Nat) (n : Nat) : Nat := if (kindR xs n != 0 && hisB xs (a : Int) n) = true then countO xs (n : Int) else 0
theorem sum_filter (p : Nat → Bool) (f : Nat → Nat) : ∀ l : List Nat, ((l.filter p).map f).sum = (l.map fun x => if p x = true then f x else 0).sum
  | [] => rfl
  | x :: l => by
    rw [List.filter_cons, List.map_cons, List.sum_cons, ← sum_filter p f l]
    split
    · rw [List.map_cons, List.sum_cons]
    · rw [Nat.zero_add]
theorem used_tm (hv : IsVol V m) (a : Nat) : usedO V (a : Int) = ((List.range' 1 m).map (tmU V a)).sum := by
  unfold usedO allO usedL
  rw [ofR_some.2 hv]
  dsimp only
  unfold allR
  rw [List.filter_filter, sum_filter]
  congr 1
  refine List.map_congr_left (fun n _ => ?_)
  unfold tmU
  rw [Bool.and_comm]
theorem kindR_get (hv : IsVol V m) (h1 : 1 ≤ n) (h2 : n ≤ m) : kindR V n = (getR V (n : Int)).getD 0 0 := by rw [getR_vol hv h1 h2, kindR_ino]
/-- blocks counted, by slots -/
theorem countO_slots (hv : IsVol V m) (h1 : 1 ≤ n) (h2 : n ≤ m) : countO V (n : Int) = cntS V m (getR V (n : Int)) + (if datB V m ((getR V (n : Int)).getD 11 0) = true then 1 else 0) := by
  unfold countO
  rw [inoE_zero hv h1 h2, if_neg (by simp), mO_vol hv]
  unfold countX cntS manyX
  congr 1
  rw [show List.range 71 = List.range 70 ++ [70] from List.range_succ, List.filter_append, List.length_append]
  have e1 : (List.range 70).filter (fun s => slotX V m (getR V (n : Int)) s != 0) = (List.range 70).filter (fun k => atX V m (getR V (n : Int)) k != 0) := List.filter_congr (fun s hs => by rw [slotX_lt (List.mem_range.1 hs)])
  rw [e1]
  congr 1
  by_cases hd : datB V m ((getR V (n : Int)).getD 10 0) = true
  · have e2 : (slotX V m (getR V (n : Int)) 70 != 0) = true := bne_iff_ne.2 (datB_ind_iff.1 hd)
    rw [if_pos hd]
    simp only [List.filter_cons, List.filter_nil, e2]
    rfl
  · have h0 : slotX V m (getR V (n : Int)) 70 = 0 := Classical.not_not.1 (fun h => hd (datB_ind_iff.2 h))
    have e2 : (slotX V m (getR V (n : Int)) 70 != 0) = false := by rw [h0]; rfl
    rw [if_neg hd]
    simp only [List.filter_cons, List.filter_nil, e2]
    rfl
/-- a file whose blocks are moved: those of another file, all of them taken, stay as they were -/
theorem MvS.same {xs ys : List ByteArray} {l l' k : List Nat} (h : MvS m xs l ys l') (used : ∀ s, s < 71 → slotX xs m k s ≠ 0 → bitV xs (slotX xs m k s) = true) (ap : ApartS xs m l k) : ∀ s, s < 71 → slotX ys m k s = slotX xs m k s := by
  have hb : ∀ s, s < 71 → slotX xs m k s ≠ 0 → blkL ys (slotX xs m k s) = blkL xs (slotX xs m k s) ∧ bitV ys (slotX xs m k s) = true := fun s hs h0 =>
    h.far _ (slotX_dat h0) (used s hs h0) (fun t ht e => h0 (by rw [← e]; exact ap t s ht hs e))
  have hd : ∀ j, datB ys m j = datB xs m j := fun j => datB_len m j h.len
  have h70 : slotX ys m k 70 = slotX xs m k 70 := by rw [slotX_ind, slotX_ind, hd]
  intro s hs
  by_cases e : s = 70
  · rw [e]; exact h70
  · rw [slotX_lt (by omega), slotX_lt (by omega)]
    by_cases h6 : s < 6
    · rw [at_low h6, at_low h6, hd]
    · by_cases h0 : slotX xs m k 70 = 0
      · rw [at_hi0 (by omega) h0, at_hi0 (by omega) (by rw [h70]; exact h0)]
      · rw [at_hi (by omega) h0, at_hi (by omega) (by rw [h70]; exact h0), h70, (hb 70 (by omega) h0).1, hd]
/-- a new file: nobody has more blocks -/
theorem used_new (hv : IsVol V m) (ha : a < 16) (h0 : (newO V 1 (a : Int)).2.2 = 0) :
    ∃ n : Nat, newO V 1 (a : Int) = (putV V n (newL 1 a), (n : Int), 0) ∧ 1 ≤ n ∧ n ≤ m ∧ kindR V n = 0 ∧ usedO (putV V n (newL 1 a)) (a : Int) = usedO V (a : Int) := by
  unfold newO at h0 ⊢
  rw [ofR_some.2 hv] at h0 ⊢
  dsimp only at h0 ⊢
  have hc : ¬ (((1 : Int) ≠ 1 ∧ (1 : Int) ≠ 2) ∨ (a : Int) < 0 ∨ 16 ≤ (a : Int)) := by omega
  rw [if_neg hc] at h0 ⊢
  cases hf : freeI V m with
  | none => rw [hf] at h0; cases h0
  | some n =>
    obtain ⟨h1, h2, h3, _⟩ := freeI_some.1 hf
    dsimp only
    rw [Int.toNat_natCast, show Int.toNat 1 = 1 from rfl]
    refine ⟨n, rfl, h1, h2, h3, ?_⟩
    have hv' := hv.putI h1 h2 (newL 1 a)
    rw [used_tm hv', used_tm hv]
    congr 1
    refine List.map_congr_left (fun k hk => ?_)
    have hk' := List.mem_range'_1.1 hk
    by_cases e : k = n
    · subst e
      have hc0 : countO (putV V k (newL 1 a)) (k : Int) = 0 := by
        rw [countO_slots hv' h1 h2, get_put_same hv h1 h2 (newL_fit (by decide) (by omega))]
        have : cntS (putV V k (newL 1 a)) m (newL 1 a) = 0 := by
          unfold cntS
          have e : (fun s => slotX (putV V k (newL 1 a)) m (newL 1 a) s != 0) = fun _ => false := by funext s; rw [fresh_slot]; rfl
          rw [e]; simp
        rw [this, show (newL 1 a).getD 11 0 = 0 from rfl, datB_zero]; rfl
      unfold tmU
      rw [hc0, h3]
      simp
    · unfold tmU hisB
      have hg := get_put_other hv h1 h2 (newL 1 a) (k : Int) (by omega)
      have hc : countO (putV V n (newL 1 a)) (k : Int) = countO V (k : Int) := by
        rw [countO_slots hv' hk'.1 (by omega), countO_slots hv hk'.1 (by omega), hg, cntS_put hv h1 h2, datB_len m _ (putV_length _ _ _)]
      rw [hg, hc, kind_put_other hv h1 h2 hk'.1 (by omega) (fun h => e h.symm)]
/-- one block written into a new file -/
theorem used_write (hv : IsVol V m) (hs : SndU V m (allO V)) (ha : a < 16) (h1 : 1 ≤ n) (h2 : n ≤ m) (h3 : kindR V n = 0) {at' : Nat} (hat : at' < 70)
    (h0 : (writeO (putV V n (newL 1 a)) (n : Int) ((128 * at' : Nat) : Int) [120]).2 = 0) :
    (writeO (putV V n (newL 1 a)) (n : Int) ((128 * at' : Nat) : Int) [120]).1.length = (putV V n (newL 1 a)).length ∧ usedO (writeO (putV V n (newL 1 a)) (n : Int) ((128 * at' : Nat) : Int) [120]).1 (a : Int) = usedO (putV V n (newL 1 a)) (a : Int) + (if 6 ≤ at' then 2 else 1) := by
  have hfit : FitN (newL 1 a) := newL_fit (by decide) (by omega)
  have hw := hv.putI h1 h2 (newL 1 a)
  have hgn : getR (putV V n (newL 1 a)) (n : Int) = newL 1 a := get_put_same hv h1 h2 hfit
  have hkn : kindR (putV V n (newL 1 a)) n = 1 := by rw [kind_put_same hv h1 h2 hfit]; rfl
  have hsW : ∀ k : Nat, 1 ≤ k → k ≤ m → k ≠ n → kindR (putV V n (newL 1 a)) k ≠ 0 → ∀ s, s < 71 → slotX (putV V n (newL 1 a)) m (getR (putV V n (newL 1 a)) (k : Int)) s ≠ 0 → bitV (putV V n (newL 1 a)) (slotX (putV V n (newL 1 a)) m (getR (putV V n (newL 1 a)) (k : Int)) s) = true := by
    intro k hk1 hk2 hne hkk s hs71 hs0
    rw [get_put_other hv h1 h2 _ _ (by omega), slotX_put hv h1 h2] at hs0 ⊢
    rw [bitV_put hv h1 h2]
    rw [kind_put_other hv h1 h2 hk1 hk2 (fun h => hne h.symm)] at hkk
    refine hs.used hv ?_ s hs71 hs0
    unfold allO allR
    rw [ofR_some.2 hv]
    exact List.mem_filter.2 ⟨List.mem_range'_1.2 ⟨hk1, by omega⟩, by simpa using hkk⟩
  generalize putV V n (newL 1 a) = W at *
  have g : GoodF W m (newL 1 a) := fresh_good hw (by decide) (by omega)
  unfold writeO at h0 ⊢
  rw [inoE_zero hw h1 h2, if_neg (by simp), if_neg (by omega), if_neg (by simp; omega), mO_vol hw, Int.toNat_natCast, hgn] at h0 ⊢
  cases hr : wriG noK W m (newL 1 a) (128 * at') [120] with
  | none => rw [hr] at h0; cases h0
  | some r =>
    dsimp only
    rw [Int.toNat_natCast]
    have ws := wriG_mv g.ok g.own (by simp; omega) hr
    have hvr := ws.mv.vol
    have hvx := hvr.putI h1 h2 r.2
    have hgx : getR (putV r.1 n r.2) (n : Int) = r.2 := get_put_same hvr h1 h2 ws.ok.fit
    have k0 : r.2.getD 0 0 = 1 := ws.mv.keep 0 (.inl (by omega))
    have k2 : r.2.getD 2 0 = a := ws.mv.keep 2 (.inl (by omega))
    have k11 : r.2.getD 11 0 = 0 := ws.mv.keep 11 (.inr rfl)
    have hfr : ∀ s, slotX W m (newL 1 a) s = 0 := fresh_slot W m 1 a
    have ap : ∀ k : List Nat, ApartS W m (newL 1 a) k := fun k s t _ _ _ => hfr s
    -- the other files
    have hoth : ∀ k : Nat, 1 ≤ k → k ≤ m → k ≠ n → tmU (putV r.1 n r.2) a k = tmU W a k := by
      intro k hk1 hk2 hne
      have hg : getR (putV r.1 n r.2) (k : Int) = getR W (k : Int) := by
        obtain ⟨b1, b2⟩ := blk_at hk1 hk2
        rw [get_put_other hvr h1 h2 _ _ (by omega), getR_vol hvr hk1 hk2, getR_vol hw hk1 hk2, ws.mv.low (blkN k) b2 (by omega)]
      have hkd : kindR (putV r.1 n r.2) k = kindR W k := by rw [kindR_get hvx hk1 hk2, kindR_get hw hk1 hk2, hg]
      unfold tmU hisB
      rw [hkd, hg]
      by_cases hz : kindR W k = 0
      · rw [hz]; simp
      · have hc : countO (putV r.1 n r.2) (k : Int) = countO W (k : Int) := by
          rw [countO_slots hvx hk1 hk2, countO_slots hw hk1 hk2, hg, cntS_put hvr h1 h2, datB_len (xs := putV r.1 n r.2) (ys := W) m _ ((putV_length _ _ _).trans ws.mv.len)]
          congr 1
          exact cntS_congr (ws.mv.same (hsW k hk1 hk2 hne hz) (ap _))
        rw [hc]
    -- the file itself
    have hself : tmU (putV r.1 n r.2) a n = if 6 ≤ at' then 2 else 1 := by
      unfold tmU hisB
      rw [kindR_get hvx h1 h2, hgx, k0, k2, countO_slots hvx h1 h2, hgx, k11, datB_zero, cntS_put hvr h1 h2]
      rw [if_pos (by simp), if_neg (by decide), Nat.add_zero]
      unfold cntS
      rw [show List.range 71 = List.range 70 ++ [70] from List.range_succ, List.filter_append, List.length_append]
      have e1 : ((List.range 70).filter fun s => slotX r.1 m r.2 s != 0).length = 1 := by
        have : (List.range 70).filter (fun s => slotX r.1 m r.2 s != 0) = (List.range 70).filter (fun s => at' == s) := List.filter_congr (fun s hs => by
          have hs70 := List.mem_range.1 hs
          rw [slotX_lt hs70, Bool.eq_iff_iff, bne_iff_ne, beq_iff_eq, ws.at_ s hs70]
          have := hfr s
          rw [slotX_lt hs70] at this
          constructor
          · rintro (h | ⟨_, h⟩)
            · exact absurd this h
            · simp only [List.length_cons, List.length_nil] at h
              omega
          · intro h
            refine .inr ⟨by simp, ?_⟩
            simp only [List.length_cons, List.length_nil]
            omega)
        rw [this]
        have key : ∀ j, ((List.range j).filter (fun s => at' == s)).length = if at' < j then 1 else 0 := by
          intro j
          induction j with
          | zero => rfl
          | succ j ih =>
            rw [List.range_succ, List.filter_append, List.length_append, ih]
            by_cases e : at' = j
            · subst e; simp
            · have : ([j].filter fun s => at' == s) = [] := by simp [e]
              rw [this]
              by_cases h : at' < j
              · rw [if_pos h, if_pos (show at' < j + 1 by omega)]; rfl
              · rw [if_neg h, if_neg (show ¬ at' < j + 1 by omega)]; rfl
        rw [key, if_pos hat]
      rw [e1]
      have hi := ws.ind
      by_cases h6 : 6 ≤ at'
      · have : slotX r.1 m r.2 70 ≠ 0 := hi.2 (.inr ⟨by simp, by simp only [List.length_cons, List.length_nil]; omega⟩)
        have e2 : (slotX r.1 m r.2 70 != 0) = true := bne_iff_ne.2 this
        rw [if_pos h6]
        simp only [List.filter_cons, List.filter_nil, e2]; rfl
      · have : slotX r.1 m r.2 70 = 0 := Classical.byContradiction fun h => by
          rcases hi.1 h with h | ⟨_, h⟩
          · exact h (hfr 70)
          · simp only [List.length_cons, List.length_nil] at h
            omega
        have e2 : (slotX r.1 m r.2 70 != 0) = false := by rw [this]; rfl
        rw [if_neg h6]
        simp only [List.filter_cons, List.filter_nil, e2]; rfl
    have hold : tmU W a n = 0 := by
      unfold tmU
      have hc0 : countO W (n : Int) = 0 := by
        rw [countO_slots hw h1 h2, hgn]
        have : cntS W m (newL 1 a) = 0 := by
          unfold cntS
          have e : (fun s => slotX W m (newL 1 a) s != 0) = fun _ => false := by funext s; rw [hfr]; rfl
          rw [e]; simp
        rw [this, show (newL 1 a).getD 11 0 = 0 from rfl, datB_zero]; rfl
      rw [hc0]; split <;> rfl
    have hsum := sum_upd (tmU W a) (tmU (putV r.1 n r.2) a) (List.range' 1 m) List.nodup_range' (List.mem_range'_1.2 ⟨h1, by omega⟩) (fun k hk hne => by
      have := List.mem_range'_1.1 hk
      exact hoth k this.1 (by omega) hne)
    rw [← used_tm hw, ← used_tm hvx, hold, hself] at hsum
    exact ⟨(putV_length _ _ _).trans ws.mv.len, by omega⟩
end
end Go.Proofs.Ytjmafegckfijbaa

namespace Go.Proofs.Ytjmafegckfijbaa
open Go.RowKit
set_option linter.unusedVariables false
set_option linter.unusedSimpArgs false
set_option maxRecDepth 100000
set_option maxHeartbeats 8000000 in
theorem law_sums (A : Option Addr) (c : Nat) (xs : List ByteArray) (ow kk : Nat) (w : World) (hx : xs.length ≤ maxLen) (hs : ∀ s ∈ xs, s.size ≤ 140737488355328) (hw : ow < 256) (hk : kk < 256) (h : RowAt w w.heap.size A (xs.map .string)) :
    Calls Try.prog 7 #[.slice A xs.length c, .int .u8 ow, .int .u8 kk] w fun e w' => e = .returned (.bool true) ∧ Below w.heap.size w w' := by
  have HR := Lib.hid h
  have HX := Lib.hid hx
  have HS := Lib.hid hs
  obtain ⟨a, ha⟩ : ∃ a, ow % 16 = a := ⟨_, rfl⟩
  obtain ⟨p, hp⟩ : ∃ p, kk % 70 = p := ⟨_, rfl⟩
  have a16 : a < 16 := by omega
  have p70 : p < 70 := by omega
  have a1 : (ow : Int) % 16 = (a : Int) := by omega
  have a2 : IntKind.i64.wrap (ow : Int) = (ow : Int) := IntWalk.i64_in _ (by omega)
  have a3 : (ow : Int).tmod 16 = (a : Int) := by rw [← ha]; rfl
  have a4 : IntKind.i64.wrap (a : Int) = (a : Int) := IntWalk.i64_in _ (by omega)
  have b1 : (kk : Int) % 70 = (p : Int) := by omega
  have b2 : IntKind.i64.wrap (kk : Int) = (kk : Int) := IntWalk.i64_in _ (by omega)
  have b3 : (kk : Int).tmod 70 = (p : Int) := by rw [← hp]; rfl
  have b4 : IntKind.i64.wrap (p : Int) = (p : Int) := IntWalk.i64_in _ (by omega)
  obtain ⟨q, hq⟩ : ∃ q, 128 * p = q := ⟨_, rfl⟩
  have b5 : IntKind.i64.wrap (128 * (p : Int)) = (q : Int) := by
    have : IntKind.i64.wrap (128 * (p : Int)) = 128 * (p : Int) := IntWalk.i64_in _ (by omega)
    rw [this]; omega
  have HQ := Lib.hid hq
  have hq9 : q ≤ 9000 := by omega
  clear h hx hs ha hp hq
  have CA := Lib.hid (fun w hx hr => all_ino A c xs w hx hr)
  have CG := Lib.hid (fun (n : Nat) w hx hr => get_ino A c xs (n : Int) w hx hr)
  have CC := Lib.hid (fun (n : Nat) w hx hr => count_any A c xs (n : Int) w hx hr)
  have CU := Lib.hid (fun (n : Nat) w hx hr => used_quo A c xs (n : Int) w hx hr)
  have CS := Lib.hid (fun w hx hr => sound_any A c xs w hx hr)
  unfold SoundPost at CS
  have CN := Lib.hid (fun w hx hr => new_ino A c xs 1 (a : Int) w hx hr)
  have HSUM := Lib.hid (sums_all xs)
  obtain ⟨ns, hns⟩ : ∃ ns, allO xs = ns := ⟨_, rfl⟩
  have HNS := Lib.hid hns
  have hnl := allO_len xs
  rw [hns] at CA HSUM hnl
  have HOK : Hid (∀ n ∈ ns, inoE xs (n : Int) = 0) := fun n hn => allO_ok (hns ▸ hn)
  clear hns
  go_enter Try.func7, Try.ntmps7
  go_wp2_with fail
  refine (alive22_any _).mono ?_
  rintro e w1 ⟨rfl, hb1⟩
  have B := Lib.hid hb1
  have RV := Lib.hid ((HR.out.below B.out).mono B.out.size)
  clear hb1
  go_wp2_with fail
  refine (great18_any A c xs _ HX.out (fun s h => Nat.le_trans (HS.out s h) (by decide)) RV.out).mono ?_
  rintro e w' ⟨⟨r, rfl, rfl | ⟨rfl, hl80⟩⟩, rfl⟩
  · go_wp2
    go_ret
    exact ⟨rfl, B.out⟩
  have HX6 : Hid (xs.length ≤ 1000000) := by show _ ≤ _; omega
  clear HR HX HS
  go_wp2_with fail
  refine (CA.out _ HX6.out RV.out).mono ?_
  rintro e w2 ⟨⟨v2, rfl, hn2⟩, hb2⟩
  obtain ⟨A2, c2, rfl, hr2⟩ := hn2.read
  have B2 := Lib.hid (B.out.trans (hb2.mono B.out.size))
  have RV2 := Lib.hid ((RV.out.below hb2).mono hb2.size)
  have RN := Lib.hid hr2
  clear hn2 hb2 hr2 CA B RV
  go_wp2
  go_loopw [7, 10] (fun v i wr => ∃ k : Nat, k ≤ ns.length ∧ i = .int .i64 (k : Int) ∧ v = .int .i64 (allS xs (ns.take k) : Nat) ∧ Hid (Below w2.heap.size w2 wr)) (fun _ i _ => ns.length - (intOf i).toNat)
  case atStart => exact ⟨0, Nat.zero_le _, rfl, rfl, Lib.hid (Below.refl _ _)⟩
  case round =>
    obtain ⟨k, hk, rfl, rfl, BB⟩ := hrel
    by_cases hlt : k < ns.length
    · have i2 : (k : Int) < (ns.length : Int) := by omega
      obtain ⟨bn, on, rfl, hbn, hcn⟩ := RN.out.at_ (by unfold numsC; rw [List.length_map]; omega)
      obtain ⟨n, hn⟩ : ∃ n, ns[k] = n := ⟨_, rfl⟩
      have hnm : n ∈ ns := hn ▸ List.getElem_mem hlt
      have hns1 : ns.take (k + 1) = ns.take k ++ [n] := by rw [List.take_add_one, List.getElem?_eq_getElem hlt, hn]; rfl
      have HC1 : Hid (∀ W, Below w2.heap.size w2 W → W.cell? ⟨bn, on + k, none⟩ = some (.int .i64 (n : Int))) := fun W hb => (hb.cell (p := ⟨bn, on + k, none⟩) hbn).trans (hcn k _ (by unfold numsC; rw [List.getElem?_map, List.getElem?_eq_getElem hlt, hn]; rfl))
      have q1 := HC1.out _ BB.out
      have hale := allS_le xs (ns.take k)
      rw [List.length_take] at hale
      have HSN := Lib.hid (allS_snoc xs (ns.take k) n)
      rw [← hns1] at HSN
      obtain ⟨sa, has⟩ : ∃ sa, allS xs (ns.take k) = sa := ⟨_, rfl⟩
      rw [has] at hale HSN
      rw [has]
      have CGn := Lib.hid (fun w hr => CG.out n w HX6.out hr)
      rw [HOK.out n hnm] at CGn
      have CCn := Lib.hid (fun w hr => CC.out n w HX6.out hr)
      have hcl := countO_le xs (n : Int)
      obtain ⟨ct, hct⟩ : ∃ ct, countO xs (n : Int) = ct := ⟨_, rfl⟩
      rw [hct] at CCn hcl HSN
      obtain ⟨l, hll⟩ : ∃ l, getR xs (n : Int) = l := ⟨_, rfl⟩
      have hl12 : l.length = 12 := by rw [← hll]; exact getR_len _ _
      rw [hll] at CGn HSN
      have HIZ : Hid ((inoC l).size = 12) := by show _ = _; rw [inoC_size, hl12]
      have HI := Lib.hid (ino_info12 hl12)
      have c2' := inoC_at hl12 2 (by omega)
      obtain ⟨l2, hl2⟩ : ∃ l2, l.getD 2 0 = l2 := ⟨_, rfl⟩
      rw [hl2] at c2' HSN
      have w1' : IntKind.i64.wrap ((sa : Int) + (ct : Int)) = (sa : Int) + (ct : Int) := IntWalk.i64_in _ (by omega)
      have RVr := Lib.hid ((RV2.out.below BB.out).mono BB.out.size)
      clear hbn hcn hn hnm hns1 has hct hll hl12 hl2
      go_wp2_with fail
      refine (CGn.out _ RVr.out).mono ?_
      rintro e w3 ⟨rfl, hb3⟩
      have BB3 := Lib.hid (BB.out.trans (hb3.mono BB.out.size))
      have HS4 : Hid (∀ w4, (w3.alloc (.cells (inoC (List.replicate 12 0)) 45)).grownBy w4 (some w3.heap.size) → Below w2.heap.size w2 w4) := fun w4 hg => BB3.out.trans ((((Below.refl w3.heap.size w3).alloc (Nat.le_refl _) _).grown hg (by simp) (fun k e => by cases e; exact Nat.le_refl _)).mono BB3.out.size)
      clear hb3 RVr BB CGn q1
      by_cases h16 : l2 < 16
      · have h16' : (l2 : Int) < 16 := by omega
        rw [if_pos h16] at HSN
        go_wp2_with (refine store_blk 45 (.tmp 11) (.tmp 42) w3.heap.size 45 (inoC (List.replicate 12 0)) (inoC l) rfl rfl rfl rfl (Blk.new w3 _ _) (by rw [HIZ.out]; rfl) HI.out (inoC_one _) ?_; intro w4 hr4 hg4; have k2 := hr4.cell 2 c2'; have q1 := HC1.out _ (HS4.out _ hg4))
        have BB4 := Lib.hid (HS4.out _ hg4)
        clear hr4 hg4 k2 q1
        refine (CCn.out _ ((RV2.out.below BB4.out).mono BB4.out.size)).mono ?_
        rintro e w5 ⟨rfl, hb5⟩
        have BB5 := Lib.hid (BB4.out.trans (hb5.mono BB4.out.size))
        clear hb5 BB4 BB3 HS4
        go_wp2
        go_roundw
        case rel => exact ⟨k + 1, by omega, by go_num, by rw [HSN.out]; go_num, BB5⟩
        case measure => simp [intOf]; omega
      · have h16' : ¬ (l2 : Int) < 16 := by omega
        rw [if_neg h16] at HSN
        go_wp2_with (refine store_blk 45 (.tmp 11) (.tmp 42) w3.heap.size 45 (inoC (List.replicate 12 0)) (inoC l) rfl rfl rfl rfl (Blk.new w3 _ _) (by rw [HIZ.out]; rfl) HI.out (inoC_one _) ?_; intro w4 hr4 hg4; have k2 := hr4.cell 2 c2'; have q1 := HC1.out _ (HS4.out _ hg4))
        have BB4 := Lib.hid (HS4.out _ hg4)
        clear hr4 hg4 k2 q1 BB3 HS4
        go_roundw
        case rel => exact ⟨k + 1, by omega, by go_num, by rw [HSN.out]; rfl, BB4⟩
        case measure => simp [intOf]; omega
    · have hke : k = ns.length := by omega
      have htk : ns.take k = ns := by rw [hke, List.take_length]
      have hale := allS_le xs ns
      rw [htk, ← HSUM.out]
      have hsl := sumU_le xs 16
      have B3 := Lib.hid (B2.out.trans (BB.out.mono B2.out.size))
      have RV3 := Lib.hid ((RV2.out.below BB.out).mono BB.out.size)
      clear hke htk hale BB RN RV2 B2 HSUM
      obtain ⟨su, hsu⟩ : ∃ su, sumU xs 16 = su := ⟨_, rfl⟩
      have HSU := Lib.hid hsu
      rw [hsu] at hsl
      rw [hsu]
      clear hsu
      generalize wr = w3 at *
      go_wp2
      go_loopw [8, 13] (fun v i wr => ∃ j : Nat, j ≤ 16 ∧ i = .int .i64 (j : Int) ∧ v = .int .i64 (sumU xs j : Nat) ∧ Hid (Below w3.heap.size w3 wr)) (fun _ i _ => 16 - (intOf i).toNat)
      case atStart => exact ⟨0, Nat.zero_le _, rfl, rfl, Lib.hid (Below.refl _ _)⟩
      case round =>
        obtain ⟨j, hj, rfl, rfl, BB⟩ := hrel
        by_cases hlt2 : j < 16
        · have i3 : (j : Int) < 16 := by omega
          have hs1 := sumU_le xs j
          have hs2 := usedO_le xs (j : Int)
          have HSN := Lib.hid (sumU_succ xs j)
          have CUj := Lib.hid (fun w hr => CU.out j w HX6.out hr)
          obtain ⟨sj, hsj⟩ : ∃ sj, sumU xs j = sj := ⟨_, rfl⟩
          obtain ⟨uj, huj⟩ : ∃ uj, usedO xs (j : Int) = uj := ⟨_, rfl⟩
          rw [hsj] at hs1 HSN
          rw [huj] at hs2 HSN CUj
          rw [hsj]
          have w1' : IntKind.i64.wrap ((sj : Int) + (uj : Int)) = (sj : Int) + (uj : Int) := IntWalk.i64_in _ (by omega)
          clear hsj huj
          go_wp2_with fail
          refine (CUj.out _ ((RV3.out.below BB.out).mono BB.out.size)).mono ?_
          rintro e w5 ⟨rfl, hb5⟩
          have BB5 := Lib.hid (BB.out.trans (hb5.mono BB.out.size))
          clear hb5 BB CUj
          go_wp2
          go_roundw
          case rel => exact ⟨j + 1, by omega, by go_num, by rw [HSN.out]; go_num, BB5⟩
          case measure => simp [intOf]; omega
        · obtain rfl : j = 16 := by omega
          rw [HSU.out, show ((16 : Nat) : Int) = 16 from rfl]
          have B4 := Lib.hid (B3.out.trans (BB.out.mono B3.out.size))
          have RV4 := Lib.hid ((RV3.out.below BB.out).mono BB.out.size)
          clear BB B3 RV3 HSU
          go_wp2_with fail
          refine (CS.out _ HX6.out RV4.out).mono ?_
          rintro e w5 ⟨⟨r, rfl, hsnd⟩, hb5⟩
          have B5 := Lib.hid (B4.out.trans (hb5.mono B4.out.size))
          have RV5 := Lib.hid ((RV4.out.below hb5).mono hb5.size)
          have HSD := Lib.hid hsnd
          clear hb5 hsnd B4 RV4 CS
          by_cases hr1 : r = 1
          · subst hr1
            obtain ⟨m, hv, hsd⟩ := HSD.out rfl
            have HV := Lib.hid hv
            have HSN := Lib.hid hsd
            clear HSD hv hsd
            go_wp2_with fail
            refine (CN.out _ HX6.out RV5.out).mono ?_
            rintro e w6 ⟨⟨v6, rfl, hn6⟩, hb6⟩
            have B6 := Lib.hid (B5.out.trans (hb6.mono B5.out.size))
            have RV6 := Lib.hid ((RV5.out.below hb6).mono hb6.size)
            have NN6 := Lib.hid hn6
            clear hn6 hb6 B5 RV5 CN
            by_cases hcode : (newO xs 1 (a : Int)).2.2 = 0
            · obtain ⟨n, hno, h1, h2, h3, hu⟩ := used_new HV.out a16 hcode
              have HUW := Lib.hid (fun h0 => used_write HV.out HSN.out a16 h1 h2 h3 p70 h0)
              rw [hno] at NN6
              rw [hno]
              have hwl : (putV xs n (newL 1 a)).length = xs.length := putV_length _ _ _
              have HU := Lib.hid hu
              clear hcode hno h1 h2 h3 hu
              dsimp only at *
              generalize putV xs n (newL 1 a) = W at *
              have HWL := Lib.hid hwl
              clear hwl
              obtain ⟨A6, c6, rfl, hr6⟩ := NN6.out.read
              have R6 := Lib.hid hr6
              clear hr6 NN6
              rw [HWL.out]
              have CW := Lib.hid (fun w hr => by have := write_any A6 c6 W (n : Int) (q : Int) ⟨#[120]⟩ w (by rw [HWL.out]; exact HX6.out) (by omega) (by decide) hr; rwa [HWL.out] at this)
              have CUW := Lib.hid (fun w hr => by have := used_quo A6 c6 W (a : Int) w (by rw [HWL.out]; exact HX6.out) hr; rwa [HWL.out, HU.out] at this)
              have CUV := Lib.hid (fun w hr => CU.out a w HX6.out hr)
              rw [HQ.out] at HUW
              rw [show (⟨#[120]⟩ : ByteArray).data.toList = [120] from rfl] at CW
              generalize hwo : writeO W (n : Int) (q : Int) [120] = xo at *
              clear hwo
              obtain ⟨X, cx⟩ := xo
              dsimp only at *
              have hul := usedO_le xs (a : Int)
              obtain ⟨u, hu⟩ : ∃ u, usedO xs (a : Int) = u := ⟨_, rfl⟩
              rw [HU.out] at HUW
              rw [hu] at CUW CUV HUW hul
              clear HU hu
              go_wp2_with fail
              refine (CW.out _ R6.out).mono ?_
              rintro e w7 ⟨⟨v7, rfl, hn7⟩, hb7⟩
              have B7 := Lib.hid (B6.out.trans (hb7.mono B6.out.size))
              have RV7 := Lib.hid ((RV6.out.below hb7).mono hb7.size)
              have RW7 := Lib.hid ((R6.out.below hb7).mono hb7.size)
              obtain ⟨A7, c7, rfl, hr7⟩ := hn7.read
              have RX7 := Lib.hid hr7
              clear hn7 hr7 hb7 B6 RV6 R6 CW
              by_cases hcx : cx = 0
              · subst hcx
                obtain ⟨hxl, hux⟩ := HUW.out rfl
                have HXL : Hid (X.length = xs.length) := hxl.trans HWL.out
                rw [HXL.out]
                have CUX := Lib.hid (fun w hr => by have := used_quo A7 c7 X (a : Int) w (by rw [HXL.out]; exact HX6.out) hr; rwa [HXL.out, hux] at this)
                clear hxl hux HUW
                obtain ⟨mo, hmo⟩ : ∃ mo : Nat, (if 6 ≤ p then 2 else 1) = mo := ⟨_, rfl⟩
                have hmc : ((6 : Int) ≤ (p : Int) ∧ mo = 2) ∨ (¬ (6 : Int) ≤ (p : Int) ∧ mo = 1) := by
                  by_cases h6 : 6 ≤ p
                  · rw [if_pos h6] at hmo; exact .inl ⟨by omega, hmo.symm⟩
                  · rw [if_neg h6] at hmo; exact .inr ⟨by omega, hmo.symm⟩
                rw [hmo] at CUX
                clear hmo
                rcases hmc with ⟨h6, rfl⟩ | ⟨h6, rfl⟩
                all_goals
                  go_wp2_with fail
                  refine (CUW.out _ RW7.out).mono ?_
                  rintro e w8 ⟨rfl, hb8⟩
                  have B8 := Lib.hid (B7.out.trans (hb8.mono B7.out.size))
                  have RV8 := Lib.hid ((RV7.out.below hb8).mono hb8.size)
                  have RW8 := Lib.hid ((RW7.out.below hb8).mono hb8.size)
                  have RX8 := Lib.hid ((RX7.out.below hb8).mono hb8.size)
                  clear hb8
                  go_wp2_with fail
                  refine (CUV.out _ RV8.out).mono ?_
                  rintro e w9 ⟨rfl, hb9⟩
                  have B9 := Lib.hid (B8.out.trans (hb9.mono B8.out.size))
                  have RW9 := Lib.hid ((RW8.out.below hb9).mono hb9.size)
                  have RX9 := Lib.hid ((RX8.out.below hb9).mono hb9.size)
                  clear hb9
                  go_wp2_with fail
                  refine (CUX.out _ RX9.out).mono ?_
                  rintro e w10 ⟨rfl, hb10⟩
                  have B10 := Lib.hid (B9.out.trans (hb10.mono B9.out.size))
                  have RW10 := Lib.hid ((RW9.out.below hb10).mono hb10.size)
                  clear hb10
                  go_wp2_with fail
                  refine (CUW.out _ RW10.out).mono ?_
                  rintro e w11 ⟨rfl, hb11⟩
                  have B11 := Lib.hid (B10.out.trans (hb11.mono B10.out.size))
                  clear hb11
                  go_wp2
                  go_ret
                  exact ⟨by simp, B11.out⟩
              · have hc1 : (cx != 0) = true := by simpa using hcx
                clear HUW
                go_wp2
                go_ret
                exact ⟨rfl, B7.out⟩
            · generalize newO xs 1 (a : Int) = no at *
              obtain ⟨W, n, code⟩ := no
              dsimp only at *
              have hc1 : (code != 0) = true := by simpa using hcode
              have hc2 : ¬ code = 0 := hcode
              go_wp2
              go_ret
              exact ⟨rfl, B6.out⟩
          · have hr2 : (r != 1) = true := by simpa using hr1
            clear HSD
            go_wp2
            go_ret
            exact ⟨rfl, B5.out⟩
end Go.Proofs.Ytjmafegckfijbaa
