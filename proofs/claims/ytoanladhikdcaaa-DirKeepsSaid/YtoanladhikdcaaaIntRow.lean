/-
  A row of numbers of one's own, told cell by cell: with room or without; and rows that are not that block.
-/
import Derived.Test.YtoanladhikdcaaaInfra
import Derived.ArgAppend
namespace Go.Proofs.Ytoanladhikdcaaa
open Go.RowKit
set_option linter.unusedVariables false
set_option linter.unusedSimpArgs false
structure IRow (w : World) (g cap : Nat) (l : List Int) : Prop where
  lt : g < w.heap.size
  le : l.length ≤ cap
  max : cap ≤ maxLen
  there : ∀ j, j < cap → (w.cell? ⟨g, j, none⟩).isSome = true ∧ w.frozen? ⟨g, j, none⟩ = false
  cell : ∀ j u, l[j]? = some u → w.cell? ⟨g, j, none⟩ = some (.int .i64 u)
theorem IRow.kept {w w' : World} {g cap : Nat} {l : List Int} (h : IRow w g cap l) (hz : w.heap.size ≤ w'.heap.size) (hb : w'.heap[g]? = w.heap[g]?) : IRow w' g cap l :=
  ⟨Nat.lt_of_lt_of_le h.lt hz, h.le, h.max, fun j hj => by rw [World.cell?_of_block (a := ⟨g, j, none⟩) hb, World.frozen?_of_block (a := ⟨g, j, none⟩) hb]; exact h.there j hj, fun j u hu => (World.cell?_of_block (a := ⟨g, j, none⟩) hb).trans (h.cell j u hu)⟩
theorem IRow.below {w w' : World} {B g cap : Nat} {l : List Int} (h : IRow w g cap l) (hb : Below B w w') (hg : g < B) : IRow w' g cap l := h.kept hb.size (hb.block g hg)
theorem IRow.new (w : World) (e : TypeId) (l : List Int) (hl : l.length ≤ maxLen) : IRow (w.alloc (.cells (l.map (Value.int .i64)).toArray e)) w.heap.size l.length l := by
  have hb := Blk.new w e (l.map (Value.int .i64)).toArray
  refine ⟨hb.lt, Nat.le_refl _, hl, fun j hj => ⟨?_, hb.frozen j⟩, fun j u hu => hb.cell j (by simp [hu])⟩
  rw [hb.cell j (v := .int .i64 l[j]) (by simp [hj])]
  rfl
theorem IRow.set {w : World} {g cap : Nat} {l : List Int} (h : IRow w g cap l) (hr : l.length + 1 ≤ cap) (b : Int) : IRow (w.setCell ⟨g, l.length, none⟩ (.int .i64 b)) g cap (l ++ [b]) := by
  have h0 := h.there l.length (by omega)
  refine ⟨by simpa using h.lt, by simpa using hr, h.max, fun j hj => ⟨?_, ?_⟩, fun j u hu => ?_⟩
  · by_cases e : j = l.length
    · subst e
      rw [World.cell?_setCell_same' _ _ _ h0.1]; rfl
    · rw [World.cell?_setCell_other (h := fun h => e (by injection h with _ h _; exact h.symm))]
      exact (h.there j hj).1
  · rw [World.frozen?_setCell]; exact (h.there j hj).2
  · by_cases e : j < l.length
    · rw [World.cell?_setCell_other (h := fun h => by injection h with _ h _; omega)]
      rw [List.getElem?_append_left e] at hu
      exact h.cell j u hu
    · have hj2 : j = l.length := by
        have := (List.getElem?_eq_some_iff.1 hu).1
        rw [List.length_append] at this
        have h1 : ([b] : List Int).length = 1 := rfl
        omega
      subst hj2
      rw [World.cell?_setCell_same' _ _ _ h0.1]
      rw [List.getElem?_append_right (Nat.le_refl _)] at hu
      simp at hu
      rw [hu]
/-- a row that is not the block g -/
def RowOff (w : World) (g : Nat) (A : Option Addr) (xs : List Value) : Prop := xs = [] ∨ ∃ b o, A = some ⟨b, o, none⟩ ∧ b < w.heap.size ∧ b ≠ g ∧ ∀ i v, xs[i]? = some v → w.cell? ⟨b, o + i, none⟩ = some v
theorem RowOff.below {w w' : World} {g : Nat} {A : Option Addr} {xs : List Value} (h : RowOff w g A xs) (hb : Below w.heap.size w w') : RowOff w' g A xs := by
  rcases h with h | ⟨b, o, hA, hl, hg, hc⟩
  · exact .inl h
  · exact .inr ⟨b, o, hA, Nat.lt_of_lt_of_le hl hb.size, hg, fun i v hv => (hb.cell (p := ⟨b, o + i, none⟩) hl).trans (hc i v hv)⟩
theorem RowOff.push {w w' : World} {g g' : Nat} {A : Option Addr} {xs : List Value} (h : RowOff w g A xs) (hg' : g' = g ∨ w.heap.size ≤ g') (hb : w.grownBy w' (some g)) : RowOff w' g' A xs := by
  rcases h with h | ⟨b, o, hA, hl, hg, hc⟩
  · exact .inl h
  · refine .inr ⟨b, o, hA, Nat.lt_of_lt_of_le hl hb.size, ?_, fun i v hv => (World.cell?_of_block (a := ⟨b, o + i, none⟩) (hb.block b hl (by simpa using hg))).trans (hc i v hv)⟩
    rcases hg' with e | e
    · rw [e]; exact hg
    · omega
theorem RowOff.of_low {w : World} {B g : Nat} {A : Option Addr} {xs : List Value} (h : RowAt w B A xs) (hB : B ≤ w.heap.size) (hg : B ≤ g) : RowOff w g A xs := by
  rcases Nat.eq_zero_or_pos xs.length with h0 | h0
  · exact .inl (List.eq_nil_of_length_eq_zero h0)
  · obtain ⟨b, o, hA, hl, hc⟩ := h.at_ h0
    exact .inr ⟨b, o, hA, by omega, by omega, hc⟩
theorem RowOff.of_own {w : World} {base g : Nat} {e : TypeId} {A : Option Addr} {n c : Nat} {xs : List Value} (h : w.ownsRow base e 1 (.slice A n c) n xs) (hg : g < base) : RowOff w g A xs := by
  rcases Nat.eq_zero_or_pos xs.length with h0 | h0
  · exact .inl (List.eq_nil_of_length_eq_zero h0)
  · obtain ⟨b, o, hA, hl, hc⟩ := (RowAt.of_own h).at_ h0
    refine .inr ⟨b, o, hA, hl, ?_, hc⟩
    have := own_row h b (by rw [hA]; rfl)
    omega
theorem RowOff.at_ {w : World} {g : Nat} {A : Option Addr} {xs : List Value} (h : RowOff w g A xs) (hn : 0 < xs.length) : ∃ b o, A = some ⟨b, o, none⟩ ∧ ∀ i v, xs[i]? = some v → w.cell? ⟨b, o + i, none⟩ = some v := by
  rcases h with h | ⟨b, o, hA, _, _, hc⟩
  · rw [h] at hn; cases hn
  · exact ⟨b, o, hA, hc⟩
theorem RowOff.of_irow {w : World} {g g' cap : Nat} {l : List Int} (h : IRow w g' cap l) (hne : g' ≠ g) : RowOff w g (some ⟨g', 0, none⟩) (l.map (Value.int .i64)) := by
  refine .inr ⟨g', 0, rfl, h.lt, hne, fun i v hv => ?_⟩
  rw [List.getElem?_map] at hv
  obtain ⟨u, hu, rfl⟩ := Option.map_eq_some_iff.1 hv
  rw [Nat.zero_add]
  exact h.cell i u hu
theorem below_push {B g : Nat} {a w w' : World} (h : Below B a w) (hb : w.grownBy w' (some g)) (hB : B ≤ w.heap.size) (hg : B ≤ g) : Below B a w' :=
  h.grown hb hB (fun k e => by cases e; exact hg)
section
variable {P : Program}
/-- x = append(x, b), for the walk -/
theorem wpList_ints_push (w : World) {ops : Array Oper} {rest : List Oper} {o : Oper} {a : Act} {Q : Exit → Act → World → Prop}
    (hg : o.guard = none) (s x : Operand) (t : TypeId) (hop : o.op = Op.call { callee := Callee.builtin Builtin.append, args := #[s, x], argTypes := #[t, t] })
    (e : TypeId) (i : TypeInfo) (h1 : P.underlying t = some (.slice e)) (h2 : P.info? e = some i) (h3 : i.zero = some (.int .i64 0)) (h4 : i.size = 1) (h5 : i.bytes = 8)
    (g cap : Nat) (l : List Int) (hs : a.eval s = .slice (some ⟨g, 0, none⟩) l.length cap) (R : IRow w g cap l)
    (ad : Addr) (c : Nat) (b : Int) (hx : a.eval x = .slice (some ad) 1 c) (hc : w.cell? ad = some (.int .i64 b)) (hl : l.length + 1 ≤ 1000000)
    (hK : ∀ g' cap' w', IRow w' g' cap' (l ++ [b]) → (g' = g ∨ w.heap.size ≤ g') → w.grownBy w' (some g) → wpList P ops Q rest (a.put o.dst (.slice (some ⟨g', 0, none⟩) (l.length + 1) cap')) w') :
    wpList P ops Q (o :: rest) a w := by
  have hle := R.le
  refine wpList_append_arg w hg s x t hop e i (.int .i64 0) 1 8 h1 h2 h3 h4 h5 rfl (by decide) g 0 l.length cap (l.map fun y => Value.int .i64 y) hs (by simp) (fun j u hj => ?_) ad 1 c [.int .i64 b] hx rfl (fun j u hj => ?_) (fun u hu => ?_) (fun hr j hj => ?_) (by unfold maxLen; omega) (by omega) (fun hr => ?_) (fun hr v' w' r1 r2 => ?_)
  · rw [List.getElem?_map] at hj
    obtain ⟨y, hy, rfl⟩ := Option.map_eq_some_iff.1 hj
    rw [Nat.zero_add]
    exact R.cell j y hy
  · cases j with
    | zero =>
      obtain rfl : Value.int .i64 b = u := by simpa using hj
      have : ad.add 0 = ad := by cases ad; rfl
      rw [this]; exact hc
    | succ j => simp at hj
  · obtain rfl := List.mem_singleton.1 hu
    rfl
  · have hj0 : j = 0 := by
      have : j < 1 := hj
      omega
    subst hj0
    rw [Nat.zero_add, Nat.mul_one, Nat.add_zero]
    exact R.there l.length (by omega)
  · rw [Nat.zero_add, Nat.mul_one]
    refine hK g cap _ (R.set (by omega) b) (.inl rfl) ?_
    exact only_setCell ⟨rfl, rfl, rfl, Nat.le_refl _, fun _ _ _ => rfl⟩ _ _
  · obtain ⟨q1, q2⟩ := r1
    rcases q2 with ⟨_, hn⟩ | ⟨g', cap', cur, rfl, hb, hh, hle', hm, hsz, ht⟩
    · omega
    · rw [Nat.mul_one] at hsz ht
      refine hK g' cap' w' ⟨?_, by simpa using hle', hm, fun j hj => ⟨?_, ?_⟩, fun j u hu => ?_⟩ (.inr hb) ⟨r2.os, r2.tape, r2.output, r2.size, fun k hk hne => ?_⟩
      · rcases Nat.lt_or_ge g' w'.heap.size with hlt | hge
        · exact hlt
        · rw [Array.getElem?_eq_none hge] at hh; cases hh
      · simp [World.cell?, hh, hsz, hj]
      · simp [World.frozen?, hh]
      · have e0 : ((l.map fun y => Value.int .i64 y) ++ [Value.int .i64 b]) = (l ++ [b]).map fun y => Value.int .i64 y := by simp
        rw [e0] at ht
        have h3 : (cur.toList.take (l.length + 1))[j]? = some (.int .i64 u) := by rw [ht, List.getElem?_map, hu]; rfl
        have hj : j < l.length + 1 := by
          have := (List.getElem?_eq_some_iff.1 hu).1
          simpa using this
        rw [List.getElem?_take, if_pos hj, Array.getElem?_toList] at h3
        simp only [World.cell?, hh]
        exact h3
      · exact r2.block k hk (fun h => by cases h)
end
end Go.Proofs.Ytoanladhikdcaaa
