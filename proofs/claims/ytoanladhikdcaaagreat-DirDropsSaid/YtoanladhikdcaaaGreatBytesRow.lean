/-
  A row of bytes of one's own, whatever mark it bears: what []byte(s) makes, append and copy turn, string(b) reads.
-/
import Derived.Test.YtoanladhikdcaaaGreatInfra
import Derived.ArgAppend
import Derived.Laws.IdiomStrings
import Derived.Lib.LazyBuf
import Derived.Lib.ConvBytes
namespace Go.Proofs.YtoanladhikdcaaaGreat
open Go.RowKit
set_option linter.unusedVariables false
set_option linter.unusedSimpArgs false
structure BytesRow (w : World) (B g cap : Nat) (l : List UInt8) : Prop where
  base : B ≤ g
  lt : g < w.heap.size
  le : l.length ≤ cap
  max : cap ≤ maxLen
  there : ∀ j, j < cap → (w.cell? ⟨g, j, none⟩).isSome = true ∧ w.frozen? ⟨g, j, none⟩ = false
  cell : ∀ j u, l[j]? = some u → w.cell? ⟨g, j, none⟩ = some (.int .u8 (u.toNat : Int))
theorem BytesRow.below {w w' : World} {B g cap : Nat} {l : List UInt8} (h : BytesRow w B g cap l) (hb : Below w.heap.size w w') : BytesRow w' B g cap l :=
  ⟨h.base, Nat.lt_of_lt_of_le h.lt hb.size, h.le, h.max, fun j hj => by rw [hb.cell (p := ⟨g, j, none⟩) h.lt, hb.frozen (p := ⟨g, j, none⟩) h.lt]; exact h.there j hj, fun j u hu => (hb.cell (p := ⟨g, j, none⟩) h.lt).trans (h.cell j u hu)⟩
theorem BytesRow.mono {w : World} {B B' g cap : Nat} {l : List UInt8} (h : BytesRow w B g cap l) (hB : B' ≤ B) : BytesRow w B' g cap l :=
  ⟨Nat.le_trans hB h.base, h.lt, h.le, h.max, h.there, h.cell⟩
section
variable {P : Program}
/-- what []byte(s) lays -/
theorem BytesRow.of_convert (w : World) (src dst e : TypeId) (s : ByteArray) (hs : P.underlying src = some .string) (hd : P.underlying dst = some (.slice e)) (he : P.underlying e = some (.int .u8)) (hz : s.size ≤ maxLen) :
    ∃ cap w', (convert src dst (.string s)).run P w = .ok (.slice (some ⟨w.heap.size, 0, none⟩) s.size cap) w' ∧ BytesRow w' w.heap.size w.heap.size cap s.data.toList ∧ Below w.heap.size w w' ∧ w'.heap.size = w.heap.size + 1 := by
  have hr := Lib.run_convert_string_bytes (P := P) w src dst e s hs hd he
  have hge := grownCap_ge w s.size 0 e
  have hmx := grownCap_le_maxLen w s.size 0 e hz
  have hsz := Lib.bytesWorld_size w e s
  have hnew := Lib.bytesWorld_at_new w e s
  have hcs : (Lib.bytesCells w e s).size = grownCap w s.size 0 e := by
    unfold Lib.bytesCells
    rw [Array.size_append, Array.size_map, Array.size_replicate]
    show s.size + _ = _
    omega
  generalize grownCap w s.size 0 e = cap at *
  refine ⟨cap, _, hr, ⟨Nat.le_refl _, by omega, ?_, hmx, fun j hj => ⟨?_, ?_⟩, fun j u hu => ?_⟩, ⟨?_, ?_, ?_, by omega, fun k hk => Lib.bytesWorld_at_old w e s k hk⟩, hsz⟩
  · rw [Array.length_toList]; exact hge
  · simp [World.cell?, hnew, hcs, hj]
  · have hj2 : ¬ (cap ≤ j) := by omega
    simp [World.frozen?, hnew, hcs, hj2]
  · have hj : j < s.size := by
      have := (List.getElem?_eq_some_iff.1 hu).1
      rw [Array.length_toList] at this; exact this
    rw [Lib.bytesWorld_cell w e s j hj, List.getD_eq_getElem?_getD, hu]; rfl
  · rfl
  · rfl
  · rfl
/-- string(b) -/
theorem BytesRow.back {w : World} {B g cap : Nat} {l : List UInt8} (h : BytesRow w B g cap l) (src dst e : TypeId) (hs : P.underlying src = some (.slice e)) (he : P.underlying e = some (.int .u8)) (hd : P.underlying dst = some .string) :
    (convert src dst (.slice (some ⟨g, 0, none⟩) l.length cap)).run P w = .ok (.string ⟨l.toArray⟩) w :=
  run_convert_bytes_back w src dst e ⟨g, 0, none⟩ cap l hs he hd (fun j hj => by
    rw [Addr.add_lit, Nat.zero_add]
    exact h.cell j _ (List.getElem?_eq_getElem hj))
theorem below_set {B b : Nat} (hb : B ≤ b) : ∀ (vs : List Value) (o : Nat) {a w : World}, Below B a w → Below B a (w.setCells b o vs)
  | [], _, _, _, h => h
  | v :: r, o, _, w, h => below_set hb r (o + 1) (h.setCell (by exact hb) v)
theorem size_set (b : Nat) : ∀ (vs : List Value) (o : Nat) (w : World), (w.setCells b o vs).heap.size = w.heap.size
  | [], _, _ => rfl
  | v :: r, o, w => (size_set b r (o + 1) _).trans (by simp)
/-- cells of the row set anew -/
theorem BytesRow.set {w : World} {B g cap : Nat} {l l' : List UInt8} (h : BytesRow w B g cap l) (o : Nat) (t : List UInt8) (ho : o + t.length ≤ cap) (hl : l'.length ≤ cap)
    (hc : ∀ j u, l'[j]? = some u → if o ≤ j ∧ j < o + t.length then t[j - o]? = some u else l[j]? = some u) : BytesRow (w.setCells g o (t.map fun x => Value.int .u8 (x.toNat : Int))) B g cap l' := by
  have hlen : (t.map fun x => Value.int .u8 (x.toNat : Int)).length = t.length := List.length_map _
  refine ⟨h.base, by rw [size_set]; exact h.lt, hl, h.max, fun j hj => ⟨World.isSome_setCells g _ o w _ (h.there j hj).1, ?_⟩, fun j u hu => ?_⟩
  · rw [World.frozen?_setCells]; exact (h.there j hj).2
  · have := hc j u hu
    by_cases hin : o ≤ j ∧ j < o + t.length
    · rw [if_pos hin] at this
      have hj : j - o < (t.map fun x => Value.int .u8 (x.toNat : Int)).length := by rw [hlen]; omega
      have hi := World.cell?_setCells_in g (t.map fun x => Value.int .u8 (x.toNat : Int)) o w (fun k hk => (h.there (o + k) (by rw [hlen] at hk; omega)).1) (j - o) hj
      rw [show o + (j - o) = j by omega] at hi
      rw [hi, List.getElem_map]
      have h2 : t[j - o]'(by omega) = u := by
        rw [List.getElem?_eq_getElem (by omega)] at this
        exact Option.some.inj this
      rw [h2]
    · rw [if_neg hin] at this
      rw [World.cell?_setCells_out g _ o w _ (fun _ _ => by rw [hlen]; show j < o ∨ o + t.length ≤ j; omega)]
      exact h.cell j u this
/-- copy(b[k:], t) -/
theorem BytesRow.copy {w : World} {B g cap : Nat} {l : List UInt8} (h : BytesRow w B g cap l) (dT sT ty e : TypeId) (k : Nat) (t : ByteArray)
    (hu : P.underlying dT = some (.slice e)) (hz : ∀ w, (Go.sizeOf e).run P w = .ok 1 w) (hk : k + t.size ≤ l.length) :
    (Builtin.copy_ #[dT, sT] ty #[.slice (some ⟨g, k, none⟩) (l.length - k) (cap - k), .string t]).run P w = .ok (goInt t.size) (w.setCells g k (t.data.toList.map fun x => Value.int .u8 (x.toNat : Int))) ∧
    BytesRow (w.setCells g k (t.data.toList.map fun x => Value.int .u8 (x.toNat : Int))) B g cap (l.take k ++ t.data.toList ++ l.drop (k + t.size)) := by
  have hts : t.data.toList.length = t.size := by rw [Array.length_toList]; rfl
  have hle := h.le
  refine ⟨run_copy_string (P := P) w dT sT ty e g k (l.length - k) (cap - k) t hu hz (by omega) (fun j hj => (h.there (k + j) (by omega)).1) (fun j hj => (h.there (k + j) (by omega)).2), ?_⟩
  have e1 : (l.take k).length = k := by rw [List.length_take]; omega
  have e2 : (l.take k ++ t.data.toList).length = k + t.size := by rw [List.length_append, e1, hts]
  refine h.set k t.data.toList (by omega) (by rw [List.length_append, e2, List.length_drop]; omega) (fun j u hu => ?_)
  rw [hts]
  by_cases h1 : j < k
  · rw [if_neg (by omega)]
    rw [List.getElem?_append_left (by omega), List.getElem?_append_left (by omega), List.getElem?_take, if_pos h1] at hu
    exact hu
  · by_cases h2 : j < k + t.size
    · rw [if_pos (by omega)]
      rw [List.getElem?_append_left (by omega), List.getElem?_append_right (by omega), e1] at hu
      exact hu
    · rw [if_neg (by omega)]
      rw [List.getElem?_append_right (by omega), e2, List.getElem?_drop, show k + t.size + (j - (k + t.size)) = j by omega] at hu
      exact hu
/-- b = append(b, x), for the walk -/
theorem wpList_bytes_push (w : World) {ops : Array Oper} {rest : List Oper} {o : Oper} {a : Act} {Q : Exit → Act → World → Prop}
    (hg : o.guard = none) (s x : Operand) (t : TypeId) (hop : o.op = Op.call { callee := Callee.builtin Builtin.append, args := #[s, x], argTypes := #[t, t] })
    (e : TypeId) (i : TypeInfo) (h1 : P.underlying t = some (.slice e)) (h2 : P.info? e = some i) (h3 : i.zero = some (.int .u8 0)) (h4 : i.size = 1) (h5 : i.bytes = 1)
    (B g cap : Nat) (l : List UInt8) (hs : a.eval s = .slice (some ⟨g, 0, none⟩) l.length cap) (R : BytesRow w B g cap l)
    (ad : Addr) (c : Nat) (b : UInt8) (hx : a.eval x = .slice (some ad) 1 c) (hc : w.cell? ad = some (.int .u8 (b.toNat : Int))) (hl : l.length + 1 ≤ 140737488355328) (hB : B ≤ w.heap.size)
    (hK : ∀ g' cap' w', BytesRow w' B g' cap' (l ++ [b]) → Below B w w' → wpList P ops Q rest (a.put o.dst (.slice (some ⟨g', 0, none⟩) (l.length + 1) cap')) w') :
    wpList P ops Q (o :: rest) a w := by
  have hle := R.le
  refine wpList_append_arg w hg s x t hop e i (.int .u8 0) 1 1 h1 h2 h3 h4 h5 rfl (by decide) g 0 l.length cap (l.map fun y => Value.int .u8 (y.toNat : Int)) hs (by simp) (fun j u hj => ?_) ad 1 c [.int .u8 (b.toNat : Int)] hx rfl (fun j u hj => ?_) (fun u hu => ?_) (fun hr j hj => ?_) (by unfold maxLen; omega) (by omega) (fun hr => ?_) (fun hr v' w' r1 r2 => ?_)
  · rw [List.getElem?_map] at hj
    obtain ⟨y, hy, rfl⟩ := Option.map_eq_some_iff.1 hj
    rw [Nat.zero_add]
    exact R.cell j y hy
  · cases j with
    | zero =>
      obtain rfl : Value.int .u8 (b.toNat : Int) = u := by simpa using hj
      have : ad.add 0 = ad := by cases ad; rfl
      rw [this]; exact hc
    | succ j => simp at hj
  · obtain rfl := List.mem_singleton.1 hu
    rfl
  · have hj0 : j = 0 := by
      have : j < 1 := hj
      omega
    subst hj0
    rw [Nat.zero_add, Nat.mul_one, Nat.add_zero]
    exact R.there l.length (by omega)
  · rw [Nat.zero_add, Nat.mul_one]
    refine hK g cap _ (R.set l.length [b] (by simpa using hr) (by simpa using hr) (fun j u hu => ?_)) (below_set R.base _ _ (Below.refl B w))
    by_cases hj : j < l.length
    · rw [if_neg (by omega)]
      rw [List.getElem?_append_left hj] at hu; exact hu
    · have hj2 : j = l.length := by
        have := (List.getElem?_eq_some_iff.1 hu).1
        rw [List.length_append] at this
        have h1 : ([b] : List UInt8).length = 1 := rfl
        omega
      subst hj2
      rw [if_pos ⟨Nat.le_refl _, by simp⟩]
      rw [List.getElem?_append_right (Nat.le_refl _)] at hu; exact hu
  · obtain ⟨q1, q2⟩ := r1
    rcases q2 with ⟨_, hn⟩ | ⟨g', cap', cur, rfl, hb, hh, hle', hm, hsz, ht⟩
    · omega
    · rw [Nat.mul_one] at hsz ht
      refine hK g' cap' w' ⟨Nat.le_trans hB hb, ?_, by simpa using hle', hm, fun j hj => ⟨?_, ?_⟩, fun j u hu => ?_⟩ ⟨r2.os, r2.tape, r2.output, r2.size, fun k hk => ?_⟩
      · rcases Nat.lt_or_ge g' w'.heap.size with hlt | hge
        · exact hlt
        · rw [Array.getElem?_eq_none hge] at hh; cases hh
      · simp [World.cell?, hh, hsz, hj]
      · simp [World.frozen?, hh]
      · have e0 : ((l.map fun y => Value.int .u8 (y.toNat : Int)) ++ [Value.int .u8 (b.toNat : Int)]) = (l ++ [b]).map fun y => Value.int .u8 (y.toNat : Int) := by simp
        rw [e0] at ht
        have h3 : (cur.toList.take (l.length + 1))[j]? = some (.int .u8 (u.toNat : Int)) := by rw [ht, List.getElem?_map, hu]; rfl
        have hj : j < l.length + 1 := by
          have := (List.getElem?_eq_some_iff.1 hu).1
          simpa using this
        rw [List.getElem?_take, if_pos hj, Array.getElem?_toList] at h3
        simp only [World.cell?, hh]
        exact h3
      · exact r2.block k (by omega) (fun h => by cases h)
end
end Go.Proofs.YtoanladhikdcaaaGreat
