/-
  Slices that a call makes for itself, as blocks that are known whole: make, copy, a row of bytes as a string.
-/
import Derived.Test.YtcjakmnplkeldaaDoorRowOps
import Derived.Lib.LazyBuf
import Derived.OwnWalk
import Derived.Laws.CopyRow
import Derived.Lib.ConvBytes
namespace Go.Proofs.YtcjakmnplkeldaaDoor
open Go.RowKit
set_option linter.unusedVariables false
set_option linter.unusedSimpArgs false

theorem own_blk {w : World} {base : Nat} {e : TypeId} {g n : Nat} {xs : List Value} (h : w.ownsRow base e 1 (.slice (some ⟨g, 0, none⟩) n n) n xs) : Blk w g e xs.toArray := by
  obtain ⟨h1, h2⟩ := h
  rcases h2 with ⟨hv, _⟩ | ⟨g', cap, cur, hv, _, hh, _, _, hs, ht⟩
  · cases hv
  · cases hv
    unfold Blk
    rw [hh]
    have : cur.toList.length = n := by simpa using hs
    rw [List.take_of_length_le (by omega)] at ht
    rw [← ht]
/-- a copy that is known whole reads as a row -/
theorem Blk.row {w : World} {g : Nat} {t : TypeId} {xs : List Value} (h : Blk w g t xs.toArray) : RowAt w w.heap.size (some ⟨g, 0, none⟩) xs :=
  .inr ⟨g, 0, rfl, h.lt, fun j u hu => by rw [Nat.zero_add]; exact h.cell j (by simpa using hu)⟩
section
variable {P : Program} {ops : Array Oper} {rest : List Oper} {o : Oper} {a : Act} {w : World} {Q : Exit → Act → World → Prop}
/-- make([]T, n): a block of n zeros -/
theorem make_blk (t : TypeId) (l c : Operand) (e : TypeId) (i : TypeInfo) (z : Value) (L C : Int) (n : Nat) (hgd : o.guard = none) (hop : o.op = .makeSlice t l c) (h1 : P.underlying t = some (.slice e)) (h2 : P.info? e = some i) (h3 : i.zero = some z) (h4 : i.size = 1) (hz : z.cells = #[z])
    (hl : a.eval l = .int .i64 L) (hc : a.eval c = .int .i64 C) (hL : L = (n : Int)) (hC : C = (n : Int)) (hb : i.bytes * n ≤ 281474976710656) (hm : n ≤ maxLen)
    (h : ∀ w', Blk w' w.heap.size e (Array.replicate n z) → w.grownBy w' none → wpList P ops Q rest (a.put o.dst (.slice (some ⟨w.heap.size, 0, none⟩) n n)) w') : wpList P ops Q (o :: rest) a w := by
  refine wpList_make_full w hgd l c t hop 0 e i z 1 h1 h2 h3 h4 .i64 .i64 L C n hl hc hL hC hb hm (Nat.zero_le _) fun w' own hg => h w' ?_ hg
  have := own_blk own
  have e : (madeCells z.cells (n * 1)).toList.toArray = Array.replicate n z := by
    rw [hz, Array.toArray_toList]
    apply Array.ext
    · simp [size_madeCells]
    · intro k h1 h2
      simp [madeCells, Nat.mod_one]
  rwa [e] at this
/-- copy(dst, s) of a string that fills dst -/
theorem copy_str_blk (d s : Operand) (dT sT e : TypeId) (g n c : Nat) (t : TypeId) (cs : Array Value) (st : ByteArray) (hgd : o.guard = none) (ho : o.op = .call { callee := .builtin .copy, args := #[d, s], argTypes := #[dT, sT] })
    (hu : P.underlying dT = some (.slice e)) (hz : ∀ w, (sizeOf e).run P w = .ok 1 w) (hd : a.eval d = .slice (some ⟨g, 0, none⟩) n c) (hs : a.eval s = .string st) (hg : Blk w g t cs) (hn : cs.size = n) (hst : st.size = n)
    (h : ∀ w', Blk w' g t (st.data.toList.map fun x => Value.int .u8 (x.toNat : Int)).toArray → w.grownBy w' (some g) → wpList P ops Q rest (a.put o.dst (goInt st.size)) w') : wpList P ops Q (o :: rest) a w := by
  have hrun := Go.run_copy_string (P := P) w dT sT o.type e g 0 n c st hu hz (by omega) (fun j hj => by rw [Nat.zero_add, hg.cell j (Array.getElem?_eq_getElem (by omega))]; rfl) (fun j _ => by rw [Nat.zero_add]; exact hg.frozen j)
  refine wpList_plain hgd fun K hK => ?_
  unfold Oper.wp
  simp only [execOp, ho, resolve, invoke, builtin, hd, hs]
  simp [hd, hs, hrun, Result.andThen]
  refine hK _ _ (h _ ?_ (only_setCells _ _ _ (World.grownBy.refl w _)))
  have hb := blk_setCells (st.data.toList.map fun x => Value.int .u8 (x.toNat : Int)) 0 w cs hg
  rwa [setL_all _ _ (by rw [List.length_map, Array.length_toList, hn, ← hst]; rfl)] at hb
/-- copy(dst, src) of a row that fills dst -/
theorem copy_row_blk (d s : Operand) (dT sT e : TypeId) (g n c : Nat) (t : TypeId) (cs : Array Value) (B : Nat) (A : Option Addr) (m : Nat) (vs : List Value) (hgd : o.guard = none) (ho : o.op = .call { callee := .builtin .copy, args := #[d, s], argTypes := #[dT, sT] })
    (hu : P.underlying dT = some (.slice e)) (hz : (P.info? e).map (·.size) = some 1) (hd : a.eval d = .slice (some ⟨g, 0, none⟩) n c) (hs : a.eval s = .slice A n m) (hg : Blk w g t cs) (hn : cs.size = n) (hv : vs.length = n) (hpos : 0 < n) (hr : RowAt w B A vs) (h1 : ∀ v ∈ vs, v.oneCell' = true)
    (h : ∀ w', Blk w' g t vs.toArray → w.grownBy w' (some g) → wpList P ops Q rest (a.put o.dst (goInt n)) w') : wpList P ops Q (o :: rest) a w := by
  subst hv
  obtain ⟨b, off, rfl, hb, hc⟩ := hr.at_ hpos
  have hrun := run_copy_row (P := P) w dT sT o.type e g 0 vs.length c ⟨b, off, none⟩ vs.length m cs t vs hu hz hg (Nat.min_self _).symm (fun j v hj => by
    have : (⟨b, off, none⟩ : Addr).add j = ⟨b, off + j, none⟩ := by unfold Addr.add; split <;> simp_all
    rw [this]; exact hc j v hj) (by omega) h1
  refine wpList_plain hgd fun K hK => ?_
  unfold Oper.wp
  simp only [execOp, ho, resolve, invoke, builtin, hd, hs]
  simp [hd, hs, hrun, Result.andThen]
  refine hK _ _ (h _ ?_ ?_)
  · have := setRow_heap w g cs (cs.toList.take 0 ++ vs ++ cs.toList.drop (0 + vs.length)).toArray t (0, 0) hg
    unfold Blk
    rw [show vs.toArray = (cs.toList.take 0 ++ vs ++ cs.toList.drop (0 + vs.length)).toArray by
      rw [List.drop_of_length_le (by simp; omega)]; simp]
    simpa using this
  · exact ⟨rfl, rfl, rfl, by simp [World.setRow], fun k hk hne => setRow_other w g k _ (by rintro rfl; exact hne rfl)⟩
end
/-- a string as a row of bytes -/
theorem bytes_of_str {P : Program} {ops : Array Oper} {rest : List Oper} {o : Oper} {a : Act} {w : World} {Q : Exit → Act → World → Prop} (src dst : TypeId) (x : Operand) (e : TypeId) (s : ByteArray) {u : TypeDesc} (hgd : o.guard = none) (ho : o.op = .convert src dst x) (hx : a.eval x = .string s)
    (hs : P.underlying src = some u) (hd : P.underlying dst = some (.slice e)) (he : P.underlying e = some (.int .u8))
    (h : ∀ w' c, (∀ j, j < s.size → w'.cell? ⟨w.heap.size, j, none⟩ = some (.int .u8 ((s.data.toList.getD j 0).toNat : Int))) → Below w.heap.size w w' → wpList P ops Q rest (a.put o.dst (.slice (some ⟨w.heap.size, 0, none⟩) s.size c)) w') : wpList P ops Q (o :: rest) a w := by
  have hrun := Lib.run_convert_string_bytes (P := P) w src dst e s hs hd he
  refine wpList_plain hgd fun K hK => ?_
  unfold Oper.wp
  simp only [execOp, ho, hx]
  simp [hrun, Result.andThen]
  exact hK _ _ (h _ _ (fun j hj => Lib.bytesWorld_cell w e s j hj) ⟨rfl, rfl, rfl, by rw [Lib.bytesWorld_size]; omega, fun k hk => Lib.bytesWorld_at_old w e s k hk⟩)
/-- a row of bytes as a string -/
theorem conv_blk {P : Program} {w : World} {g : Nat} {t src e dst : TypeId} {st : ByteArray} (n : Nat) (hg : Blk w g t (st.data.toList.map fun x => Value.int .u8 (x.toNat : Int)).toArray) (hn : st.size = n) (c : Nat) (hs : P.underlying src = some (.slice e)) (he : P.underlying e = some (.int .u8)) (hd : P.underlying dst = some .string) :
    (convert src dst (.slice (some ⟨g, 0, none⟩) n c)).run P w = .ok (.string st) w := by
  have hl : st.data.toList.length = n := by rw [Array.length_toList]; exact hn
  have := run_convert_bytes_arg (P := P) w src e hs he g 0 n c (st.data.toList.map fun x => (x.toNat : Int)) (by simpa using hl) (fun i hi => by
    rw [Nat.zero_add]
    refine hg.cell i ?_
    have : i < st.data.toList.length := by omega
    simp only [List.getElem?_toArray, List.getElem?_map, List.getElem?_eq_getElem this, Option.map_some, List.getD, Option.getD_some]) dst hd
  rw [this]
  congr 2
  unfold strOfNums
  apply WideShapes.bytes_inj
  rw [List.map_map, List.toList_toArray]
  have e : ((fun n : Int => UInt8.ofNat n.toNat) ∘ fun x : UInt8 => (x.toNat : Int)) = id := by funext x; simp
  rw [e, List.map_id]
end Go.Proofs.YtcjakmnplkeldaaDoor
