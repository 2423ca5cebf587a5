/-
  What extent.Read keeps while it goes through a file: a builder's frame; max and min in a region that draws its order.
-/
import Derived.Test.YtoanladhikdcaaaExtBl
import Derived.Test.YtoanladhikdcaaaShelf
import Derived.Lib.OthersKept
namespace Go.Proofs.Ytoanladhikdcaaa
open Go.RowKit Go.Shelf
set_option linter.unusedVariables false
set_option linter.unusedSimpArgs false
set_option maxRecDepth 100000
/-- a builder is none the less one where no cells turn -/
theorem builderAt_grown {B b : Nat} {p : Value} {bs : List Value} {X Y : World} {row : Option Nat} (h : Lib.BuilderAtF 92 5 B b p bs X) (hg : X.grownBy Y row) (hr : ∀ r, row = some r → ∃ o : Obj, X.heap[r]? = some o ∧ o.isCells = false) : Lib.BuilderAtF 92 5 B b p bs Y := by
  obtain ⟨h1, v, h2, h3, h4⟩ := h
  have hlt : b < X.heap.size := by
    rcases Nat.lt_or_ge b X.heap.size with hlt | hge
    · exact hlt
    · rw [Array.getElem?_eq_none hge] at h2; cases h2
  refine ⟨h1, v, (hg.block b hlt ?_).trans h2, h3.kept hg ?_, h4⟩
  · intro e
    obtain ⟨o, ho, hc⟩ := hr b e.symm
    rw [h2] at ho; cases ho; cases hc
  · rcases h3.2 with ⟨rfl, _⟩ | ⟨g, cap, cur, fz, rfl, _, hh, _⟩
    · exact .inl rfl
    · right
      intro e
      obtain ⟨o, ho, hc⟩ := hr g e.symm
      rw [hh] at ho; cases ho; cases hc
theorem builder_grown {B b : Nat} {bs : List Value} {X Y : World} {row : Option Nat} (h : Lib.IsBuilderF 92 5 B b bs X) (hg : X.grownBy Y row) (hr : ∀ r, row = some r → ∃ o : Obj, X.heap[r]? = some o ∧ o.isCells = false) : Lib.IsBuilderF 92 5 B b bs Y :=
  h.elim (fun x => .inl (builderAt_grown x hg hr)) (fun x => .inr (builderAt_grown x hg hr))
theorem builder_below {B b : Nat} {bs : List Value} {X Y : World} (h : Lib.IsBuilderF 92 5 B b bs X) (hb : Below X.heap.size X Y) : Lib.IsBuilderF 92 5 B b bs Y :=
  builder_grown (row := none) h ⟨hb.os, hb.tape, hb.output, hb.size, fun k hk _ => hb.block k hk⟩ (fun r e => by cases e)
theorem builder_blk {B b : Nat} {bs : List Value} {X : World} (h : Lib.IsBuilderF 92 5 B b bs X) : ∃ cs, Blk X b 92 cs := by
  rcases h with ⟨_, v, h2, _⟩ | ⟨_, v, h2, _⟩ <;> exact ⟨_, h2⟩
theorem Blk.others {b g : Nat} {t : TypeId} {cs : Array Value} {X Y : World} (h : Blk X g t cs) (hk : Lib.OthersKept 5 (some b) X Y) (ht : t ≠ 5) (hne : g ≠ b) : Blk Y g t cs :=
  hk g _ h (by intro e; exact hne (Option.some.inj e)) (fun c fz e => by cases e; exact ht rfl)
theorem own_others {b : Nat} {e : TypeId} {base n : Nat} {v : Value} {xs : List Value} {X Y : World} (h : X.ownsRow base e 1 v n xs) (hk : Lib.OthersKept 5 (some b) X Y) (he : e ≠ 5) (hne : v.ownBlock ≠ some b) : Y.ownsRow base e 1 v n xs := by
  obtain ⟨h1, h2⟩ := h
  refine ⟨h1, ?_⟩
  rcases h2 with h2 | ⟨g, cap, cur, rfl, hg, hh, r⟩
  · exact .inl h2
  · exact .inr ⟨g, cap, cur, rfl, hg, hk g _ hh (by intro e'; exact hne e') (fun c fz e' => by cases e'; exact he rfl), r⟩
theorem FileX.others {b B g m n : Nat} {V : List ByteArray} {l : List Nat} {X Y : World} {cs : Array Value} (h : FileX B X g m n V l) (hb : Blk X b 92 cs) (hk : Lib.OthersKept 5 (some b) X Y) : FileX B Y g m n V l := by
  obtain ⟨gv, c, h⟩ := h
  refine ⟨gv, c, h.low, h.blk.others hk (by decide) (h.blk.ne hb (by decide)), own_others h.own hk (by decide) ?_, h.vol, h.fit, h.one, h.top⟩
  intro e
  have e' : gv = b := Option.some.inj e
  obtain ⟨cur, hc⟩ := own_blkT h.own
  exact hc.ne hb (by decide) e'
theorem keeps_others {b : Nat} {X Y : World} {cs : Array Value} (hb : Blk X b 92 cs) (hk : Lib.OthersKept 5 (some b) X Y) (hz : X.heap.size ≤ Y.heap.size) : KeepsOthers X Y :=
  ⟨hz, fun k o ho hc => hk k o ho (by
    intro e
    have e' : k = b := Option.some.inj e
    subst e'
    unfold Blk at hb
    rw [hb] at ho; cases ho; cases hc) (fun c fz e => by subst e; cases hc)⟩
/-- the greater, the lesser of two numbers, in a region that draws its order -/
theorem quiet_max {P : Program} {C : World → Prop} {K : Act → Prop} {o : Oper} {a : Act} (x y : Operand) (t : TypeId) (p q : Int) (ho : o.op = .call { callee := .builtin .max, args := #[x, y], argTypes := #[t, t] }) (hx : a.eval x = .int .i64 p) (hy : a.eval y = .int .i64 q)
    (hk : K (a.put o.dst (.int .i64 (max p q)))) : o.quiet P a C K :=
  ⟨.int .i64 (max p q), fun w hw => by
    unfold Oper.quietAt execOp
    simp only [ho, resolve, invoke, builtin, Sem.run_bind, Sem.run_pure, Result.andThen_ok, List.map_toArray, List.map_cons, List.map_nil, hx, hy]
    simp [go_sem], hk⟩
theorem quiet_min {P : Program} {C : World → Prop} {K : Act → Prop} {o : Oper} {a : Act} (x y : Operand) (t : TypeId) (p q : Int) (ho : o.op = .call { callee := .builtin .min, args := #[x, y], argTypes := #[t, t] }) (hx : a.eval x = .int .i64 p) (hy : a.eval y = .int .i64 q)
    (hk : K (a.put o.dst (.int .i64 (min p q)))) : o.quiet P a C K :=
  ⟨.int .i64 (min p q), fun w hw => by
    unfold Oper.quietAt execOp
    simp only [ho, resolve, invoke, builtin, Sem.run_bind, Sem.run_pure, Result.andThen_ok, List.map_toArray, List.map_cons, List.map_nil, hx, hy]
    simp [go_sem], hk⟩
theorem builder_new (B : Nat) (w : World) (h : B ≤ w.heap.size) : Lib.IsBuilderF 92 5 B w.heap.size (Lib.byteCells []) (w.alloc (.cells #[.pointer none, .slice none 0 0] 92)) :=
  .inl (Lib.BuilderAtF.of ⟨h, .slice none 0 0, Blk.new w _ _, World.ownsRow_nil _ _ _ _, by intro e; cases e⟩)
/-- what of a block's bytes is read -/
def pieF (xs : List ByteArray) (m : Nat) (l : List Nat) (off en k : Nat) : List UInt8 := (List.range' (max off (128 * k)) (min en (128 * (k + 1)) - max off (128 * k))).map (byteX xs m l)
def outF (xs : List ByteArray) (m : Nat) (l : List Nat) (off en : Nat) (pre : List (Fin 70)) : List UInt8 := pre.flatMap fun x => pieF xs m l off en x.1
section
variable (xs : List ByteArray) (m : Nat) (l : List Nat) (off en : Nat)
theorem outF_snoc (pre : List (Fin 70)) (x : Fin 70) : outF xs m l off en (pre ++ [x]) = outF xs m l off en pre ++ pieF xs m l off en x.1 := by
  unfold outF
  rw [List.flatMap_append]
  simp
theorem pieF_len (k : Nat) : (pieF xs m l off en k).length ≤ 128 := by
  unfold pieF
  rw [List.length_map, List.length_range']
  omega
theorem outF_len : ∀ pre : List (Fin 70), (outF xs m l off en pre).length ≤ 128 * pre.length
  | [] => by simp [outF]
  | x :: pre => by
    have ih := outF_len pre
    have hp := pieF_len xs m l off en x.1
    unfold outF at ih ⊢
    rw [List.flatMap_cons, List.length_append, List.length_cons]
    omega
theorem outF_all : ∀ c, c ≤ 70 → outF xs m l off en (upK c) = spanX xs m l off (min en (128 * c))
  | 0, _ => by
    rw [upK_zero]
    unfold outF spanX
    simp
  | c + 1, h => by
    rw [upK_succ c h, outF_snoc, outF_all c (by omega), spanX_step]
    rfl
theorem pieF_none (k : Nat) (h : en ≤ 128 * k ∨ en ≤ off ∨ 128 * (k + 1) ≤ off) : pieF xs m l off en k = [] := by
  unfold pieF
  rw [show min en (128 * (k + 1)) - max off (128 * k) = 0 by omega]
  rfl
theorem pieF_some (k p q : Nat) (hp : off - 128 * k = p) (hq : min en (128 * (k + 1)) = 128 * k + q) (hq2 : q ≤ 128) (hz : atX xs m l k ≠ 0 → (blkL xs (atX xs m l k)).length = 128) :
    pieF xs m l off en k = if atX xs m l k = 0 then List.replicate (q - p) 0 else ((blkL xs (atX xs m l k)).take q).drop p := by
  rw [← span_piece xs m l k p q hq2 hz]
  unfold pieF
  rw [hq, show max off (128 * k) = 128 * k + p by omega, show 128 * k + q - (128 * k + p) = q - p by omega]
theorem byteCells_app (a : List UInt8) (s : ByteArray) : Lib.byteCells a ++ Lib.strCells s = Lib.byteCells (a ++ s.data.toList) := by
  unfold Lib.byteCells Lib.strCells
  rw [List.map_append]
end
/-- while a file is read -/
structure RdI (w : World) (bo be gb Bc g m n : Nat) (V : List ByteArray) (l : List Nat) (off en : Nat) (cn : Int) (pre : List (Fin 70)) (W : World) : Prop where
  fb : Lib.IsBuilderF 92 5 w.heap.size gb (Lib.byteCells (outF V m l off en pre)) W
  ff : FileX w.heap.size W g m n V l
  fo : Blk W bo 3 #[.int .i64 (off : Int)]
  fe : Blk W be 3 #[.int .i64 (en : Int)]
  fc : Blk W Bc 3 #[.int .i64 cn]
  below : Below w.heap.size w W
theorem RdI.own {w : World} {bo be gb Bc g m n : Nat} {V : List ByteArray} {l : List Nat} {off en : Nat} {cn : Int} {B : Nat} (hB : w.heap.size ≤ B) : OwnFrom B (fun pre W => RdI w bo be gb Bc g m n V l off en cn pre W) := fun s X Y row hs hg hr =>
  have hr' : ∀ r, row = some r → ∃ o : Obj, X.heap[r]? = some o ∧ o.isCells = false := fun r e => (hr r e).2
  ⟨builder_grown hs.fb hg hr', FileX.own (β := Unit) (C := B) () X Y row hs.ff hg hr, Blk.own bo _ (fun (_ : Unit) => _) () X Y row hs.fo hg hr', Blk.own be _ (fun (_ : Unit) => _) () X Y row hs.fe hg hr', Blk.own Bc _ (fun (_ : Unit) => _) () X Y row hs.fc hg hr', ownFrom_below (Nat.le_refl _) hB s X Y row hs.below hg hr⟩
theorem RdI.later {w : World} {bo be gb Bc g m n : Nat} {V : List ByteArray} {l : List Nat} {off en : Nat} {cn : Int} {pre : List (Fin 70)} {X Y : World} (h : RdI w bo be gb Bc g m n V l off en cn pre X) (hb : Below X.heap.size X Y) : RdI w bo be gb Bc g m n V l off en cn pre Y :=
  ⟨builder_below h.fb hb, h.ff.below hb, h.fo.below hb h.fo.lt, h.fe.below hb h.fe.lt, h.fc.below hb h.fc.lt, h.below.trans (hb.mono h.below.size)⟩
/-- a string is written: what else there is lies as it lay -/
theorem RdI.wrote {w : World} {bo be gb Bc g m n : Nat} {V : List ByteArray} {l : List Nat} {off en : Nat} {cn : Int} {pre : List (Fin 70)} {X Y : World} {s : ByteArray} {x : Fin 70} (h : RdI w bo be gb Bc g m n V l off en cn pre X)
    (hs : pieF V m l off en x.1 = s.data.toList) (hb : Lib.BuilderAtF 92 5 w.heap.size gb (.pointer (some ⟨gb, 0, none⟩)) (Lib.byteCells (outF V m l off en pre) ++ Lib.strCells s) Y) (hw : Below w.heap.size X Y) (hk : Lib.OthersKept 5 (some gb) X Y) :
    RdI w bo be gb Bc g m n V l off en cn (pre ++ [x]) Y ∧ KeepsOthers X Y ∧ KeepB Bc X Y := by
  obtain ⟨cs, hB⟩ := builder_blk h.fb
  refine ⟨⟨?_, h.ff.others hB hk, h.fo.others hk (by decide) (h.fo.ne hB (by decide)), h.fe.others hk (by decide) (h.fe.ne hB (by decide)), h.fc.others hk (by decide) (h.fc.ne hB (by decide)), h.below.trans hw⟩, keeps_others hB hk hw.size, ?_⟩
  · rw [outF_snoc, hs, ← byteCells_app]
    exact .inr hb
  · intro cs' t hv
    have ht : t = 3 := by
      have a := hv
      have b := h.fc
      unfold Blk at a b
      rw [a] at b
      cases b
      rfl
    subst ht
    exact hv.others hk (by decide) (hv.ne hB (by decide))
end Go.Proofs.Ytoanladhikdcaaa
