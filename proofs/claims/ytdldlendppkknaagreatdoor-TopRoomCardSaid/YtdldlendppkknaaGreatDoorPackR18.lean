/-
  Contracts and plain laws: Ents, ExtRdA, DirB, Shelf3, AttB.
-/
import Derived.Deep.MidRow
import Derived.Lib.OthersKept
import Derived.OwnWalkIn
import Derived.BigQuiet
import Derived.Shelf.Strings.Builder1
import Derived.Shelf.Strings.Builder2
import Derived.Shelf.Small.Bits
import Derived.Shelf.Strings.BuilderF
import Derived.Shelf.Strings.BuilderK
import Derived.Shelf.Strings.Builder2Cap
import Derived.Shelf.Strings.BuilderCap
import Derived.Shelf.SlLaysH0
import Derived.Shelf.SlLaysF0
import Derived.Test.YtdldlendppkknaaGreatDoorProg
import Derived.Test.YtdldlendppkknaaGreatDoorPackR03
import Derived.Test.YtdldlendppkknaaGreatDoorPackR11
import Derived.Test.YtdldlendppkknaaGreatDoorPackR14
import Derived.Test.YtdldlendppkknaaGreatDoorPackR17
namespace Go.Proofs.YtdldlendppkknaaGreatDoor
open Go.RowKit
set_option linter.unusedVariables false
set_option linter.unusedSimpArgs false
set_option maxRecDepth 100000
theorem RowAt.of_own_k {w : World} {base k : Nat} {e : TypeId} {A : Option Addr} {n c : Nat} {xs : List Value} (h : w.ownsRow base e k (.slice A n c) n xs) : RowAt w w.heap.size A xs := by
 obtain ⟨h1, h2⟩ := h
 rcases h2 with ⟨_, rfl⟩ | ⟨g, cap, cur, hv, hg, hh, hnc, hm, hsz, ht⟩
 ·exact .inl (List.eq_nil_of_length_eq_zero (by simpa using h1))
 ·injection hv with hA
  refine .inr ⟨g, 0, hA, ?_, fun j u hu => ?_⟩
  ·rcases Nat.lt_or_ge g w.heap.size with hlt | hge
   ·exact hlt
   ·rw [Array.getElem?_eq_none hge] at hh; cases hh
  ·have : cur[j]? = some u := by
    rw [← ht, List.getElem?_take] at hu
    split at hu
    ·simpa using hu
    ·cases hu
   simp [World.cell?, hh, this]
theorem entC_app (k l : List EntV) : entC (k ++ l) = entC k ++ entC l := by unfold entC; simp
theorem entC_get : ∀ {l : List EntV} {k : Nat} (hk : k < l.length), (entC l)[k * 2]? = some (.string l[k].name) ∧ (entC l)[k * 2 + 1]? = some (.int .i64 l[k].ino)
 | [], k, hk => absurd hk (Nat.not_lt_zero _)
 | x :: l, 0, _ => ⟨rfl, rfl⟩
 | x :: l, k + 1, hk => by
  have e : entC (x :: l) = .string x.name :: .int .i64 x.ino :: entC l := rfl
  have := entC_get (l := l) (k := k) (by simpa using hk)
  rw [e, show (k + 1) * 2 = k * 2 + 1 + 1 by omega]
  exact this
theorem entC_take : ∀ (l : List EntV) (k : Nat), (entC l).take (k * 2) = entC (l.take k)
 | _, 0 => by simp [entC]
 | [], k + 1 => by simp [entC]
 | x :: l, k + 1 => by
  show (Value.string x.name :: Value.int .i64 x.ino :: entC l).take ((k + 1) * 2) = Value.string x.name :: Value.int .i64 x.ino :: entC (l.take k)
  rw [show (k + 1) * 2 = k * 2 + 1 + 1 by omega, List.take_succ_cons, List.take_succ_cons, entC_take l k]
theorem entC_drop : ∀ (l : List EntV) (k : Nat), (entC l).drop (k * 2) = entC (l.drop k)
 | _, 0 => by simp
 | [], k + 1 => by simp [entC]
 | x :: l, k + 1 => by
  show (Value.string x.name :: Value.int .i64 x.ino :: entC l).drop ((k + 1) * 2) = entC (l.drop k)
  rw [show (k + 1) * 2 = k * 2 + 1 + 1 by omega, List.drop_succ_cons, List.drop_succ_cons, entC_drop l k]
theorem entC_one (l : List EntV) : ∀ u ∈ entC l, u.oneCell' = true := fun u hu => by
 unfold entC at hu
 obtain ⟨x, _, hx⟩ := List.mem_flatMap.1 hu
 rcases List.mem_cons.1 hx with rfl | hx
 ·rfl
 ·rcases List.mem_cons.1 hx with rfl | hx
  ·rfl
  ·cases hx
def EntsAt (w : World) (B : Nat) (A : Option Addr) (l : List EntV) : Prop := RowAt w B A (entC l)
theorem EntsAt.below {w w' : World} {B : Nat} {A : Option Addr} {l : List EntV} (h : EntsAt w B A l) (hb : Below B w w') : EntsAt w' B A l := RowAt.below h hb
theorem EntsAt.mono {w : World} {B B' : Nat} {A : Option Addr} {l : List EntV} (h : EntsAt w B A l) (hB : B ≤ B') : EntsAt w B' A l := RowAt.mono h hB
theorem EntsAt.get {w : World} {B : Nat} {A : Option Addr} {l : List EntV} (h : EntsAt w B A l) {k : Nat} (hk : k < l.length) :
  ∃ b o, A = some ⟨b, o, none⟩ ∧ b < B ∧ w.rangeAt b (o + k * 2) [.string l[k].name, .int .i64 l[k].ino] := by
 obtain ⟨b, o, hA, hb, hc⟩ := RowAt.at_ h (by rw [entC_len]; omega)
 have g := entC_get hk
 refine ⟨b, o, hA, hb, fun j u hu => ?_⟩
 match j, hu with
 | 0, hu => cases hu; rw [Nat.add_zero]; exact hc _ _ g.1
 | 1, hu => cases hu; rw [Nat.add_assoc]; exact hc _ _ g.2
 | j + 2, hu => simp at hu
def OwnEnts (l : List EntV) (w : World) (v : Value) (w' : World) : Prop := w'.ownsRow w.heap.size 168 2 v l.length (entC l)
theorem OwnEnts.read {l : List EntV} {w w' : World} {v : Value} (h : OwnEnts l w v w') : ∃ A c, v = .slice A l.length c ∧ EntsAt w' w'.heap.size A l := by
 have h2 := h
 obtain ⟨h1, h3⟩ := h2
 rcases h3 with ⟨hv, hn⟩ | ⟨g, cap, cur, hv, hg, hh, hnc, hm, hsz, ht⟩
 ·refine ⟨none, 0, by rw [hv, hn], ?_⟩
  have : l = [] := List.eq_nil_of_length_eq_zero hn
  subst this
  exact RowAt.nil
 ·subst hv
  exact ⟨_, _, rfl, RowAt.of_own_k h⟩
theorem ent_info : (Tryz.prog.info? 168).map (fun i => (i.zero, i.size, i.bytes)) = some (some (.agg #[.string ⟨#[]⟩, .int .i64 0]), 2, 24) := by kernel_rfl
open Go.RowKit Go.Shelf
theorem builderAt_grown {B b : Nat} {p : Value} {bs : List Value} {X Y : World} {row : Option Nat} (h : Lib.BuilderAtF 172 5 B b p bs X) (hg : X.grownBy Y row) (hr : ∀ r, row = some r → ∃ o : Obj, X.heap[r]? = some o ∧ o.isCells = false) : Lib.BuilderAtF 172 5 B b p bs Y := by
 obtain ⟨h1, v, h2, h3, h4⟩ := h
 have hlt : b < X.heap.size := by
  rcases Nat.lt_or_ge b X.heap.size with hlt | hge
  ·exact hlt
  ·rw [Array.getElem?_eq_none hge] at h2; cases h2
 refine ⟨h1, v, (hg.block b hlt ?_).trans h2, h3.kept hg ?_, h4⟩
 ·intro e
  obtain ⟨o, ho, hc⟩ := hr b e.symm
  rw [h2] at ho; cases ho; cases hc
 ·rcases h3.2 with ⟨rfl, _⟩ | ⟨g, cap, cur, fz, rfl, _, hh, _⟩
  ·exact .inl rfl
  ·right
   intro e
   obtain ⟨o, ho, hc⟩ := hr g e.symm
   rw [hh] at ho; cases ho; cases hc
theorem builder_grown {B b : Nat} {bs : List Value} {X Y : World} {row : Option Nat} (h : Lib.IsBuilderF 172 5 B b bs X) (hg : X.grownBy Y row) (hr : ∀ r, row = some r → ∃ o : Obj, X.heap[r]? = some o ∧ o.isCells = false) : Lib.IsBuilderF 172 5 B b bs Y :=
 h.elim (fun x => .inl (builderAt_grown x hg hr)) (fun x => .inr (builderAt_grown x hg hr))
theorem builder_below {B b : Nat} {bs : List Value} {X Y : World} (h : Lib.IsBuilderF 172 5 B b bs X) (hb : Below X.heap.size X Y) : Lib.IsBuilderF 172 5 B b bs Y :=
 builder_grown (row := none) h ⟨hb.os, hb.tape, hb.output, hb.size, fun k hk _ => hb.block k hk⟩ (fun r e => by cases e)
theorem builder_blk {B b : Nat} {bs : List Value} {X : World} (h : Lib.IsBuilderF 172 5 B b bs X) : ∃ cs, Blk X b 172 cs := by
 rcases h with ⟨_, v, h2, _⟩ | ⟨_, v, h2, _⟩ <;> exact ⟨_, h2⟩
theorem Blk.others {b g : Nat} {t : TypeId} {cs : Array Value} {X Y : World} (h : Blk X g t cs) (hk : Lib.OthersKept 5 (some b) X Y) (ht : t ≠ 5) (hne : g ≠ b) : Blk Y g t cs :=
 hk g _ h (by intro e; exact hne (Option.some.inj e)) (fun c fz e => by cases e; exact ht rfl)
theorem own_others {b : Nat} {e : TypeId} {base n : Nat} {v : Value} {xs : List Value} {X Y : World} (h : X.ownsRow base e 1 v n xs) (hk : Lib.OthersKept 5 (some b) X Y) (he : e ≠ 5) (hne : v.ownBlock ≠ some b) : Y.ownsRow base e 1 v n xs := by
 obtain ⟨h1, h2⟩ := h
 refine ⟨h1, ?_⟩
 rcases h2 with h2 | ⟨g, cap, cur, rfl, hg, hh, r⟩
 ·exact .inl h2
 ·exact .inr ⟨g, cap, cur, rfl, hg, hk g _ hh (by intro e'; exact hne e') (fun c fz e' => by cases e'; exact he rfl), r⟩
theorem FileX.others {b B g m n : Nat} {V : List ByteArray} {l : List Nat} {X Y : World} {cs : Array Value} (h : FileX B X g m n V l) (hb : Blk X b 172 cs) (hk : Lib.OthersKept 5 (some b) X Y) : FileX B Y g m n V l := by
 obtain ⟨gv, c, h⟩ := h
 refine ⟨gv, c, h.low, h.blk.others hk (by decide) (h.blk.ne hb (by decide)), own_others h.own hk (by decide) ?_, h.vol, h.fit, h.one, h.top⟩
 intro e
 have e' : gv = b := Option.some.inj e
 obtain ⟨cur, hc⟩ := own_blkT h.own
 exact hc.ne hb (by decide) e'
theorem keeps_others {b : Nat} {X Y : World} {cs : Array Value} (hb : Blk X b 172 cs) (hk : Lib.OthersKept 5 (some b) X Y) (hz : X.heap.size ≤ Y.heap.size) : KeepsOthers X Y :=
 ⟨hz, fun k o ho hc => hk k o ho (by
  intro e
  have e' : k = b := Option.some.inj e
  subst e'
  unfold Blk at hb
  rw [hb] at ho; cases ho; cases hc) (fun c fz e => by subst e; cases hc)⟩
theorem quiet_max {P : Program} {C : World → Prop} {K : Act → Prop} {o : Oper} {a : Act} (x y : Operand) (t : TypeId) (p q : Int) (ho : o.op = .call { callee := .builtin .max, args := #[x, y], argTypes := #[t, t] }) (hx : a.eval x = .int .i64 p) (hy : a.eval y = .int .i64 q)
  (hk : K (a.put o.dst (.int .i64 (max p q)))) : o.quiet P a C K :=
 ⟨.int .i64 (max p q), fun w hw => by
  unfold Oper.quietAt execOp
  simp only [ho, resolve, invoke, builtin, Sem.run_bind, Sem.run_pure, Result.andThen_ok, List.map_toArray, List.map_cons, List.map_nil, hx, hy]
  simp [go_sem], hk⟩
theorem quiet_min {P : Program} {C : World → Prop} {K : Act → Prop} {o : Oper} {a : Act} (x y : Operand) (t : TypeId) (p q : Int) (ho : o.op = .call { callee := .builtin .min, args := #[x, y], argTypes := #[t, t] }) (hx : a.eval x = .int .i64 p) (hy : a.eval y = .int .i64 q)
  (hk : K (a.put o.dst (.int .i64 (min p q)))) : o.quiet P a C K :=
 ⟨.int .i64 (min p q), fun w hw => by
  unfold Oper.quietAt execOp
  simp only [ho, resolve, invoke, builtin, Sem.run_bind, Sem.run_pure, Result.andThen_ok, List.map_toArray, List.map_cons, List.map_nil, hx, hy]
  simp [go_sem], hk⟩
theorem builder_new (B : Nat) (w : World) (h : B ≤ w.heap.size) : Lib.IsBuilderF 172 5 B w.heap.size (Lib.byteCells []) (w.alloc (.cells #[.pointer none, .slice none 0 0] 172)) :=
 .inl (Lib.BuilderAtF.of ⟨h, .slice none 0 0, Blk.new w _ _, World.ownsRow_nil _ _ _ _, by intro e; cases e⟩)
def pieF (xs : List ByteArray) (m : Nat) (l : List Nat) (off en k : Nat) : List UInt8 := (List.range' (max off (128 * k)) (min en (128 * (k + 1)) - max off (128 * k))).map (byteX xs m l)
def outF (xs : List ByteArray) (m : Nat) (l : List Nat) (off en : Nat) (pre : List (Fin 70)) : List UInt8 := pre.flatMap fun x => pieF xs m l off en x.1
section
variable (xs : List ByteArray) (m : Nat) (l : List Nat) (off en : Nat)
theorem outF_snoc (pre : List (Fin 70)) (x : Fin 70) : outF xs m l off en (pre ++ [x]) = outF xs m l off en pre ++ pieF xs m l off en x.1 := by
 unfold outF
 rw [List.flatMap_append]
 simp
theorem pieF_len (k : Nat) : (pieF xs m l off en k).length ≤ 128 := by
 unfold pieF
 rw [List.length_map, List.length_range']
 omega
theorem outF_len : ∀ pre : List (Fin 70), (outF xs m l off en pre).length ≤ 128 * pre.length
 | [] => by simp [outF]
 | x :: pre => by
  have ih := outF_len pre
  have hp := pieF_len xs m l off en x.1
  unfold outF at ih ⊢
  rw [List.flatMap_cons, List.length_append, List.length_cons]
  omega
theorem outF_all : ∀ c, c ≤ 70 → outF xs m l off en (upK c) = spanX xs m l off (min en (128 * c))
 | 0, _ => by
  rw [upK_zero]
  unfold outF spanX
  simp
 | c + 1, h => by
  rw [upK_succ c h, outF_snoc, outF_all c (by omega), spanX_step]
  rfl
theorem pieF_none (k : Nat) (h : en ≤ 128 * k ∨ en ≤ off ∨ 128 * (k + 1) ≤ off) : pieF xs m l off en k = [] := by
 unfold pieF
 rw [show min en (128 * (k + 1)) - max off (128 * k) = 0 by omega]
 rfl
theorem pieF_some (k p q : Nat) (hp : off - 128 * k = p) (hq : min en (128 * (k + 1)) = 128 * k + q) (hq2 : q ≤ 128) (hz : atX xs m l k ≠ 0 → (blkL xs (atX xs m l k)).length = 128) :
  pieF xs m l off en k = if atX xs m l k = 0 then List.replicate (q - p) 0 else ((blkL xs (atX xs m l k)).take q).drop p := by
 rw [← span_piece xs m l k p q hq2 hz]
 unfold pieF
 rw [hq, show max off (128 * k) = 128 * k + p by omega, show 128 * k + q - (128 * k + p) = q - p by omega]
theorem byteCells_app (a : List UInt8) (s : ByteArray) : Lib.byteCells a ++ Lib.strCells s = Lib.byteCells (a ++ s.data.toList) := by
 unfold Lib.byteCells Lib.strCells
 rw [List.map_append]
end
structure RdI (w : World) (bo be gb Bc g m n : Nat) (V : List ByteArray) (l : List Nat) (off en : Nat) (cn : Int) (pre : List (Fin 70)) (W : World) : Prop where
 fb : Lib.IsBuilderF 172 5 w.heap.size gb (Lib.byteCells (outF V m l off en pre)) W
 ff : FileX w.heap.size W g m n V l
 fo : Blk W bo 3 #[.int .i64 (off : Int)]
 fe : Blk W be 3 #[.int .i64 (en : Int)]
 fc : Blk W Bc 3 #[.int .i64 cn]
 below : Below w.heap.size w W
theorem RdI.own {w : World} {bo be gb Bc g m n : Nat} {V : List ByteArray} {l : List Nat} {off en : Nat} {cn : Int} {B : Nat} (hB : w.heap.size ≤ B) : OwnFrom B (fun pre W => RdI w bo be gb Bc g m n V l off en cn pre W) := fun s X Y row hs hg hr =>
 have hr' : ∀ r, row = some r → ∃ o : Obj, X.heap[r]? = some o ∧ o.isCells = false := fun r e => (hr r e).2
 ⟨builder_grown hs.fb hg hr', FileX.own (β := Unit) (C := B) () X Y row hs.ff hg hr, Blk.own bo _ (fun (_ : Unit) => _) () X Y row hs.fo hg hr', Blk.own be _ (fun (_ : Unit) => _) () X Y row hs.fe hg hr', Blk.own Bc _ (fun (_ : Unit) => _) () X Y row hs.fc hg hr', ownFrom_below (Nat.le_refl _) hB s X Y row hs.below hg hr⟩
theorem RdI.later {w : World} {bo be gb Bc g m n : Nat} {V : List ByteArray} {l : List Nat} {off en : Nat} {cn : Int} {pre : List (Fin 70)} {X Y : World} (h : RdI w bo be gb Bc g m n V l off en cn pre X) (hb : Below X.heap.size X Y) : RdI w bo be gb Bc g m n V l off en cn pre Y :=
 ⟨builder_below h.fb hb, h.ff.below hb, h.fo.below hb h.fo.lt, h.fe.below hb h.fe.lt, h.fc.below hb h.fc.lt, h.below.trans (hb.mono h.below.size)⟩
theorem RdI.wrote {w : World} {bo be gb Bc g m n : Nat} {V : List ByteArray} {l : List Nat} {off en : Nat} {cn : Int} {pre : List (Fin 70)} {X Y : World} {s : ByteArray} {x : Fin 70} (h : RdI w bo be gb Bc g m n V l off en cn pre X)
  (hs : pieF V m l off en x.1 = s.data.toList) (hb : Lib.BuilderAtF 172 5 w.heap.size gb (.pointer (some ⟨gb, 0, none⟩)) (Lib.byteCells (outF V m l off en pre) ++ Lib.strCells s) Y) (hw : Below w.heap.size X Y) (hk : Lib.OthersKept 5 (some gb) X Y) :
  RdI w bo be gb Bc g m n V l off en cn (pre ++ [x]) Y ∧ KeepsOthers X Y ∧ KeepB Bc X Y := by
 obtain ⟨cs, hB⟩ := builder_blk h.fb
 refine ⟨⟨?_, h.ff.others hB hk, h.fo.others hk (by decide) (h.fo.ne hB (by decide)), h.fe.others hk (by decide) (h.fe.ne hB (by decide)), h.fc.others hk (by decide) (h.fc.ne hB (by decide)), h.below.trans hw⟩, keeps_others hB hk hw.size, ?_⟩
 ·rw [outF_snoc, hs, ← byteCells_app]
  exact .inr hb
 ·intro cs' t hv
  have ht : t = 3 := by
   have a := hv
   have b := h.fc
   unfold Blk at a b
   rw [a] at b
   cases b
   rfl
  subst ht
  exact hv.others hk (by decide) (hv.ne hB (by decide))
theorem repeat_l0 (z : Nat) : Lib.repeatL [0] z = List.replicate z (0 : UInt8) := by
 have := congrArg (·.data.toList) (repeat_zero z)
 simpa [zerosB] using this
set_option maxHeartbeats 4000000 in
theorem entry_any (x : EntV) (w : World) (hn : x.name.size ≤ 28) (hi : 0 ≤ x.ino ∧ x.ino < 65536) : Calls Tryz.prog 185 #[.agg #[.string x.name, .int .i64 x.ino]] w fun e w' => e = .returned (.string ⟨(entB x).toArray⟩) ∧ Below w.heap.size w w' := by
 obtain ⟨s, ino⟩ := x
 dsimp only at *
 obtain ⟨i, rfl⟩ : ∃ i : Nat, ino = (i : Int) := ⟨ino.toNat, by omega⟩
 obtain ⟨p1, hp1, sp1⟩ : ∃ p, (⟨(putL i 2).toArray⟩ : ByteArray) = p ∧ p.size = 2 := ⟨_, rfl, by show (putL i 2).toArray.size = 2; rw [List.size_toArray, putL_length]⟩
 obtain ⟨p2, hp2, sp2⟩ : ∃ p, (⟨(putL s.size 1).toArray⟩ : ByteArray) = p ∧ p.size = 1 := ⟨_, rfl, by show (putL s.size 1).toArray.size = 1; rw [List.size_toArray, putL_length]⟩
 obtain ⟨z, hz⟩ : ∃ z, z = 28 - s.size := ⟨_, rfl⟩
 obtain ⟨R, hR⟩ : ∃ R : ByteArray, (⟨(Lib.repeatL (⟨#[0]⟩ : ByteArray).data.toList z).toArray⟩ : ByteArray) = R := ⟨_, rfl⟩
 have HRs : Hid (R.size = z) := by
  show _ = _
  rw [← hR]
  show (Lib.repeatL (⟨#[0]⟩ : ByteArray).data.toList z).toArray.size = z
  show (Lib.repeatL [0] z).toArray.size = z
  rw [repeat_l0, List.size_toArray, List.length_replicate]
 have HJ : Hid ((p1 ++ p2 ++ ⟨#[0]⟩ ++ s ++ R : ByteArray) = ⟨(entB ⟨s, (i : Int)⟩).toArray⟩) := by
  show _ = _
  rw [← hp1, ← hp2, ← hR]
  unfold entB
  apply WideShapes.bytes_inj
  simp only [ByteArray.data_append, Array.toList_append, List.append_assoc, List.toList_toArray, Int.toNat_natCast, repeat_l0, ← hz]
 obtain ⟨q, hq⟩ : ∃ q, (p1 ++ p2 ++ ⟨#[0]⟩ ++ s : ByteArray) = q := ⟨_, rfl⟩
 have k0 : (⟨#[0]⟩ : ByteArray).size = 1 := rfl
 have HQ : Hid (q.size + z = 32) := by show _ = _; rw [← hq, ByteArray.size_append, ByteArray.size_append, ByteArray.size_append]; omega
 have ad1 := fun (w : World) => run_string_add_sum (P := Tryz.prog) (w := w) p1 p2 (by omega)
 have ad2 := fun (w : World) => run_string_add_sum (P := Tryz.prog) (w := w) (p1 ++ p2) ⟨#[0]⟩ (by rw [ByteArray.size_append]; omega)
 have ad3 := fun (w : World) => run_string_add_sum (P := Tryz.prog) (w := w) (p1 ++ p2 ++ ⟨#[0]⟩) s (by rw [ByteArray.size_append, ByteArray.size_append]; omega)
 have ad4 := fun (w : World) => run_string_add_sum (P := Tryz.prog) (w := w) q R (by have := HQ.out; have := HRs.out; omega)
 have e1 : IntKind.u64.wrap (i : Int) = (i : Int) := IntWalk.u64_in _ (by omega)
 have e2 : IntKind.u64.wrap (s.size : Int) = (s.size : Int) := IntWalk.u64_in _ (by omega)
 have e3 : IntKind.i64.wrap (32 - (q.size : Int)) = (z : Int) := by
  have := HQ.out
  rw [show 32 - (q.size : Int) = (z : Int) by omega]
  exact IntWalk.i64_in _ (by omega)
 have C1 : Hid (∀ w, Calls Tryz.prog 93 #[.int .u64 i, .int .i64 2] w fun e w' => e = .returned (.string p1) ∧ Below w.heap.size w w') := fun w => by rw [← hp1]; exact put_any i 2 w (by omega) (by omega)
 have C2 : Hid (∀ w, Calls Tryz.prog 93 #[.int .u64 (s.size : Int), .int .i64 1] w fun e w' => e = .returned (.string p2) ∧ Below w.heap.size w w') := fun w => by rw [← hp2]; exact put_any s.size 1 w (by omega) (by omega)
 have C3 : Hid (∀ w, Calls Tryz.prog 101 #[.string ⟨#[0]⟩, .int .i64 z] w fun e w' => e = .returned (.string R) ∧ Below w.heap.size w w') := fun w => by rw [← hR]; exact Tryz.strings_Repeat ⟨#[0]⟩ z w (by omega) (by show 1 * z ≤ _; omega)
 have HQ2 := Lib.hid hq
 rw [← HJ.out]
 clear HJ HRs HQ hR hp1 hp2 hn hi hz sp1 sp2 k0 hq
 go_enter Tryz.func185, Tryz.ntmps185
 go_wp2
 generalize hw1 : w.alloc _ = w1
 have G : Hid (Blk w1 w.heap.size 168 #[.string s, .int .i64 i]) := hw1 ▸ Blk.new _ _ _
 have B : Hid (Below w.heap.size w w1) := hw1 ▸ (Below.refl _ _).alloc (Nat.le_refl _) _
 clear hw1
 have u0 : ∀ u : Ext w1, u.val.cell? ⟨w.heap.size, 0, none⟩ = some (.string s) := fun u => u.cell (G.out.cell 0 rfl)
 have u1 : ∀ u : Ext w1, u.val.cell? ⟨w.heap.size, 1, none⟩ = some (.int .i64 i) := fun u => u.cell (G.out.cell 1 rfl)
 refine wp_region_ext (by kernel_rfl) (by kernel_rfl) ?_
 repeat (go_big_quiet_step (first
  | (go_at_call 93; with_reducible exact Ext.call (C1.out _))
  | (go_at_call 93; with_reducible exact Ext.call (C2.out _))))
 refine wpQuiet_nil ?_
 rintro _ ⟨u, rfl⟩
 have B := Lib.hid (B.out.trans (u.below.mono B.out.size))
 generalize u.val = w2 at B
 rw [HQ2.out]
 clear u0 u1 G C1 C2
 go_wp2_with fail
 refine (C3.out _).mono ?_
 rintro e w3 ⟨rfl, hb3⟩
 have B := Lib.hid (B.out.trans (hb3.mono B.out.size))
 clear hb3
 go_wp2
 go_ret
 exact ⟨by rw [HQ2.out]; rfl, B.out⟩
theorem string_l (B b : Nat) (l : List UInt8) (w : World) (h : Lib.IsBuilderF 172 5 B b (Lib.byteCells l) w) (hBw : B ≤ w.heap.size) :
  Calls Tryz.prog 102 #[.pointer (some ⟨b, 0, none⟩)] w fun e w' => e = .returned (.string ⟨l.toArray⟩) ∧ Below B w w' :=
 (Tryz.Builder_String_any_f B b l w h hBw).mono fun _ _ h => ⟨h.1, h.2.2⟩
theorem cells_snoc (l : List EntV) (k : Nat) (hk : k < l.length) : Lib.byteCells (bytesE (l.take k)) ++ Lib.strCells ⟨(entB l[k]).toArray⟩ = Lib.byteCells (bytesE (l.take (k + 1))) := by
 rw [List.take_succ_eq_append_getElem hk, bytesE_app, Lib.byteCells_append]
 congr 1
 show Lib.byteCells (entB l[k]) = Lib.byteCells (entB l[k] ++ [])
 rw [List.append_nil]
theorem bytes_le : ∀ (l : List EntV), (∀ x ∈ l, x.name.size ≤ 28) → (bytesE l).length = 32 * l.length
 | [], _ => rfl
 | x :: l, h => by
  rw [bytesE_cons, List.length_append, entB_len (h x (by simp)), bytes_le l (fun y hy => h y (by simp [hy]))]
  simp; omega
set_option maxHeartbeats 4000000 in
theorem bytes_any (A : Option Addr) (c : Nat) (l : List EntV) (w : World) (hl : l.length ≤ 1000) (hn : ∀ x ∈ l, x.name.size ≤ 28 ∧ 0 ≤ x.ino ∧ x.ino < 65536) (h : EntsAt w w.heap.size A l) :
  Calls Tryz.prog 125 #[.slice A l.length c] w fun e w' => e = .returned (.string ⟨(bytesE l).toArray⟩) ∧ Below w.heap.size w w' := by
 have B0 := Lib.hid ((Below.refl w.heap.size w).alloc (Nat.le_refl _) (.cells #[.pointer none, .slice none 0 0] 172))
 have F0 := Lib.hid (builder_new w.heap.size w (Nat.le_refl _))
 have R0 := Lib.hid ((h.below B0.out))
 have HN := Lib.hid hn
 have HB : Hid (∀ k, (Lib.byteCells (bytesE (l.take k))).length ≤ 32 * 1000) := fun k => by
  rw [Lib.byteCells_length, bytes_le _ (fun x hx => (hn x (List.mem_of_mem_take hx)).1), List.length_take]
  omega
 clear h hn
 go_enter Tryz.func125, Tryz.ntmps125
 go_wp2
 generalize w.alloc _ = w0 at *
 go_loopw [5, 8] (fun _ i wr => ∃ k : Nat, k ≤ l.length ∧ i = .int .i64 (k : Int) ∧ Hid (Lib.IsBuilderF 172 5 w.heap.size w.heap.size (Lib.byteCells (bytesE (l.take k))) wr) ∧ Hid (EntsAt wr w.heap.size A l) ∧ Hid (Below w.heap.size w wr)) (fun _ i _ => l.length - (intOf i).toNat)
 case atStart => exact ⟨0, Nat.zero_le _, rfl, F0, R0, B0⟩
 case round =>
  clear F0 R0 B0
  obtain ⟨k, hk, rfl, F, R, B⟩ := hrel
  by_cases hlt : k < l.length
  ·obtain ⟨bA, oA, rfl, hbA, hrA⟩ := R.out.get hlt
   obtain ⟨n1, n2, n3⟩ := HN.out _ (List.getElem_mem hlt)
   have HS := Lib.hid (cells_snoc l k hlt)
   have HL := Lib.hid (HB.out k)
   have HE := Lib.hid (entB_len n1)
   generalize l[k] = x at *
   have CE := Lib.hid (fun w => entry_any x w n1 ⟨n2, n3⟩)
   obtain ⟨nm, ino⟩ := x
   dsimp only at *
   have HR : Hid (wr.rangeAt bA (oA + k * 2) [.string nm, .int .i64 ino]) := hrA
   have GA := Lib.hid (Blk.new wr 168 #[.string nm, .int .i64 ino])
   have b4 : Below wr.heap.size wr (wr.alloc (.cells #[.string nm, .int .i64 ino] 168)) := (Below.refl _ _).alloc (Nat.le_refl _) _
   have F4 := Lib.hid (builder_below F.out b4)
   have R4 := Lib.hid (R.out.below (b4.mono B.out.size))
   have B4 := Lib.hid (B.out.trans (b4.mono B.out.size))
   have i2 : (k : Int) < (l.length : Int) := by omega
   have i3 : (0 : Int) ≤ (k : Int) := by omega
   clear hrA b4 R B F
   go_wp2_with (first
    | (refine wpList_load_mid rfl 168 (.tmp 10) rfl bA (oA + k * 2) rfl _ _ HR.out Tryz.underlying168 rfl (by kernel_rfl) ?_; go_frame)
    | (go_at_call 185; refine (CE.out _).mono ?_; rintro e w5 ⟨rfl, hb5⟩; have F5 := Lib.hid (builder_below F4.out hb5); have R5 := Lib.hid (R4.out.below (hb5.mono B4.out.size)); have B5 := Lib.hid (B4.out.trans (hb5.mono B4.out.size)); clear hb5 F4 R4 B4)
    | (go_at_call 100; refine (Tryz.Builder_WriteString_k w.heap.size w.heap.size _ _ _ F5.out (by have := HL.out; have := HE.out; show _ + (entB ⟨nm, ino⟩).toArray.size ≤ _; rw [List.size_toArray]; omega) B5.out.size).mono ?_; rintro e w6 ⟨rfl, hba, hb6, hok⟩; have F6 : Hid (Lib.IsBuilderF 172 5 w.heap.size w.heap.size (Lib.byteCells (bytesE (l.take (k + 1)))) w6) := .inr (HS.out ▸ hba); have R6 := Lib.hid (R5.out.below hb6); have B6 := Lib.hid (B5.out.trans hb6); clear hba hb6 hok F5 R5 B5))
   go_roundw
   case rel => exact ⟨k + 1, by omega, by go_num, F6, R6, B6⟩
   case measure => simp [intOf]; omega
  ·obtain rfl : k = l.length := by omega
   have HT : Hid (l.take l.length = l) := List.take_length
   rw [HT.out] at F
   go_wp2_with fail
   refine (string_l w.heap.size w.heap.size _ _ F.out B.out.size).mono ?_
   rintro e w7 ⟨rfl, hb7⟩
   have B7 := Lib.hid (B.out.trans hb7)
   clear hb7
   go_wp2
   go_ret
   exact ⟨rfl, B7.out⟩
end Go.Proofs.YtdldlendppkknaaGreatDoor
namespace Go.Proofs
open Go.Shelf
def Tryz.lays165_ren : Go.Shelf.Ren := ⟨fun | 165 => 171 | 240 => 169 | 241 => 205 | 276 => 202 | 277 => 225 | n => n, fun | 70 => 170 | 3 => 3 | 0 => 0 | 4 => 4 | 9 => 9 | 20 => 20 | 72 => 172 | 37 => 44 | 164 => 268 | 5 => 5 | n => n, fun | n => n⟩
theorem Tryz.lays165 : Go.Proofs.Lays.n165 Tryz.prog Tryz.lays165_ren := {
 mixed := by kernel_rfl
 f165 := Tryz.func171.trans (congrArg some (by kernel_rfl))
 f240 := Tryz.func169.trans (congrArg some (by kernel_rfl))
 f241 := Tryz.func205.trans (congrArg some (by kernel_rfl))
 f276 := Tryz.func202.trans (congrArg some (by kernel_rfl))
 f277 := Tryz.func225.trans (congrArg some (by kernel_rfl))
 t0 := Tryz.underlying0
 a0 := Tryz.isAgg0
 z0 := Tryz.sizeOf0
 v0 := Tryz.zeroValue0
 t3 := Tryz.underlying3
 a3 := Tryz.isAgg3
 z3 := Tryz.sizeOf3
 v3 := Tryz.zeroValue3
 t4 := Tryz.underlying4
 a4 := Tryz.isAgg4
 z4 := Tryz.sizeOf4
 v4 := Tryz.zeroValue4
 t9 := Tryz.underlying9
 a9 := Tryz.isAgg9
 z9 := Tryz.sizeOf9
 v9 := Tryz.zeroValue9
 t20 := Tryz.underlying20
 a20 := Tryz.isAgg20
 z20 := Tryz.sizeOf20
 v20 := Tryz.zeroValue20
 t37 := Tryz.underlying44
 a37 := Tryz.isAgg44
 z37 := Tryz.sizeOf44
 v37 := Tryz.zeroValue44
 t70 := Tryz.underlying170
 a70 := Tryz.isAgg170
 z70 := Tryz.sizeOf170
 v70 := Tryz.zeroValue170
 t72 := Tryz.underlying172
 a72 := Tryz.isAgg172
 z72 := Tryz.sizeOf172
 v72 := Tryz.zeroValue172
 t164 := Tryz.underlying268
 a164 := Tryz.isAgg268
 z164 := Tryz.sizeOf268
 v164 := Tryz.zeroValue268 }
theorem Tryz.Builder_Extra_165 : Builder.Extra Tryz.prog Tryz.lays165_ren := {
 sizeBuilder := by kernel_rfl
 liesBuilder := by kernel_rfl
 t5 := Tryz.underlying5
 a5 := Tryz.isAgg5
 z5 := Tryz.sizeOf5
 v5 := Tryz.zeroValue5
 infoByte := by kernel_rfl
 cellsByte := by kernel_rfl
 sizeByte := by kernel_rfl
 neB5 := by decide }
open Go.RowKit in
theorem Tryz.Builder_Grow_fresh (B b n : Nat) (w : World) (hB : B ≤ b) (hbk : w.heap[b]? = some (.cells #[.pointer none, .slice none 0 0] 172 (0, 0))) (hBw : B ≤ w.heap.size) (hn : n ≤ 281474976710656) :
  Calls Tryz.prog 171 #[.pointer (some ⟨b, 0, none⟩), .int .i64 n] w fun e w' => e = .returned (.tuple #[]) ∧ (Lib.BuilderAt 172 5 B b (.pointer (some ⟨b, 0, none⟩)) [] w' ∧ Below B w w') := Any.Builder_Grow_fresh Tryz.lays165 Tryz.Builder_Extra_165 B b n w hB hbk hBw hn
def Tryz.lays167_ren : Go.Shelf.Ren := ⟨fun | 167 => 217 | 240 => 169 | 276 => 202 | n => n, fun | 70 => 170 | 0 => 0 | 4 => 4 | 9 => 9 | 20 => 20 | 72 => 172 | 37 => 44 | 164 => 268 | 5 => 5 | 75 => 174 | 80 => 178 | n => n, fun | n => n⟩
theorem Tryz.lays167 : Go.Proofs.Lays.n167 Tryz.prog Tryz.lays167_ren := {
 mixed := by kernel_rfl
 f167 := Tryz.func217.trans (congrArg some (by kernel_rfl))
 f240 := Tryz.func169.trans (congrArg some (by kernel_rfl))
 f276 := Tryz.func202.trans (congrArg some (by kernel_rfl))
 t0 := Tryz.underlying0
 a0 := Tryz.isAgg0
 z0 := Tryz.sizeOf0
 v0 := Tryz.zeroValue0
 t4 := Tryz.underlying4
 a4 := Tryz.isAgg4
 z4 := Tryz.sizeOf4
 v4 := Tryz.zeroValue4
 t5 := Tryz.underlying5
 a5 := Tryz.isAgg5
 z5 := Tryz.sizeOf5
 v5 := Tryz.zeroValue5
 t9 := Tryz.underlying9
 a9 := Tryz.isAgg9
 z9 := Tryz.sizeOf9
 v9 := Tryz.zeroValue9
 t20 := Tryz.underlying20
 a20 := Tryz.isAgg20
 z20 := Tryz.sizeOf20
 v20 := Tryz.zeroValue20
 t37 := Tryz.underlying44
 a37 := Tryz.isAgg44
 z37 := Tryz.sizeOf44
 v37 := Tryz.zeroValue44
 t70 := Tryz.underlying170
 a70 := Tryz.isAgg170
 z70 := Tryz.sizeOf170
 v70 := Tryz.zeroValue170
 t72 := Tryz.underlying172
 a72 := Tryz.isAgg172
 z72 := Tryz.sizeOf172
 v72 := Tryz.zeroValue172
 t75 := Tryz.underlying174
 a75 := Tryz.isAgg174
 z75 := Tryz.sizeOf174
 v75 := Tryz.zeroValue174
 t164 := Tryz.underlying268
 a164 := Tryz.isAgg268
 z164 := Tryz.sizeOf268
 v164 := Tryz.zeroValue268 }
theorem Tryz.Builder_Extra_167 : Builder.Extra Tryz.prog Tryz.lays167_ren := {
 sizeBuilder := by kernel_rfl
 liesBuilder := by kernel_rfl
 t5 := Tryz.underlying5
 a5 := Tryz.isAgg5
 z5 := Tryz.sizeOf5
 v5 := Tryz.zeroValue5
 infoByte := by kernel_rfl
 cellsByte := by kernel_rfl
 sizeByte := by kernel_rfl
 neB5 := by decide }
open Go.RowKit in
theorem Tryz.Builder_WriteByte_k (B b : Nat) (bs : List Value) (c : Int) (w : World) (h : Lib.IsBuilderF 172 5 B b bs w) (hlen : bs.length + 1 ≤ 140737488355328) (hBw : B ≤ w.heap.size) :
  Calls Tryz.prog 217 #[.pointer (some ⟨b, 0, none⟩), .int .u8 c] w fun e w' => e = .returned .nilIface ∧ (Lib.BuilderAtF 172 5 B b (.pointer (some ⟨b, 0, none⟩)) (bs ++ [.int .u8 c]) w' ∧ Below B w w' ∧ Lib.OthersKept 5 (some b) w w') := Any.Builder_WriteByte_k Tryz.lays167 Tryz.Builder_Extra_167 B b bs c w h hlen hBw
def Tryz.idxAttr_ren : Go.Shelf.Ren := ⟨fun | 6 => 118 | n => n, fun | 22 => 99 | 23 => 104 | 25 => 200 | 3 => 3 | 0 => 0 | 4 => 4 | n => n, fun | n => n⟩
theorem Tryz.idxAttr : Go.Proofs.SlLaysH0.n6 Tryz.prog Tryz.idxAttr_ren := {
 mixed := by kernel_rfl
 f6 := ⟨Tryz.f118.name, by decide, Tryz.func118.trans (congrArg some (by kernel_rfl))⟩
 t0 := Tryz.underlying0
 a0 := Tryz.isAgg0
 z0 := Tryz.sizeOf0
 v0 := Tryz.zeroValue0
 t3 := Tryz.underlying3
 a3 := Tryz.isAgg3
 z3 := Tryz.sizeOf3
 v3 := Tryz.zeroValue3
 t4 := Tryz.underlying4
 a4 := Tryz.isAgg4
 z4 := Tryz.sizeOf4
 v4 := Tryz.zeroValue4
 t22 := Tryz.underlying99
 a22 := Tryz.isAgg99
 z22 := Tryz.sizeOf99
 v22 := Tryz.zeroValue99
 t25 := Tryz.underlying200
 a25 := Tryz.isAgg200
 z25 := Tryz.sizeOf200
 v25 := Tryz.zeroValue200 }
def Tryz.sortAttr_ren : Go.Shelf.Ren := ⟨fun | 6 => 110 | 15 => 179 | 14 => 178 | 28 => 214 | 29 => 215 | 20 => 206 | 21 => 207 | 22 => 208 | 23 => 209 | 24 => 210 | 25 => 211 | 26 => 212 | 27 => 213 | 46 => 226 | 47 => 227 | 48 => 228 | 49 => 229 | 50 => 230 | 57 => 241 | n => n, fun | 22 => 99 | 24 => 104 | 25 => 193 | 3 => 3 | 39 => 82 | 0 => 0 | 53 => 68 | 55 => 106 | 4 => 4 | 46 => 276 | 45 => 275 | 50 => 165 | 5 => 5 | 9 => 9 | 66 => 290 | 70 => 185 | 76 => 302 | 77 => 179 | n => n, fun | n => n⟩
theorem Tryz.sortAttr : Go.Proofs.SlLaysF0.n6 Tryz.prog Tryz.sortAttr_ren := {
 mixed := by kernel_rfl
 f6 := ⟨Tryz.f110.name, by decide, Tryz.func110.trans (congrArg some (by kernel_rfl))⟩
 f14 := ⟨Tryz.f178.name, by decide, Tryz.func178.trans (congrArg some (by kernel_rfl))⟩
 f15 := Tryz.func179.trans (congrArg some (by kernel_rfl))
 f20 := ⟨Tryz.f206.name, by decide, Tryz.func206.trans (congrArg some (by kernel_rfl))⟩
 f21 := ⟨Tryz.f207.name, by decide, Tryz.func207.trans (congrArg some (by kernel_rfl))⟩
 f22 := ⟨Tryz.f208.name, by decide, Tryz.func208.trans (congrArg some (by kernel_rfl))⟩
 f23 := ⟨Tryz.f209.name, by decide, Tryz.func209.trans (congrArg some (by kernel_rfl))⟩
 f24 := ⟨Tryz.f210.name, by decide, Tryz.func210.trans (congrArg some (by kernel_rfl))⟩
 f25 := ⟨Tryz.f211.name, by decide, Tryz.func211.trans (congrArg some (by kernel_rfl))⟩
 f26 := ⟨Tryz.f212.name, by decide, Tryz.func212.trans (congrArg some (by kernel_rfl))⟩
 f27 := ⟨Tryz.f213.name, by decide, Tryz.func213.trans (congrArg some (by kernel_rfl))⟩
 f28 := Tryz.func214.trans (congrArg some (by kernel_rfl))
 f29 := Tryz.func215.trans (congrArg some (by kernel_rfl))
 f46 := ⟨Tryz.f226.name, by decide, Tryz.func226.trans (congrArg some (by kernel_rfl))⟩
 f47 := Tryz.func227.trans (congrArg some (by kernel_rfl))
 f48 := Tryz.func228.trans (congrArg some (by kernel_rfl))
 f49 := ⟨Tryz.f229.name, by decide, Tryz.func229.trans (congrArg some (by kernel_rfl))⟩
 f50 := ⟨Tryz.f230.name, by decide, Tryz.func230.trans (congrArg some (by kernel_rfl))⟩
 f57 := ⟨Tryz.f241.name, by decide, Tryz.func241.trans (congrArg some (by kernel_rfl))⟩
 t0 := Tryz.underlying0
 a0 := Tryz.isAgg0
 z0 := Tryz.sizeOf0
 v0 := Tryz.zeroValue0
 t3 := Tryz.underlying3
 a3 := Tryz.isAgg3
 z3 := Tryz.sizeOf3
 v3 := Tryz.zeroValue3
 t4 := Tryz.underlying4
 a4 := Tryz.isAgg4
 z4 := Tryz.sizeOf4
 v4 := Tryz.zeroValue4
 t5 := Tryz.underlying5
 a5 := Tryz.isAgg5
 z5 := Tryz.sizeOf5
 v5 := Tryz.zeroValue5
 t9 := Tryz.underlying9
 a9 := Tryz.isAgg9
 z9 := Tryz.sizeOf9
 v9 := Tryz.zeroValue9
 t22 := Tryz.underlying99
 a22 := Tryz.isAgg99
 z22 := Tryz.sizeOf99
 v22 := Tryz.zeroValue99
 t25 := Tryz.underlying193
 a25 := Tryz.isAgg193
 z25 := Tryz.sizeOf193
 v25 := Tryz.zeroValue193
 t39 := Tryz.underlying82
 a39 := Tryz.isAgg82
 z39 := Tryz.sizeOf82
 v39 := Tryz.zeroValue82
 t45 := Tryz.underlying275
 a45 := Tryz.isAgg275
 z45 := Tryz.sizeOf275
 v45 := Tryz.zeroValue275
 t46 := Tryz.underlying276
 a46 := Tryz.isAgg276
 z46 := Tryz.sizeOf276
 v46 := Tryz.zeroValue276
 t50 := Tryz.underlying165
 a50 := Tryz.isAgg165
 z50 := Tryz.sizeOf165
 v50 := Tryz.zeroValue165
 t53 := Tryz.underlying68
 a53 := Tryz.isAgg68
 z53 := Tryz.sizeOf68
 v53 := Tryz.zeroValue68
 t55 := Tryz.underlying106
 a55 := Tryz.isAgg106
 z55 := Tryz.sizeOf106
 v55 := Tryz.zeroValue106
 t66 := Tryz.underlying290
 a66 := Tryz.isAgg290
 z66 := Tryz.sizeOf290
 v66 := Tryz.zeroValue290
 t70 := Tryz.underlying185
 a70 := Tryz.isAgg185
 z70 := Tryz.sizeOf185
 v70 := Tryz.zeroValue185
 t76 := Tryz.underlying302
 a76 := Tryz.isAgg302
 z76 := Tryz.sizeOf302
 v76 := Tryz.zeroValue302
 t77 := Tryz.underlying179
 a77 := Tryz.isAgg179
 z77 := Tryz.sizeOf179
 v77 := Tryz.zeroValue179 }
end Go.Proofs
namespace Go.Proofs.YtdldlendppkknaaGreatDoor
open Go.RowKit
set_option linter.unusedVariables false
set_option linter.unusedSimpArgs false
set_option maxRecDepth 100000
def sumZ (ts : List ByteArray) : Nat := (ts.map fun t => t.size + 4).sum
theorem sumZ_snoc {ts : List ByteArray} {k : Nat} (hk : k < ts.length) : sumZ (ts.take (k + 1)) = sumZ (ts.take k) + (ts[k].size + 4) := by
 unfold sumZ
 rw [List.take_succ_eq_append_getElem hk, List.map_append, List.sum_append]
 simp
theorem sumZ_le : ∀ (ts : List ByteArray), (∀ t ∈ ts, t.size ≤ 127) → sumZ ts ≤ 131 * ts.length
 | [], _ => Nat.le_refl _
 | t :: ts, h => by
  have h1 := h t (by simp)
  have h2 := sumZ_le ts fun x hx => h x (by simp [hx])
  unfold sumZ at h2 ⊢
  rw [List.map_cons, List.sum_cons, List.length_cons]
  omega
theorem rowT_le : ∀ (ts : List ByteArray), (∀ t ∈ ts, t.size ≤ 127) → (rowT ts).length ≤ 128 * ts.length
 | [], _ => Nat.le_refl _
 | t :: ts, h => by
  have h1 := h t (by simp)
  have h2 := rowT_le ts fun x hx => h x (by simp [hx])
  rw [rowT_cons, List.length_cons, List.length_append, dsize, List.length_cons]
  omega
theorem rowT_snoc {ts : List ByteArray} {k : Nat} (hk : k < ts.length) (h : ts[k].size ≤ 127) : Lib.byteCells (rowT (ts.take k)) ++ [.int .u8 (ts[k].size : Int)] ++ Lib.strCells ts[k] = Lib.byteCells (rowT (ts.take (k + 1))) := by
 rw [List.take_succ_eq_append_getElem hk, rowT_app, Lib.byteCells_append, rowT_cons]
 have : rowT [] = [] := rfl
 rw [this, List.append_nil, List.append_assoc]
 congr 1
 have e : ((UInt8.ofNat ts[k].size).toNat : Int) = (ts[k].size : Int) := by simp; omega
 show [Value.int .u8 (ts[k].size : Int)] ++ _ = Value.int .u8 ((UInt8.ofNat ts[k].size).toNat : Int) :: _
 rw [e]
 rfl
set_option maxHeartbeats 4000000 in
theorem nrow_any (A : Option Addr) (c : Nat) (ts : List ByteArray) (w : World) (hl : ts.length ≤ 1000) (hn : ∀ t ∈ ts, t.size ≤ 127) (h : RowAt w w.heap.size A (ts.map .string)) :
  Calls Tryz.prog 181 #[.slice A ts.length c] w fun e w' => e = .returned (.string ⟨(rowT ts).toArray⟩) ∧ Below w.heap.size w w' := by
 have B0 := Lib.hid ((Below.refl w.heap.size w).alloc (Nat.le_refl _) (.cells #[.pointer none, .slice none 0 0] 172))
 have R0 := Lib.hid h
 have R1 := Lib.hid (h.below B0.out)
 have HN := Lib.hid hn
 have HZ : Hid (∀ k, sumZ (ts.take k) ≤ 131000) := fun k => by
  have := sumZ_le (ts.take k) fun t ht => hn t (List.mem_of_mem_take ht)
  rw [List.length_take] at this
  omega
 have HB : Hid (∀ k, (Lib.byteCells (rowT (ts.take k))).length ≤ 128000) := fun k => by
  have := rowT_le (ts.take k) fun t ht => hn t (List.mem_of_mem_take ht)
  rw [List.length_take] at this
  rw [Lib.byteCells_length]
  omega
 have HG : Hid (∀ n : Nat, n ≤ 131000 → Calls Tryz.prog 171 #[.pointer (some ⟨w.heap.size, 0, none⟩), .int .i64 n] (w.alloc (.cells #[.pointer none, .slice none 0 0] 172)) fun e w' => e = .returned (.tuple #[]) ∧ Lib.IsBuilderF 172 5 w.heap.size w.heap.size (Lib.byteCells (rowT (ts.take 0))) w' ∧ Below w.heap.size (w.alloc (.cells #[.pointer none, .slice none 0 0] 172)) w') := fun n hn =>
  (Tryz.Builder_Grow_fresh w.heap.size w.heap.size n _ (Nat.le_refl _) (Blk.new w _ _) (by simp) (by omega)).mono fun _ _ h => ⟨h.1, .inr (Lib.BuilderAtF.of h.2.1), h.2.2⟩
 clear h hn
 go_enter Tryz.func181, Tryz.ntmps181
 go_wp2
 go_loopw [3, 12] (fun z i wr => ∃ k : Nat, k ≤ ts.length ∧ i = .int .i64 (k : Int) ∧ z = .int .i64 (sumZ (ts.take k) : Nat) ∧ w = wr) (fun _ i _ => ts.length - (intOf i).toNat)
 case atStart => exact ⟨0, Nat.zero_le _, rfl, rfl, rfl⟩
 case round =>
  obtain ⟨k, hk, rfl, rfl, rfl⟩ := hrel
  by_cases hlt : k < ts.length
  ·obtain ⟨b, o, rfl, hb, hc⟩ := RowAt.at_ R0.out (by rw [List.length_map]; omega)
   have cA := hc k (.string ts[k]) (by rw [List.getElem?_map, List.getElem?_eq_getElem hlt]; rfl)
   have h1 := HN.out _ (List.getElem_mem hlt)
   have HS := Lib.hid (sumZ_snoc hlt)
   have h2 := HZ.out k
   generalize ts[k] = t at *
   have i2 : (k : Int) < (ts.length : Int) := by omega
   have i3 : (0 : Int) ≤ (k : Int) := by omega
   have w1 : IntKind.i64.wrap ((t.size : Int) + 4) = (t.size : Int) + 4 := IntWalk.i64_in _ (by omega)
   have w2 : IntKind.i64.wrap ((sumZ (ts.take k) : Nat) + ((t.size : Int) + 4)) = (sumZ (ts.take (k + 1)) : Nat) := by
    rw [HS.out]
    have : ((sumZ (ts.take k) : Nat) : Int) + ((t.size : Int) + 4) = ((sumZ (ts.take k) + (t.size + 4) : Nat) : Int) := by omega
    rw [this]
    exact IntWalk.i64_in _ (by omega)
   clear hc h1 h2
   go_wp2
   go_roundw
   case rel => exact ⟨k + 1, by omega, by go_num, rfl, trivial⟩
   case measure => simp [intOf]; omega
  ·obtain rfl : k = ts.length := by omega
   have hz := HZ.out ts.length
   generalize sumZ (ts.take ts.length) = n at *
   have HG := Lib.hid (HG.out n hz)
   clear hz
   go_wp2_with fail
   refine HG.out.mono ?_
   rintro e' w2 ⟨rfl, hF, hb2⟩
   have F2 := Lib.hid hF
   have R2 := Lib.hid (R1.out.below hb2)
   have B2 := Lib.hid (B0.out.trans hb2)
   clear hF hb2 HG R1 B0
   go_wp2
   go_loopw [26] (fun i wr => ∃ k : Nat, k ≤ ts.length ∧ i = .int .i64 (k : Int) ∧ Hid (Lib.IsBuilderF 172 5 w.heap.size w.heap.size (Lib.byteCells (rowT (ts.take k))) wr) ∧ Hid (RowAt wr w.heap.size A (ts.map .string)) ∧ Hid (Below w.heap.size w wr)) (fun i _ => ts.length - (intOf i).toNat)
   case atStart => exact ⟨0, Nat.zero_le _, rfl, F2, R2, B2⟩
   case round =>
    clear F2 R2 B2
    obtain ⟨k, hk, rfl, F, R, B⟩ := hrel
    by_cases hlt : k < ts.length
    ·obtain ⟨b, o, rfl, hb, hc⟩ := RowAt.at_ R.out (by rw [List.length_map]; omega)
     have cA := hc k (.string ts[k]) (by rw [List.getElem?_map, List.getElem?_eq_getElem hlt]; rfl)
     have h1 := HN.out _ (List.getElem_mem hlt)
     have HS := Lib.hid (rowT_snoc hlt h1)
     have HL := Lib.hid (HB.out k)
     generalize ts[k] = t at *
     have i2 : (k : Int) < (ts.length : Int) := by omega
     have i3 : (0 : Int) ≤ (k : Int) := by omega
     have n1 : ¬ (128 : Int) ≤ (t.size : Int) := by omega
     have w8 : IntKind.u8.wrap (t.size : Int) = (t.size : Int) := by simp [IntKind.wrap, IntKind.bits, IntKind.signed]; omega
     have HT : Hid (t.size ≤ 127) := h1
     clear hc h1
     go_wp2
     go_loopw [9] (fun n wr2 => n = .int .i64 (t.size : Int) ∧ wr = wr2) (fun _ _ => 0)
     case atStart => exact ⟨rfl, rfl⟩
     case round =>
      obtain ⟨rfl, rfl⟩ := hrel
      go_wp2_with fail
      refine (Tryz.Builder_WriteByte_k w.heap.size w.heap.size _ _ _ F.out (by have := HL.out; omega) B.out.size).mono ?_
      rintro e5 w5 ⟨rfl, hba, hb5, hok⟩
      have F5 : Hid (Lib.IsBuilderF 172 5 w.heap.size w.heap.size _ w5) := .inr hba
      have R5 := Lib.hid (R.out.below hb5)
      have B5 := Lib.hid (B.out.trans hb5)
      clear hba hb5 hok F R B
      go_wp2_with fail
      refine (Tryz.Builder_WriteString_k w.heap.size w.heap.size _ _ _ F5.out (by have := HL.out; have := HT.out; rw [List.length_append]; simp only [List.length_singleton]; omega) B5.out.size).mono ?_
      rintro e6 w6 ⟨rfl, hba, hb6, hok⟩
      have F6 : Hid (Lib.IsBuilderF 172 5 w.heap.size w.heap.size (Lib.byteCells (rowT (ts.take (k + 1)))) w6) := .inr (HS.out ▸ hba)
      have R6 := Lib.hid (R5.out.below hb6)
      have B6 := Lib.hid (B5.out.trans hb6)
      clear hba hb6 hok F5 R5 B5
      go_wp2
      go_roundw
      case rel => exact ⟨k + 1, by omega, by go_num, F6, R6, B6⟩
      case measure => simp [intOf]; omega
    ·obtain rfl : k = ts.length := by omega
     have HT : Hid (ts.take ts.length = ts) := List.take_length
     rw [HT.out] at F
     go_wp2_with fail
     refine (string_l w.heap.size w.heap.size _ _ F.out B.out.size).mono ?_
     rintro e w7 ⟨rfl, hb7⟩
     have B7 := Lib.hid (B.out.trans hb7)
     clear hb7
     go_wp2
     go_ret
     exact ⟨rfl, B7.out⟩
set_option maxHeartbeats 4000000 in
theorem ablock_any (r : ByteArray) (w : World) (hr : r.size ≤ 126) : Calls Tryz.prog 182 #[.string r] w fun e w' => e = .returned (.string ⟨(blockL r.data.toList).toArray⟩) ∧ Below w.heap.size w w' := by
 obtain ⟨p1, hp1, sp1⟩ : ∃ p, (⟨(putL r.size 2).toArray⟩ : ByteArray) = p ∧ p.size = 2 := ⟨_, rfl, by show (putL r.size 2).toArray.size = 2; rw [List.size_toArray, putL_length]⟩
 obtain ⟨z, hz⟩ : ∃ z, z = 126 - r.size := ⟨_, rfl⟩
 obtain ⟨R, hR⟩ : ∃ R : ByteArray, (⟨(Lib.repeatL (⟨#[0]⟩ : ByteArray).data.toList z).toArray⟩ : ByteArray) = R := ⟨_, rfl⟩
 have HRs : Hid (R.size = z) := by
  show _ = _
  rw [← hR]
  show (Lib.repeatL [0] z).toArray.size = z
  rw [repeat_l0, List.size_toArray, List.length_replicate]
 have HJ : Hid ((p1 ++ r ++ R : ByteArray) = ⟨(blockL r.data.toList).toArray⟩) := by
  show _ = _
  rw [← hp1, ← hR]
  unfold blockL
  apply WideShapes.bytes_inj
  simp only [ByteArray.data_append, Array.toList_append, List.append_assoc, List.toList_toArray, repeat_l0, dsize, ← hz]
 obtain ⟨q, hq⟩ : ∃ q, (p1 ++ r : ByteArray) = q := ⟨_, rfl⟩
 have HQ : Hid (q.size + z = 128) := by show _ = _; rw [← hq, ByteArray.size_append]; omega
 have ad1 := fun (w : World) => run_string_add_sum (P := Tryz.prog) (w := w) p1 r (by omega)
 have ad2 := fun (w : World) => run_string_add_sum (P := Tryz.prog) (w := w) q R (by have := HQ.out; have := HRs.out; omega)
 have e2 : IntKind.u64.wrap (r.size : Int) = (r.size : Int) := IntWalk.u64_in _ (by omega)
 have e3 : IntKind.i64.wrap (128 - (q.size : Int)) = (z : Int) := by
  have := HQ.out
  rw [show 128 - (q.size : Int) = (z : Int) by omega]
  exact IntWalk.i64_in _ (by omega)
 have C1 : Hid (∀ w, Calls Tryz.prog 93 #[.int .u64 (r.size : Int), .int .i64 2] w fun e w' => e = .returned (.string p1) ∧ Below w.heap.size w w') := fun w => by rw [← hp1]; exact put_any r.size 2 w (by omega) (by omega)
 have C3 : Hid (∀ w, Calls Tryz.prog 101 #[.string ⟨#[0]⟩, .int .i64 z] w fun e w' => e = .returned (.string R) ∧ Below w.heap.size w w') := fun w => by rw [← hR]; exact Tryz.strings_Repeat ⟨#[0]⟩ z w (by omega) (by show 1 * z ≤ _; omega)
 have HQ2 := Lib.hid hq
 rw [← HJ.out]
 clear HJ HRs HQ hR hp1 hr hz sp1 hq
 go_enter Tryz.func182, Tryz.ntmps182
 go_wp2_with fail
 refine (C1.out _).mono ?_
 rintro e w1 ⟨rfl, hb1⟩
 have B1 := Lib.hid hb1
 clear hb1 C1
 rw [HQ2.out] at ad1
 go_wp2_with fail
 refine (C3.out _).mono ?_
 rintro e w3 ⟨rfl, hb3⟩
 have B3 := Lib.hid (B1.out.trans (hb3.mono B1.out.size))
 clear hb3
 go_wp2
 go_ret
 exact ⟨by rw [HQ2.out]; rfl, B3.out⟩
end Go.Proofs.YtdldlendppkknaaGreatDoor
