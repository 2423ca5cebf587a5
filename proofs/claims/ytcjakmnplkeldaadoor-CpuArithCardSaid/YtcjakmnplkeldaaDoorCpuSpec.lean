/-
  One step of the cpu: the plain word; the blocks that it works on.
-/
import Derived.Test.YtcjakmnplkeldaaDoorCpuB
import Derived.Test.YtcjakmnplkeldaaDoorClone
import Derived.Lib.SmallJoins
import Derived.Test.YtcjakmnplkeldaaDoorLate
namespace Go.Proofs.YtcjakmnplkeldaaDoor
open Go.RowKit
set_option linter.unusedVariables false
set_option linter.unusedSimpArgs false
/-- a cpu's cells -/
def cpuC (R : List Nat) (pc : Nat) : Array Value := (R.map (fun r : Nat => Value.int .u32 (r : Int)) ++ [Value.int .u32 (pc : Int)]).toArray
theorem cpuC_size (R : List Nat) (pc : Nat) : (cpuC R pc).size = R.length + 1 := by simp [cpuC]
theorem cpuC_reg {R : List Nat} {pc i : Nat} (h : i < R.length) : (cpuC R pc)[i]? = some (.int .u32 (R.getD i 0 : Nat)) := by
  simp [cpuC, List.getElem?_append, h]
theorem cpuC_pc {R : List Nat} {pc : Nat} (h : R.length = 16) : (cpuC R pc)[16]? = some (.int .u32 (pc : Nat)) := by
  simp [cpuC, List.getElem?_append, h]
theorem cpuC_set {R : List Nat} {pc i v : Nat} (h : i < R.length) : (cpuC R pc).setIfInBounds i (.int .u32 (v : Nat)) = cpuC (R.set i v) pc := by
  unfold cpuC
  rw [List.setIfInBounds_toArray, List.set_append_left _ _ (by simpa using h), List.map_set]
theorem cpuC_setpc {R : List Nat} {pc v : Nat} (h : R.length = 16) : (cpuC R pc).setIfInBounds 16 (.int .u32 (v : Nat)) = cpuC R v := by
  unfold cpuC
  rw [List.setIfInBounds_toArray, List.set_append_right _ _ (by simp [h])]
  simp [h]
theorem cpuC_one (R : List Nat) (pc : Nat) : ∀ v ∈ cpuC R pc, v.oneCell' = true := by
  intro v hv
  simp [cpuC] at hv
  rcases hv with ⟨r, _, rfl⟩ | rfl <;> rfl
theorem cpu_info : (Tryd.prog.info? 25).map (·.size) = some 17 := by kernel_rfl
theorem cpu_size {R : List Nat} {pc : Nat} (h : R.length = 16) : (Tryd.prog.info? 25).map (·.size) = some (cpuC R pc).size := by rw [cpu_info, cpuC_size, h]
def Regs (R : List Nat) : Prop := R.length = 16 ∧ ∀ r ∈ R, r < 4294967296
theorem Regs.get {R : List Nat} (h : Regs R) (i : Nat) : R.getD i 0 < 4294967296 := by
  by_cases hi : i < R.length
  · simp [hi]; exact h.2 _ (List.getElem_mem hi)
  · simp [Nat.not_lt.1 hi]
theorem Regs.set_ {R : List Nat} (h : Regs R) (i : Nat) {v : Nat} (hv : v < 4294967296) : Regs (R.set i v) := by
  refine ⟨by simp [h.1], fun r hr => ?_⟩
  rcases List.mem_or_eq_of_mem_set hr with hr | rfl
  · exact h.2 r hr
  · exact hv
/-- what a step comes to: registers, the next place, memory, how it came out -/
structure StepO where
  R : List Nat
  pc : Nat
  xs : List ByteArray
  kind : Int
  n : Nat
def wnR (op : Nat) : Nat := [1, 6, 7, 8, 12].getD (op - 14) 0
theorem wnR_range {op : Nat} (h1 : 14 ≤ op) (h2 : op ≤ 18) : 1 ≤ wnR op ∧ wnR op ≤ 13 := by
  obtain rfl | rfl | rfl | rfl | rfl : op = 14 ∨ op = 15 ∨ op = 16 ∨ op = 17 ∨ op = 18 := by omega
  all_goals decide
/-- behind an instruction that could be done -/
def stDo (R : List Nat) (pc : Nat) (l : List Pte) (xs : List ByteArray) (x : Ins) (a b imm pc1 : Nat) (R0 : List Nat) : StepO :=
  if x.op ≤ 13 then ⟨(R0.set x.a (thrR x.op b (R0.getD x.c 0))).set 0 0, pc1, xs, 0, 0⟩
  else if x.op ≤ 18 then ⟨(R0.set x.a (thrR (wnR x.op) b imm)).set 0 0, pc1, xs, 0, 0⟩
  else if x.op = 19 then ⟨(R0.set x.a (imm * 65536 % 4294967296)).set 0 0, pc1, xs, 0, 0⟩
  else if x.op ≤ 22 then match ldR x.op xs l ((b + imm) % 4294967296) with
    | none => ⟨R, pc, xs, 2, (b + imm) % 4294967296⟩
    | some v => ⟨(R0.set x.a v).set 0 0, pc1, xs, 0, 0⟩
  else if x.op ≤ 24 then match storeR xs l ((b + imm) % 4294967296) (if x.op = 24 then 1 else 4) a with
    | none => ⟨R, pc, xs, 2, (b + imm) % 4294967296⟩
    | some ys => ⟨R0.set 0 0, pc1, ys, 0, 0⟩
  else if x.op ≤ 28 then ⟨R0.set 0 0, if tkR x.op a b then (pc1 + 4 * imm) % 4294967296 else pc1, xs, 0, 0⟩
  else if x.op = 29 then ⟨(R0.set x.a pc1).set 0 0, (pc1 + 4 * imm) % 4294967296, xs, 0, 0⟩
  else if x.op = 30 then ⟨(R0.set x.a pc1).set 0 0, (b + imm) % 4294967296, xs, 0, 0⟩
  else ⟨R0.set 0 0, pc1, xs, 1, imm⟩
def stepR (R : List Nat) (pc : Nat) (l : List Pte) (xs : List ByteArray) : StepO :=
  match loadR xs l pc 4 with
  | none => ⟨R, pc, xs, 2, pc⟩
  | some w => match decR w with
    | none => ⟨R, pc, xs, 3, w⟩
    | some x => stDo R pc l xs x ((R.set 0 0).getD x.a 0) ((R.set 0 0).getD x.b 0) (x.imm % 4294967296).toNat ((pc + 4) % 4294967296) (R.set 0 0)
def StepPost (o : StepO) (w : World) (e : Ending) (w' : World) : Prop :=
  ∃ v, e = .returned (.tuple #[.agg (cpuC o.R o.pc), v, .agg #[.int .i64 o.kind, .int .u32 (o.n : Nat)]]) ∧ w'.ownsRow w.heap.size 9 1 v o.xs.length (o.xs.map .string) ∧ Below w.heap.size w w'
/-- the table of cpu.withNumber, in memory -/
def Tab5 (w : World) : Prop := ∀ k, k < 5 → w.cell? ⟨0, k, none⟩ = some (.int .u8 (([1, 6, 7, 8, 12] : List Nat).getD k 0 : Nat))
theorem Tab5.later {w w' : World} (h : Tab5 w) (hb : Below w.heap.size w w') : Tab5 w' := fun k hk => Ext.cell ⟨w', hb⟩ (h k hk)
/-- the blocks of a step: the cpu, the pages, the results' two, the cpu as it was -/
structure St (w wr : World) (R : List Nat) (pc : Nat) (l : List Pte) (Rw : List Nat) (pcw : Nat) (oc oe : Array Value) : Prop where
  c : Blk wr w.heap.size 25 (cpuC R pc)
  s : Blk wr (w.heap.size + 1) 29 (pteL l).toArray
  oc : Blk wr (w.heap.size + 1 + 1) 25 oc
  oe : Blk wr (w.heap.size + 1 + 1 + 1) 34 oe
  was : Blk wr (w.heap.size + 1 + 1 + 1 + 1) 25 (cpuC Rw pcw)
  below : Below w.heap.size w wr
/-- and memory, in a row of the call's own -/
def Cs (w wr : World) (R : List Nat) (pc : Nat) (l : List Pte) (Rw : List Nat) (pcw : Nat) (oc oe : Array Value) (v : Value) (xs : List ByteArray) : Prop :=
  St w wr R pc l Rw pcw oc oe ∧ wr.ownsRow w.heap.size 9 1 v xs.length (xs.map .string)
section
variable {w wr wr' : World} {R : List Nat} {pc : Nat} {l : List Pte} {Rw : List Nat} {pcw : Nat} {oc oe : Array Value} {v : Value} {xs : List ByteArray}
theorem St.lt (h : St w wr R pc l Rw pcw oc oe) : w.heap.size + 1 + 1 + 1 + 1 < wr.heap.size := h.was.lt
theorem St.later (h : St w wr R pc l Rw pcw oc oe) (hb : Below wr.heap.size wr wr') : St w wr' R pc l Rw pcw oc oe :=
  ⟨h.c.below hb h.c.lt, h.s.below hb h.s.lt, h.oc.below hb h.oc.lt, h.oe.below hb h.oe.lt, h.was.below hb h.was.lt, h.below.trans (hb.mono h.below.size)⟩
theorem St.reg (h : St w wr R pc l Rw pcw oc oe) {i v : Nat} (hi : i < R.length) : St w (wr.setCell ⟨w.heap.size, i, none⟩ (.int .u32 (v : Nat))) (R.set i v) pc l Rw pcw oc oe := by
  refine ⟨?_, h.s.far (by show w.heap.size + 1 ≠ w.heap.size; omega) _, h.oc.far (by show w.heap.size + 1 + 1 ≠ w.heap.size; omega) _, h.oe.far (by show w.heap.size + 1 + 1 + 1 ≠ w.heap.size; omega) _, h.was.far (by show w.heap.size + 1 + 1 + 1 + 1 ≠ w.heap.size; omega) _, h.below.setCell (Nat.le_refl _) _⟩
  rw [← cpuC_set hi]; exact h.c.set_ i _
theorem St.setpc (h : St w wr R pc l Rw pcw oc oe) {v : Nat} (hR : R.length = 16) : St w (wr.setCell ⟨w.heap.size, 16, none⟩ (.int .u32 (v : Nat))) R v l Rw pcw oc oe := by
  refine ⟨?_, h.s.far (by show w.heap.size + 1 ≠ w.heap.size; omega) _, h.oc.far (by show w.heap.size + 1 + 1 ≠ w.heap.size; omega) _, h.oe.far (by show w.heap.size + 1 + 1 + 1 ≠ w.heap.size; omega) _, h.was.far (by show w.heap.size + 1 + 1 + 1 + 1 ≠ w.heap.size; omega) _, h.below.setCell (Nat.le_refl _) _⟩
  rw [← cpuC_setpc (pc := pc) hR]; exact h.c.set_ 16 _
theorem ne_blk {a b : Nat} (h : a ≠ b) : some a ≠ some b := fun e => h (Option.some.inj e)
theorem St.putwas (h : St w wr R pc l Rw pcw oc oe) {R' : List Nat} {pc' : Nat} (hb : Blk wr' (w.heap.size + 1 + 1 + 1 + 1) 25 (cpuC R' pc')) (hg : wr.grownBy wr' (some (w.heap.size + 1 + 1 + 1 + 1))) : St w wr' R pc l R' pc' oc oe :=
  ⟨h.c.grown hg (ne_blk (by omega)), h.s.grown hg (ne_blk (by omega)), h.oc.grown hg (ne_blk (by omega)), h.oe.grown hg (ne_blk (by omega)), hb, h.below.grown hg h.below.size (fun k hk => by cases hk; omega)⟩
theorem St.putoc (h : St w wr R pc l Rw pcw oc oe) {oc' : Array Value} (hb : Blk wr' (w.heap.size + 1 + 1) 25 oc') (hg : wr.grownBy wr' (some (w.heap.size + 1 + 1))) : St w wr' R pc l Rw pcw oc' oe :=
  ⟨h.c.grown hg (ne_blk (by omega)), h.s.grown hg (ne_blk (by omega)), hb, h.oe.grown hg (ne_blk (by omega)), h.was.grown hg (ne_blk (by omega)), h.below.grown hg h.below.size (fun k hk => by cases hk; omega)⟩
theorem St.putoe (h : St w wr R pc l Rw pcw oc oe) {oe' : Array Value} (hb : Blk wr' (w.heap.size + 1 + 1 + 1) 34 oe') (hg : wr.grownBy wr' (some (w.heap.size + 1 + 1 + 1))) : St w wr' R pc l Rw pcw oc oe' :=
  ⟨h.c.grown hg (ne_blk (by omega)), h.s.grown hg (ne_blk (by omega)), h.oc.grown hg (ne_blk (by omega)), hb, h.was.grown hg (ne_blk (by omega)), h.below.grown hg h.below.size (fun k hk => by cases hk; omega)⟩
theorem Cs.later (h : Cs w wr R pc l Rw pcw oc oe v xs) (hb : Below wr.heap.size wr wr') : Cs w wr' R pc l Rw pcw oc oe v xs := ⟨h.1.later hb, own_below h.2 hb⟩
theorem Cs.alloc (h : Cs w wr R pc l Rw pcw oc oe v xs) (o : Obj) : Cs w (wr.alloc o) R pc l Rw pcw oc oe v xs := h.later ((Below.refl _ _).alloc (Nat.le_refl _) _)
theorem Cs.drew (h : Cs w wr R pc l Rw pcw oc oe v xs) : Cs w wr.drew R pc l Rw pcw oc oe v xs := h.later (Below.refl _ _).drew
theorem Cs.own_ne (h : Cs w wr R pc l Rw pcw oc oe v xs) {g : Nat} {t : TypeId} {cs : Array Value} (hg : Blk wr g t cs) (hne : 9 ≠ t) : v.ownBlock ≠ some g := fun e => Go.Proofs.YtcjakmnplkeldaaDoor.own_ne h.2 hg hne e.symm
theorem Cs.reg (h : Cs w wr R pc l Rw pcw oc oe v xs) {i u : Nat} (hi : i < R.length) : Cs w (wr.setCell ⟨w.heap.size, i, none⟩ (.int .u32 (u : Nat))) (R.set i u) pc l Rw pcw oc oe v xs :=
  ⟨h.1.reg hi, ownsRow_setCell_other h.2 (h.own_ne h.1.c (by decide)) _⟩
theorem Cs.setpc (h : Cs w wr R pc l Rw pcw oc oe v xs) {u : Nat} (hR : R.length = 16) : Cs w (wr.setCell ⟨w.heap.size, 16, none⟩ (.int .u32 (u : Nat))) R u l Rw pcw oc oe v xs :=
  ⟨h.1.setpc hR, ownsRow_setCell_other h.2 (h.own_ne h.1.c (by decide)) _⟩
theorem Cs.reg' (h : Cs w wr R pc l Rw pcw oc oe v xs) {i u : Nat} {n : Int} (hn : n = (u : Nat)) (hi : i < R.length) : Cs w (wr.setCell ⟨w.heap.size, i, none⟩ (.int .u32 n)) (R.set i u) pc l Rw pcw oc oe v xs := by
  subst hn; exact h.reg hi
theorem Cs.setpc' (h : Cs w wr R pc l Rw pcw oc oe v xs) {u : Nat} {n : Int} (hn : n = (u : Nat)) (hR : R.length = 16) : Cs w (wr.setCell ⟨w.heap.size, 16, none⟩ (.int .u32 n)) R u l Rw pcw oc oe v xs := by
  subst hn; exact h.setpc hR
theorem Cs.putoc (h : Cs w wr R pc l Rw pcw oc oe v xs) {oc' : Array Value} (hb : Blk wr' (w.heap.size + 1 + 1) 25 oc') (hg : wr.grownBy wr' (some (w.heap.size + 1 + 1))) : Cs w wr' R pc l Rw pcw oc' oe v xs :=
  ⟨h.1.putoc hb hg, h.2.kept hg (.inr (h.own_ne h.1.oc (by decide)))⟩
theorem Cs.putoe (h : Cs w wr R pc l Rw pcw oc oe v xs) {oe' : Array Value} (hb : Blk wr' (w.heap.size + 1 + 1 + 1) 34 oe') (hg : wr.grownBy wr' (some (w.heap.size + 1 + 1 + 1))) : Cs w wr' R pc l Rw pcw oc oe' v xs :=
  ⟨h.1.putoe hb hg, h.2.kept hg (.inr (h.own_ne h.1.oe (by decide)))⟩
theorem Cs.other (h : Cs w wr R pc l Rw pcw oc oe v xs) {g : Nat} {t : TypeId} {cs : Array Value} (hb : Blk wr g t cs) (ht : 9 ≠ t) (hlt : w.heap.size + 1 + 1 + 1 + 1 < g) (hg : wr.grownBy wr' (some g)) : Cs w wr' R pc l Rw pcw oc oe v xs :=
  ⟨⟨h.1.c.grown hg (ne_blk (by omega)), h.1.s.grown hg (ne_blk (by omega)), h.1.oc.grown hg (ne_blk (by omega)), h.1.oe.grown hg (ne_blk (by omega)), h.1.was.grown hg (ne_blk (by omega)), h.1.below.grown hg h.1.below.size (fun k hk => by cases hk; omega)⟩, h.2.kept hg (.inr (h.own_ne hb ht))⟩
theorem own_read {w : World} {base n : Nat} {v : Value} {xs : List Value} (h : w.ownsRow base 9 1 v n xs) : ∃ A c, v = .slice A n c ∧ RowAt w w.heap.size A xs ∧ (A = none → n = 0 ∧ c = 0) := by
  rcases Go.Joins.ownsRow_forms h with ⟨rfl, rfl⟩ | ⟨g, cap, rfl⟩
  · exact ⟨none, 0, rfl, RowAt.of_own h, fun _ => ⟨rfl, rfl⟩⟩
  · exact ⟨_, cap, rfl, RowAt.of_own h, fun e => by cases e⟩
end
/-- nothing yet -/
def zC : Array Value := #[.int .u32 0, .int .u32 0, .int .u32 0, .int .u32 0, .int .u32 0, .int .u32 0, .int .u32 0, .int .u32 0, .int .u32 0, .int .u32 0, .int .u32 0, .int .u32 0, .int .u32 0, .int .u32 0, .int .u32 0, .int .u32 0, .int .u32 0]
def zE : Array Value := #[.int .i64 0, .int .u32 0]
def evC (k : Int) (n : Nat) : Array Value := #[.int .i64 k, .int .u32 (n : Int)]
theorem evC_one (k : Int) (n : Nat) : ∀ v ∈ evC k n, v.oneCell' = true := by
  intro v hv
  simp [evC] at hv
  rcases hv with rfl | rfl <;> rfl
/-- the stages of a return: the first result is laid, then the second, then the third -/
def RetC (w : World) (R : List Nat) (pc : Nat) (l : List Pte) (Rw : List Nat) (pcw : Nat) (nc ne : Array Value) (v : Value) (xs : List ByteArray) (F : World → Prop) (k : Nat) (w' : World) : Prop :=
  Cs w w' R pc l Rw pcw (if k = 0 then zC else nc) (if k ≤ 2 then zE else ne) v xs ∧ F w'
theorem ev_info : (Tryd.prog.info? 34).map (·.size) = some 2 := by kernel_rfl
end Go.Proofs.YtcjakmnplkeldaaDoor
