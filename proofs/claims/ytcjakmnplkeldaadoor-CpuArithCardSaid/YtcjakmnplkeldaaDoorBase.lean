/-
  Words for memory, of my own: a row of cells that is read; worlds that only grow; a region that draws its order, over a class of worlds.
-/
import Derived.WalkKit
import Derived.WalkSpells
import Derived.WalkLawsBesides
import Derived.Lib.Hide
import Derived.Deep.QuietTactic
import Derived.BigQuiet
import Derived.Lib.Strings
import Derived.WideShapes
namespace Go.Proofs.YtcjakmnplkeldaaDoor
open Go.RowKit
set_option linter.unusedVariables false
set_option linter.unusedSimpArgs false

theorem ret_int {k : IntKind} {a b : Int} (h : a = b) : Ending.returned (.int k a) = .returned (.int k b) := by rw [h]
theorem ret_bool {a b : Bool} (h : a = b) : Ending.returned (.bool a) = .returned (.bool b) := by rw [h]

/-- the cells xs stand from the address on, in a block below B -/
def RowAt (w : World) (B : Nat) (A : Option Addr) (xs : List Value) : Prop :=
  xs = [] ∨ ∃ b o, A = some ⟨b, o, none⟩ ∧ b < B ∧ ∀ j u, xs[j]? = some u → w.cell? ⟨b, o + j, none⟩ = some u

theorem RowAt.nil {w : World} {B : Nat} {A : Option Addr} : RowAt w B A [] := .inl rfl
theorem RowAt.at_ {w : World} {B : Nat} {A : Option Addr} {xs : List Value} (h : RowAt w B A xs) (hn : 0 < xs.length) :
    ∃ b o, A = some ⟨b, o, none⟩ ∧ b < B ∧ ∀ j u, xs[j]? = some u → w.cell? ⟨b, o + j, none⟩ = some u := by
  rcases h with rfl | h
  · simp at hn
  · exact h
theorem RowAt.keep {w w' : World} {B : Nat} {A : Option Addr} {xs : List Value} (h : RowAt w B A xs) (hk : ∀ b o, b < B → w'.cell? ⟨b, o, none⟩ = w.cell? ⟨b, o, none⟩) : RowAt w' B A xs := by
  rcases h with rfl | ⟨b, o, hA, hb, hc⟩
  · exact .inl rfl
  · exact .inr ⟨b, o, hA, hb, fun j u hu => (hk b _ hb).trans (hc j u hu)⟩
theorem RowAt.below {w w' : World} {B : Nat} {A : Option Addr} {xs : List Value} (h : RowAt w B A xs) (hb : Below B w w') : RowAt w' B A xs :=
  h.keep fun b o hlt => hb.cell (p := ⟨b, o, none⟩) hlt
theorem RowAt.mono {w : World} {B B' : Nat} {A : Option Addr} {xs : List Value} (h : RowAt w B A xs) (hB : B ≤ B') : RowAt w B' A xs := by
  rcases h with rfl | ⟨b, o, hA, hb, hc⟩
  · exact .inl rfl
  · exact .inr ⟨b, o, hA, by omega, hc⟩
theorem RowAt.drop {w : World} {B : Nat} {b o : Nat} {xs : List Value} (h : RowAt w B (some ⟨b, o, none⟩) xs) (k : Nat) : RowAt w B (some ⟨b, o + k, none⟩) (xs.drop k) := by
  rcases h with rfl | ⟨b', o', hA, hb, hc⟩
  · exact .inl (by simp)
  · cases hA
    exact .inr ⟨b, o + k, rfl, hb, fun j u hu => by rw [Nat.add_assoc]; exact hc (k + j) u (by rwa [List.getElem?_drop] at hu)⟩

theorem add_zero_addr (g j : Nat) : (⟨g, 0, none⟩ : Addr).add j = ⟨g, 0 + j, none⟩ := by unfold Addr.add; split <;> simp_all
theorem RowAt.of_own {w : World} {base : Nat} {e : TypeId} {A : Option Addr} {n c : Nat} {xs : List Value} (h : w.ownsRow base e 1 (.slice A n c) n xs) : RowAt w w.heap.size A xs := by
  obtain ⟨h1, h2⟩ := h
  rcases h2 with ⟨_, rfl⟩ | ⟨g, cap, cur, hv, hg, hh, hnc, hm, hsz, ht⟩
  · exact .inl (List.eq_nil_of_length_eq_zero (by simpa using h1))
  · injection hv with hA
    refine .inr ⟨g, 0, hA, ?_, fun j u hu => ?_⟩
    · rcases Nat.lt_or_ge g w.heap.size with hlt | hge
      · exact hlt
      · rw [Array.getElem?_eq_none hge] at hh; cases hh
    · have : cur[j]? = some u := by
        rw [← ht, List.getElem?_take] at hu
        split at hu
        · simpa using hu
        · cases hu
      simp [World.cell?, hh, this]

/-- a later world: what was there is there as it was -/
structure Ext (w : World) where
  val : World
  below : Below w.heap.size w val
instance (w : World) : Inhabited (Ext w) := ⟨⟨w, Below.refl _ _⟩⟩
theorem Ext.cell {w : World} (u : Ext w) {b o : Nat} {x : Value} (h : w.cell? ⟨b, o, none⟩ = some x) : u.val.cell? ⟨b, o, none⟩ = some x := by
  have hb : b < w.heap.size := by
    rcases Nat.lt_or_ge b w.heap.size with hlt | hge
    · exact hlt
    · simp [World.cell?, Array.getElem?_eq_none hge] at h
  rw [← h]; exact u.below.cell (p := ⟨b, o, none⟩) hb
theorem RowAt.ext {w : World} {A : Option Addr} {xs : List Value} (h : RowAt w w.heap.size A xs) (u : Ext w) : RowAt u.val u.val.heap.size A xs := (h.below u.below).mono u.below.size
/-- A region that draws its order, whose own operations only read, and whose callees make memory at the most: ONE walk of the text's order. -/
theorem wp_region_ext {P : Program} {id : Nat} {Q : Exit → Act → World → Prop} {a : Act} {w : World} {l : List Oper} (hm : P.follows .mixedOrders = true) (hB : Region.lexB .any l.toArray = true)
    (h : wpQuiet P l.toArray (fun w' => ∃ u : Ext w, w' = u.val) (fun a' => ∀ w', (∃ u : Ext w, w' = u.val) → Q .normal a' w') l a) : (Code.region id l.toArray true).wp P Q a w :=
  wp_region_quiet (C := fun w' => ∃ u : Ext w, w' = u.val) hm hB ⟨⟨w.drew, (Below.refl _ _).drew⟩, rfl⟩ (by simpa using h)
/-- a callee's contract, met in a later world -/
theorem Ext.call {P : Program} {f : FuncId} {args : Array Value} {w : World} {u : Ext w} {v : Value}
    (h : Calls P f args u.val fun e w' => e = .returned v ∧ Below u.val.heap.size u.val w') : Calls P f args u.val fun e w'' => e = .returned v ∧ ∃ u' : Ext w, w'' = u'.val :=
  h.mono fun _ w' ⟨he, hb⟩ => ⟨he, ⟨w', u.below.trans (hb.mono u.below.size)⟩, rfl⟩
theorem Ext.call_same {P : Program} {f : FuncId} {args : Array Value} {w : World} {u : Ext w} {v : Value}
    (h : Calls P f args u.val fun e w' => e = .returned v ∧ u.val = w') : Calls P f args u.val fun e w'' => e = .returned v ∧ ∃ u' : Ext w, w'' = u'.val :=
  h.mono fun _ w' ⟨he, hb⟩ => ⟨he, u, hb.symm⟩
theorem Ext.call_drew {P : Program} {f : FuncId} {args : Array Value} {w : World} {u : Ext w} {v : Value}
    (h : Calls P f args u.val fun e w' => e = .returned v ∧ ∃ k, w' = u.val.drewN k) : Calls P f args u.val fun e w'' => e = .returned v ∧ ∃ u' : Ext w, w'' = u'.val :=
  h.mono fun _ w' ⟨he, k, hk⟩ => ⟨he, ⟨w', by subst hk; exact ⟨u.below.os, u.below.tape, u.below.output, u.below.size, u.below.block⟩⟩, rfl⟩
theorem below_drewN {B : Nat} {a w : World} (h : Below B a w) (n : Nat) : Below B a (w.drewN n) := ⟨h.os, h.tape, h.output, h.size, h.block⟩
/-- a block that is known whole -/
def Blk (w : World) (g : Nat) (t : TypeId) (cs : Array Value) : Prop := w.heap[g]? = some (.cells cs t (0, 0))
theorem Blk.lt {w : World} {g : Nat} {t : TypeId} {cs : Array Value} (h : Blk w g t cs) : g < w.heap.size := by
  rcases Nat.lt_or_ge g w.heap.size with hlt | hge
  · exact hlt
  · unfold Blk at h; rw [Array.getElem?_eq_none hge] at h; cases h
theorem Blk.cell {w : World} {g : Nat} {t : TypeId} {cs : Array Value} (h : Blk w g t cs) (i : Nat) {v : Value} (hv : cs[i]? = some v) : w.cell? ⟨g, i, none⟩ = some v := by
  unfold Blk at h
  simp [World.cell?, h, hv]
theorem Blk.frozen {w : World} {g : Nat} {t : TypeId} {cs : Array Value} (h : Blk w g t cs) (i : Nat) : w.frozen? ⟨g, i, none⟩ = false := by
  unfold Blk at h
  simp [World.frozen?, h]
theorem Blk.new (w : World) (t : TypeId) (cs : Array Value) : Blk (w.alloc (.cells cs t)) w.heap.size t cs := heap_alloc_new w _
theorem Blk.alloc {w : World} {g : Nat} {t : TypeId} {cs : Array Value} (h : Blk w g t cs) (o : Obj) : Blk (w.alloc o) g t cs := (Below.heap_alloc w o g h.lt).trans h
theorem Blk.drew {w : World} {g : Nat} {t : TypeId} {cs : Array Value} (h : Blk w g t cs) : Blk w.drew g t cs := h
theorem Blk.drewN {w : World} {g : Nat} {t : TypeId} {cs : Array Value} (h : Blk w g t cs) (n : Nat) : Blk (w.drewN n) g t cs := h
theorem Blk.set_ {w : World} {g : Nat} {t : TypeId} {cs : Array Value} (h : Blk w g t cs) (i : Nat) (u : Value) : Blk (w.setCell ⟨g, i, none⟩ u) g t (cs.setIfInBounds i u) := by
  unfold Blk at h ⊢
  simp [World.setCell, Array.getElem?_modify, h]
theorem Blk.far {w : World} {g : Nat} {t : TypeId} {cs : Array Value} (h : Blk w g t cs) {p : Addr} (hp : g ≠ p.block) (u : Value) : Blk (w.setCell p u) g t cs := (Below.heap_setCell w p u g hp).trans h
theorem Blk.below {w w' : World} {B g : Nat} {t : TypeId} {cs : Array Value} (h : Blk w g t cs) (hb : Below B w w') (hg : g < B) : Blk w' g t cs := (hb.block g hg).trans h
theorem Blk.grown {w w' : World} {g : Nat} {t : TypeId} {cs : Array Value} {row : Option Nat} (h : Blk w g t cs) (hb : w.grownBy w' row) (hg : some g ≠ row) : Blk w' g t cs := (hb.block g h.lt hg).trans h
/-- only block g has turned, and what is new -/
theorem only_setCell {a w : World} {g : Nat} (h : a.grownBy w (some g)) (i : Nat) (u : Value) : a.grownBy (w.setCell ⟨g, i, none⟩ u) (some g) :=
  ⟨h.os, h.tape, h.output, by simpa [World.setCell] using h.size, fun k hk hne => (Below.heap_setCell w _ u k (by rintro rfl; exact hne rfl)).trans (h.block k hk hne)⟩
theorem only_drew {a w : World} {row : Option Nat} (h : a.grownBy w row) : a.grownBy w.drew row := ⟨h.os, h.tape, h.output, h.size, h.block⟩
theorem only_drewN {a w : World} {row : Option Nat} (h : a.grownBy w row) (n : Nat) : a.grownBy (w.drewN n) row := ⟨h.os, h.tape, h.output, h.size, h.block⟩
/-- a row of one's own, in a later world -/
theorem own_below {w w' : World} {base : Nat} {e : TypeId} {size : Nat} {v : Value} {n : Nat} {xs : List Value} (h : w.ownsRow base e size v n xs) (hb : Below w.heap.size w w') : w'.ownsRow base e size v n xs := by
  obtain ⟨h1, h2⟩ := h
  refine ⟨h1, ?_⟩
  rcases h2 with h2 | ⟨g, cap, cur, hv, hg, hh, r⟩
  · exact .inl h2
  · refine .inr ⟨g, cap, cur, hv, hg, ?_, r⟩
    have hlt : g < w.heap.size := by
      rcases Nat.lt_or_ge g w.heap.size with hlt | hge
      · exact hlt
      · rw [Array.getElem?_eq_none hge] at hh; cases hh
    rw [hb.block g hlt]; exact hh
theorem own_row {w : World} {base : Nat} {e : TypeId} {size : Nat} {v : Value} {n : Nat} {xs : List Value} (h : w.ownsRow base e size v n xs) : ∀ k, v.ownBlock = some k → base ≤ k := by
  intro k hk
  rcases h.2 with ⟨rfl, _⟩ | ⟨g, cap, cur, rfl, hg, _⟩
  · simp [Value.ownBlock] at hk
  · simp [Value.ownBlock] at hk; omega
/-- the one row that an append may write is no other block -/
theorem own_ne {w : World} {base : Nat} {e t : TypeId} {size : Nat} {v : Value} {n : Nat} {xs : List Value} {g : Nat} {cs : Array Value} (h : w.ownsRow base e size v n xs) (hg : Blk w g t cs) (hne : e ≠ t) : some g ≠ v.ownBlock := by
  rcases h.2 with ⟨rfl, _⟩ | ⟨g', cap, cur, rfl, _, hh, _⟩
  · simp [Value.ownBlock]
  · intro he
    have : g' = g := by simpa [Value.ownBlock] using he.symm
    subst this
    unfold Blk at hg
    rw [hg] at hh
    injection hh with hh
    injection hh with _ ht
    exact hne ht.symm
/-- a quiet callee behind a quiet region -/
theorem quiet_add_left {P : Program} {f : FuncId} {args : Array Value} {w : World} {a n : Nat} {v : Value}
    (h : Calls P f args (w.drewN (a + n)) fun e w' => e = .returned v ∧ w.drewN (a + n) = w') :
    Calls P f args (w.drewN (a + n)) fun e w'' => e = .returned v ∧ ∃ m, w'' = w.drewN (a + m) :=
  h.mono fun _ _ ⟨he, hm⟩ => ⟨he, n, hm.symm⟩
theorem str_eq (a : ByteArray) : (!a.toList == a.toList) = false := by simp
theorem str_ne {a b : ByteArray} (h : a ≠ b) : (!a.toList == b.toList) = true := by
  simp only [Bool.not_eq_true', beq_eq_false_iff_ne]
  intro e
  rw [Lib.toList_data, Lib.toList_data] at e
  exact h (WideShapes.bytes_inj e)
end Go.Proofs.YtcjakmnplkeldaaDoor
