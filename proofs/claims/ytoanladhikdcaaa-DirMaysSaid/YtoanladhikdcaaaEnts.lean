/-
  Rows of entries in memory.
-/
import Derived.Test.YtoanladhikdcaaaDirPl
import Derived.Deep.MidRow
namespace Go.Proofs.Ytoanladhikdcaaa
open Go.RowKit
set_option linter.unusedVariables false
set_option linter.unusedSimpArgs false
set_option maxRecDepth 100000
theorem RowAt.of_own_k {w : World} {base k : Nat} {e : TypeId} {A : Option Addr} {n c : Nat} {xs : List Value} (h : w.ownsRow base e k (.slice A n c) n xs) : RowAt w w.heap.size A xs := by
  obtain ⟨h1, h2⟩ := h
  rcases h2 with ⟨_, rfl⟩ | ⟨g, cap, cur, hv, hg, hh, hnc, hm, hsz, ht⟩
  · exact .inl (List.eq_nil_of_length_eq_zero (by simpa using h1))
  · injection hv with hA
    refine .inr ⟨g, 0, hA, ?_, fun j u hu => ?_⟩
    · rcases Nat.lt_or_ge g w.heap.size with hlt | hge
      · exact hlt
      · rw [Array.getElem?_eq_none hge] at hh; cases hh
    · have : cur[j]? = some u := by
        rw [← ht, List.getElem?_take] at hu
        split at hu
        · simpa using hu
        · cases hu
      simp [World.cell?, hh, this]
theorem entC_app (k l : List EntV) : entC (k ++ l) = entC k ++ entC l := by unfold entC; simp
theorem entC_get : ∀ {l : List EntV} {k : Nat} (hk : k < l.length), (entC l)[k * 2]? = some (.string l[k].name) ∧ (entC l)[k * 2 + 1]? = some (.int .i64 l[k].ino)
  | [], k, hk => absurd hk (Nat.not_lt_zero _)
  | x :: l, 0, _ => ⟨rfl, rfl⟩
  | x :: l, k + 1, hk => by
    have e : entC (x :: l) = .string x.name :: .int .i64 x.ino :: entC l := rfl
    have := entC_get (l := l) (k := k) (by simpa using hk)
    rw [e, show (k + 1) * 2 = k * 2 + 1 + 1 by omega]
    exact this
theorem entC_take : ∀ (l : List EntV) (k : Nat), (entC l).take (k * 2) = entC (l.take k)
  | _, 0 => by simp [entC]
  | [], k + 1 => by simp [entC]
  | x :: l, k + 1 => by
    show (Value.string x.name :: Value.int .i64 x.ino :: entC l).take ((k + 1) * 2) = Value.string x.name :: Value.int .i64 x.ino :: entC (l.take k)
    rw [show (k + 1) * 2 = k * 2 + 1 + 1 by omega, List.take_succ_cons, List.take_succ_cons, entC_take l k]
theorem entC_drop : ∀ (l : List EntV) (k : Nat), (entC l).drop (k * 2) = entC (l.drop k)
  | _, 0 => by simp
  | [], k + 1 => by simp [entC]
  | x :: l, k + 1 => by
    show (Value.string x.name :: Value.int .i64 x.ino :: entC l).drop ((k + 1) * 2) = entC (l.drop k)
    rw [show (k + 1) * 2 = k * 2 + 1 + 1 by omega, List.drop_succ_cons, List.drop_succ_cons, entC_drop l k]
theorem entC_one (l : List EntV) : ∀ u ∈ entC l, u.oneCell' = true := fun u hu => by
  unfold entC at hu
  obtain ⟨x, _, hx⟩ := List.mem_flatMap.1 hu
  rcases List.mem_cons.1 hx with rfl | hx
  · rfl
  · rcases List.mem_cons.1 hx with rfl | hx
    · rfl
    · cases hx
/-- entries stand from the address on -/
def EntsAt (w : World) (B : Nat) (A : Option Addr) (l : List EntV) : Prop := RowAt w B A (entC l)
theorem EntsAt.below {w w' : World} {B : Nat} {A : Option Addr} {l : List EntV} (h : EntsAt w B A l) (hb : Below B w w') : EntsAt w' B A l := RowAt.below h hb
theorem EntsAt.mono {w : World} {B B' : Nat} {A : Option Addr} {l : List EntV} (h : EntsAt w B A l) (hB : B ≤ B') : EntsAt w B' A l := RowAt.mono h hB
theorem EntsAt.get {w : World} {B : Nat} {A : Option Addr} {l : List EntV} (h : EntsAt w B A l) {k : Nat} (hk : k < l.length) :
    ∃ b o, A = some ⟨b, o, none⟩ ∧ b < B ∧ w.rangeAt b (o + k * 2) [.string l[k].name, .int .i64 l[k].ino] := by
  obtain ⟨b, o, hA, hb, hc⟩ := RowAt.at_ h (by rw [entC_len]; omega)
  have g := entC_get hk
  refine ⟨b, o, hA, hb, fun j u hu => ?_⟩
  match j, hu with
  | 0, hu => cases hu; rw [Nat.add_zero]; exact hc _ _ g.1
  | 1, hu => cases hu; rw [Nat.add_assoc]; exact hc _ _ g.2
  | j + 2, hu => simp at hu
/-- the whole row, if there is one -/
theorem EntsAt.some {w : World} {B : Nat} {A : Option Addr} {l : List EntV} (h : EntsAt w B A l) (h0 : 0 < l.length) :
    ∃ b o, A = some ⟨b, o, none⟩ ∧ b < B ∧ ∀ j u, (entC l)[j]? = some u → w.cell? ⟨b, o + j, none⟩ = some u := RowAt.at_ h (by rw [entC_len]; omega)
/-- a row of one's own -/
def OwnEnts (l : List EntV) (w : World) (v : Value) (w' : World) : Prop := w'.ownsRow w.heap.size 35 2 v l.length (entC l)
theorem OwnEnts.read {l : List EntV} {w w' : World} {v : Value} (h : OwnEnts l w v w') : ∃ A c, v = .slice A l.length c ∧ EntsAt w' w'.heap.size A l := by
  have h2 := h
  obtain ⟨h1, h3⟩ := h2
  rcases h3 with ⟨hv, hn⟩ | ⟨g, cap, cur, hv, hg, hh, hnc, hm, hsz, ht⟩
  · refine ⟨none, 0, by rw [hv, hn], ?_⟩
    have : l = [] := List.eq_nil_of_length_eq_zero hn
    subst this
    exact RowAt.nil
  · subst hv
    exact ⟨_, _, rfl, RowAt.of_own_k h⟩
theorem ent_info : (Try.prog.info? 35).map (fun i => (i.zero, i.size, i.bytes)) = some (some (.agg #[.string ⟨#[]⟩, .int .i64 0]), 2, 24) := by kernel_rfl
end Go.Proofs.Ytoanladhikdcaaa
