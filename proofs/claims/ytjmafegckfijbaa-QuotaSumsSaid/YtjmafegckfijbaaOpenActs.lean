/-
  Acts among the arguments.
-/
import Derived.Test.YtjmafegckfijbaaInfra
namespace Go.Proofs.Ytjmafegckfijbaa
open Go.ChangeShapes Go.WideShapes Go.ChangeAt Go.RowKit
set_option linter.unusedVariables false
set_option linter.unusedSimpArgs false
set_option maxRecDepth 100000
/-- what is done with an inode -/
structure ActV where
  kind : Int
  num : Int
  off : Int
  data : ByteArray
def actL (a : ActV) : List Value := [.int .i64 a.kind, .int .i64 a.num, .int .i64 a.off, .string a.data]
def actC (a : ActV) : Array Value := #[.int .i64 a.kind, .int .i64 a.num, .int .i64 a.off, .string a.data]
/-- an act as it comes: its numbers are of 64 bits, its string is no longer than any -/
def ActOk (a : ActV) : Prop := (-9223372036854775808 ≤ a.num ∧ a.num ≤ 9223372036854775807) ∧ (-9223372036854775808 ≤ a.off ∧ a.off ≤ 9223372036854775807)
/-- acts stand from the address on, in a block below B -/
def ActsAt (w : World) (B : Nat) (A : Option Addr) (l : List ActV) : Prop :=
  l = [] ∨ ∃ b o, A = some ⟨b, o, none⟩ ∧ b < B ∧ ∀ j a, l[j]? = some a → ∀ i u, (actL a)[i]? = some u → w.cell? ⟨b, o + (j * 4 + i), none⟩ = some u
theorem ActsAt.below {w w' : World} {B : Nat} {A : Option Addr} {l : List ActV} (h : ActsAt w B A l) (hb : Below B w w') : ActsAt w' B A l := by
  rcases h with rfl | ⟨b, o, hA, hlt, hc⟩
  · exact .inl rfl
  · exact .inr ⟨b, o, hA, hlt, fun j a hj i u hu => (hb.cell (p := ⟨b, _, none⟩) hlt).trans (hc j a hj i u hu)⟩
theorem ActsAt.mono {w : World} {B B' : Nat} {A : Option Addr} {l : List ActV} (h : ActsAt w B A l) (hB : B ≤ B') : ActsAt w B' A l := by
  rcases h with rfl | ⟨b, o, hA, hlt, hc⟩
  · exact .inl rfl
  · exact .inr ⟨b, o, hA, by omega, hc⟩
theorem actCells : Try.prog.cellsOf 55 = 4 := by kernel_rfl
theorem strCellsA : Try.prog.cellsOf 9 = 1 := by kernel_rfl
theorem i64CellsA : Try.prog.cellsOf 3 = 1 := by kernel_rfl
theorem weightsEach_mem {H : Type} {P : Program} : ∀ {ts : List TypeId} {l : List (DataW H)} {i : Nat} {t : TypeId} {d : DataW H}, ts[i]? = some t → l[i]? = some d → ∀ n ∈ d.weights P t, n ∈ DataW.weightsEach P ts l
  | t' :: ts, d' :: r, 0, t, d, h1, h2, n, hn => by
    simp only [List.getElem?_cons_zero, Option.some.injEq] at h1 h2
    subst h1; subst h2
    simp only [DataW.weightsEach, List.mem_append]
    exact .inl hn
  | t' :: ts, d' :: r, i + 1, t, d, h1, h2, n, hn => by
    simp only [List.getElem?_cons_succ] at h1 h2
    simp only [DataW.weightsEach, List.mem_append]
    exact .inr (weightsEach_mem h1 h2 n hn)
  | [], _, i, _, _, h1, _, _, _ => by simp at h1
  | _ :: _, [], i, _, _, _, h2, _, _ => by simp at h2
theorem act_of {H : Type} {enc : TypeId × Value → H} {W : World} {base : Nat} {spare : Nat → Bool} {held : Bool} {fuel : Nat} {cs : List Value} {x : DataW H × List MemPlace}
    (h : DataW.trod enc Try.prog W base spare held fuel 55 cs = some x) : ∃ a : ActV, cs = actL a ∧ ActOk a ∧ a.data.size ∈ x.1.weights Try.prog 55 := by
  obtain ⟨xs, n, rfl, rfl, hl, hn, hf⟩ := DataW.trod_struct Try.underlying55 h
  rw [actCells] at hl
  have h0 := hf 0 _ rfl
  have h1 := hf 1 _ rfl
  have h2 := hf 2 _ rfl
  have h3 := hf 3 _ rfl
  have hn4 : xs.length = 4 := hn
  match xs, hn4, cs, hl with
  | [x0, x1, x2, x3], _, [c0, c1, c2, c3], _ =>
    obtain ⟨z0, e0, _, _⟩ := DataW.trod_int Try.underlying3 h0
    obtain ⟨z1, e1, _, w1⟩ := DataW.trod_int Try.underlying3 h1
    obtain ⟨z2, e2, _, w2⟩ := DataW.trod_int Try.underlying3 h2
    obtain ⟨s, e3, g3, w3⟩ := DataW.trod_string Try.underlying9 h3
    replace e0 : ([c0, c1, c2, c3].drop 0).take (Try.prog.cellsOf 3) = [.int .i64 z0] := e0
    replace e1 : ([c0, c1, c2, c3].drop 1).take (Try.prog.cellsOf 3) = [.int .i64 z1] := e1
    replace e2 : ([c0, c1, c2, c3].drop 2).take (Try.prog.cellsOf 3) = [.int .i64 z2] := e2
    replace e3 : ([c0, c1, c2, c3].drop 3).take (Try.prog.cellsOf 9) = [.string s] := e3
    rw [i64CellsA] at e0 e1 e2
    rw [strCellsA] at e3
    simp only [List.drop_succ_cons, List.drop_zero, List.take_succ_cons, List.take_zero, List.cons.injEq, and_true] at e0 e1 e2 e3
    subst e0; subst e1; subst e2; subst e3
    refine ⟨⟨z0, z1, z2, s⟩, rfl, ⟨wf_i64 w1, wf_i64 w2⟩, ?_⟩
    simp only [DataW.weights, Try.underlying55]
    refine weightsEach_mem (i := 3) (d := x3.1) rfl rfl _ ?_
    rw [g3]
    simp only [DataW.weights, List.mem_singleton]
    rw [Array.length_toList]; rfl
theorem open_acts {H : Type} {enc : TypeId × Value → H} {W : World} {r : Reach} {b0 : Nat} {v : Value} {d : DataW H} {ps : List MemPlace}
    (hv : Value.okWide Try.prog W r b0 52 v) (h : DataW.Trod enc Try.prog W 0 (fun _ => true) true 52 v d ps) :
    ∃ A c l, v = .slice A (List.length l) c ∧ ActsAt W W.heap.size A l ∧ l.length ≤ maxLen ∧ ∀ a ∈ l, ActOk a ∧ a.data.size ∈ d.weights Try.prog 52 := by
  obtain ⟨a, len, cap, rfl⟩ := okWide_slice Try.underlying52 hv
  obtain ⟨fuel, hf⟩ := h
  rcases DataW.trod_slice Try.underlying52 hf with ⟨hcs, hx⟩ | ⟨a', len', cap', elems, rest, n, _, hcs, hx, hb, hl, hm, hlen, hel, hsp, hns⟩
  · simp [Value.cells] at hcs
    obtain ⟨rfl, rfl, rfl⟩ := hcs
    exact ⟨none, 0, [], rfl, .inl rfl, Nat.zero_le _, fun s hs => by cases hs⟩
  · simp [Value.cells] at hcs
    obtain ⟨rfl, rfl, rfl⟩ := hcs
    have each : ∀ i, i < len → ∃ (x : ActV) (y : DataW H × List MemPlace), elems[i]? = some y ∧ ActOk x ∧ x.data.size ∈ y.1.weights Try.prog 55 ∧ ∀ k u, (actL x)[k]? = some u → W.cell? ((a'.add (i * 4)).add k) = some u := fun i hi => by
      have e := hel i hi
      rw [List.getElem?_eq_getElem (by omega), actCells, Option.bind_eq_some_iff] at e
      obtain ⟨cs, h1, h2⟩ := e
      obtain ⟨_, c2, c3⟩ := World.cells?_some h1
      obtain ⟨x, rfl, ok, hw⟩ := act_of h2
      refine ⟨x, elems[i], by rw [List.getElem?_eq_getElem (by omega)], ok, hw, fun k u hu => ?_⟩
      have hk : k < 4 := (List.getElem?_eq_some_iff.1 hu).1
      rw [c3 k hk]; exact hu
    obtain ⟨l, hll, hl2⟩ : ∃ l : List ActV, l.length = len ∧ ∀ i x, l[i]? = some x → ∃ y : DataW H × List MemPlace, elems[i]? = some y ∧ ActOk x ∧ x.data.size ∈ y.1.weights Try.prog 55 ∧ ∀ k u, (actL x)[k]? = some u → W.cell? ((a'.add (i * 4)).add k) = some u := by
      have key : ∀ i : Fin len, ∃ x : ActV, ∃ y : DataW H × List MemPlace, elems[i.1]? = some y ∧ ActOk x ∧ x.data.size ∈ y.1.weights Try.prog 55 ∧ ∀ k u, (actL x)[k]? = some u → W.cell? ((a'.add (i.1 * 4)).add k) = some u := fun i => each i.1 i.2
      refine ⟨List.ofFn fun i => Classical.choose (key i), by simp, fun i x hx => ?_⟩
      have hi : i < len := by have := (List.getElem?_eq_some_iff.1 hx).1; simpa using this
      rw [List.getElem?_ofFn, dif_pos hi] at hx
      obtain rfl := Option.some.inj hx
      exact Classical.choose_spec (key ⟨i, hi⟩)
    refine ⟨some a', cap, l, by rw [hll], ?_, by omega, fun x hx0 => ?_⟩
    · by_cases hl0 : len = 0
      · left; exact List.eq_nil_of_length_eq_zero (by omega)
      · obtain ⟨b, o, spot⟩ := a'
        have h0 : ∃ x, l[0]? = some x := ⟨l[0], List.getElem?_eq_getElem (by omega)⟩
        obtain ⟨x, hx1⟩ := h0
        obtain ⟨y, _, _, _, hcell⟩ := hl2 0 x hx1
        have hc0 := hcell 0 _ rfl
        have hspot : spot = none := by simpa [Addr.add] using World.cell?_spot hc0
        subst hspot
        have ea1 : ∀ o j : Nat, (⟨b, o, none⟩ : Addr).add j = ⟨b, o + j, none⟩ := fun o j => by unfold Addr.add; split <;> simp_all
        have ea : ∀ j k : Nat, ((⟨b, o, none⟩ : Addr).add (j * 4)).add k = ⟨b, o + (j * 4 + k), none⟩ := fun j k => by rw [ea1, ea1, Nat.add_assoc]
        rw [ea] at hc0
        refine .inr ⟨b, o, rfl, block_of_cell hc0, fun j z hj k u hu => ?_⟩
        obtain ⟨y, _, _, _, hcj⟩ := hl2 j z hj
        have := hcj k u hu
        rw [ea] at this; exact this
    · obtain ⟨i, hi⟩ := List.getElem?_of_mem hx0
      obtain ⟨y, hy, ok, hw, _⟩ := hl2 i x hi
      refine ⟨ok, ?_⟩
      simp only [Prod.mk.injEq] at hx
      obtain ⟨rfl, rfl⟩ := hx
      simp only [DataW.weights, Try.underlying52]
      exact List.mem_cons_of_mem _ (List.mem_append_left _ (weightsAll_mem (List.mem_map.2 ⟨y, List.mem_of_getElem? hy, rfl⟩) _ hw))
end Go.Proofs.Ytjmafegckfijbaa
