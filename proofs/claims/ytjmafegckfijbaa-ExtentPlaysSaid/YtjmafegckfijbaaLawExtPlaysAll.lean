/-
  Joined in one text: Same19, OpenActs, LaidPl, FixAl, Fixed, Laid, LawExtPlays.
-/
import Derived.Test.YtjmafegckfijbaaLaw18
import Derived.Test.YtjmafegckfijbaaInfra
import Derived.Test.YtjmafegckfijbaaExtSnd
import Derived.Test.YtjmafegckfijbaaQuoA
import Derived.Test.YtjmafegckfijbaaExtW
import Derived.Test.YtjmafegckfijbaaExtBl
import Derived.Test.YtjmafegckfijbaaInoC
import Derived.Test.YtjmafegckfijbaaExtRd
import Derived.Test.YtjmafegckfijbaaExtT
import Derived.Test.YtjmafegckfijbaaRCutAll
import Derived.Test.YtjmafegckfijbaaRWriAll
import Derived.BigQuiet
namespace Go.Proofs.Ytjmafegckfijbaa
open Go.RowKit
set_option linter.unusedVariables false
set_option linter.unusedSimpArgs false
set_option maxRecDepth 100000
set_option maxHeartbeats 1000000 in
theorem same19_any (A B : Option Addr) (c d : Nat) (xs ys : List ByteArray) (w : World) (hx : xs.length ≤ maxLen) (hy : ys.length ≤ maxLen)
   (ha : RowAt w w.heap.size A (xs.map .string)) (hb : RowAt w w.heap.size B (ys.map .string)) :
    Calls Try.prog 40 #[.slice A xs.length c, .slice B ys.length d] w fun e w' => e = .returned (.bool (eqL xs ys)) ∧ ∃ k, w' = w.drewN k := by
  unfold maxLen at hx hy
  have HA := Lib.hid ha
  have HB := Lib.hid hb
  clear ha hb
  by_cases hl : xs.length = ys.length
  · have hl1 : (((xs.length : Nat) : Int) != ((ys.length : Nat) : Int)) = false := by simp [hl]
    have HL := Lib.hid hl
    clear hl
    go_enter Try.func40, Try.ntmps40
    go_wp2
    go_loopw [4, 5] (fun r i wr => ∃ k : Nat, k ≤ xs.length ∧ i = .int .i64 k ∧ r = .bool false ∧ (∀ j < k, xs[j]? = ys[j]?) ∧ ∃ q, wr = w.drewN q) (fun _ i _ => xs.length - (intOf i).toNat)
    case atStart => exact ⟨0, Nat.zero_le _, rfl, rfl, fun j hj => by omega, 0, rfl⟩
    case round =>
      obtain ⟨k, hk, rfl, rfl, hE, q, rfl⟩ := hrel
      have HE := Lib.hid hE
      clear hE
      by_cases hlt : k < xs.length
      · have hlt2 : k < ys.length := by have := HL.out; omega
        obtain ⟨b1, o1, rfl, hb1, hc1⟩ := HA.out.at_ (by simpa using (by omega))
        obtain ⟨b2, o2, rfl, hb2, hc2⟩ := HB.out.at_ (by simpa using (by omega))
        have g1 : w.cell? ⟨b1, o1 + k, none⟩ = some (.string xs[k]) := hc1 k _ (by simp [hlt])
        have g2 : w.cell? ⟨b2, o2 + k, none⟩ = some (.string ys[k]) := hc2 k _ (by simp [hlt2])
        clear hc1 hc2
        by_cases he : xs[k] = ys[k]
        · have HX := Lib.hid he
          have h1 : (!xs[k].toList == ys[k].toList) = false := by rw [he]; exact str_eq _
          clear he
          go_wp2
          go_quiet (fail)
          go_wp2
          go_roundw
          case rel => exact ⟨k + 1, by omega, by go_num, rfl, fun j hj => by
            rcases Nat.lt_succ_iff_lt_or_eq.1 hj with h | rfl
            · exact HE.out j h
            · rw [List.getElem?_eq_getElem hlt, List.getElem?_eq_getElem hlt2, HX.out], _, rfl⟩
          case measure => simp [intOf]; omega
        · have HX := Lib.hid he
          have h1 : (!xs[k].toList == ys[k].toList) = true := str_ne he
          clear he
          go_wp2
          go_quiet (fail)
          go_wp2
          go_ret
          exact ⟨ret_bool (by unfold eqL; symm; rw [decide_eq_false_iff_not]; intro h; subst h; exact HX.out rfl), q + nq, by rw [World.drewN_drewN]⟩
      · go_wp2
        go_ret
        exact ⟨ret_bool (by
          unfold eqL; symm; rw [decide_eq_true_iff]
          refine List.ext_getElem? fun j => ?_
          by_cases hj : j < k
          · exact HE.out j hj
          · rw [List.getElem?_eq_none (by omega), List.getElem?_eq_none (by have := HL.out; omega)]), _, rfl⟩
  · have hl1 : (((xs.length : Nat) : Int) != ((ys.length : Nat) : Int)) = true := by simp; omega
    have HL := Lib.hid hl
    clear hl
    go_enter Try.func40, Try.ntmps40
    go_wp2
    go_ret
    exact ⟨ret_bool (by unfold eqL; symm; rw [decide_eq_false_iff_not]; intro h; exact HL.out (by rw [h])), 0, rfl⟩
theorem same19_below (A B : Option Addr) (c d : Nat) (xs ys : List ByteArray) (w : World) (hx : xs.length ≤ maxLen) (hy : ys.length ≤ maxLen)
   (ha : RowAt w w.heap.size A (xs.map .string)) (hb : RowAt w w.heap.size B (ys.map .string)) :
    Calls Try.prog 40 #[.slice A xs.length c, .slice B ys.length d] w fun e w' => e = .returned (.bool (eqL xs ys)) ∧ Below w.heap.size w w' :=
  (same19_any A B c d xs ys w hx hy ha hb).mono fun e w' ⟨h, k, hk⟩ => ⟨h, hk ▸ below_drewN (Below.refl _ _) k⟩
end Go.Proofs.Ytjmafegckfijbaa

namespace Go.Proofs.Ytjmafegckfijbaa
open Go.ChangeShapes Go.WideShapes Go.ChangeAt Go.RowKit
set_option linter.unusedVariables false
set_option linter.unusedSimpArgs false
set_option maxRecDepth 100000
/-- what is done with an inode -/
structure ActV where
  kind : Int
  num : Int
  off : Int
  data : ByteArray
def actL (a : ActV) : List Value := [.int .i64 a.kind, .int .i64 a.num, .int .i64 a.off, .string a.data]
def actC (a : ActV) : Array Value := #[.int .i64 a.kind, .int .i64 a.num, .int .i64 a.off, .string a.data]
/-- an act as it comes: its numbers are of 64 bits, its string is no longer than any -/
def ActOk (a : ActV) : Prop := (-9223372036854775808 ≤ a.num ∧ a.num ≤ 9223372036854775807) ∧ (-9223372036854775808 ≤ a.off ∧ a.off ≤ 9223372036854775807)
/-- acts stand from the address on, in a block below B -/
def ActsAt (w : World) (B : Nat) (A : Option Addr) (l : List ActV) : Prop :=
  l = [] ∨ ∃ b o, A = some ⟨b, o, none⟩ ∧ b < B ∧ ∀ j a, l[j]? = some a → ∀ i u, (actL a)[i]? = some u → w.cell? ⟨b, o + (j * 4 + i), none⟩ = some u
theorem ActsAt.below {w w' : World} {B : Nat} {A : Option Addr} {l : List ActV} (h : ActsAt w B A l) (hb : Below B w w') : ActsAt w' B A l := by
  rcases h with rfl | ⟨b, o, hA, hlt, hc⟩
  · exact .inl rfl
  · exact .inr ⟨b, o, hA, hlt, fun j a hj i u hu => (hb.cell (p := ⟨b, _, none⟩) hlt).trans (hc j a hj i u hu)⟩
theorem ActsAt.mono {w : World} {B B' : Nat} {A : Option Addr} {l : List ActV} (h : ActsAt w B A l) (hB : B ≤ B') : ActsAt w B' A l := by
  rcases h with rfl | ⟨b, o, hA, hlt, hc⟩
  · exact .inl rfl
  · exact .inr ⟨b, o, hA, by omega, hc⟩
theorem actCells : Try.prog.cellsOf 55 = 4 := by kernel_rfl
theorem strCellsA : Try.prog.cellsOf 9 = 1 := by kernel_rfl
theorem i64CellsA : Try.prog.cellsOf 3 = 1 := by kernel_rfl
theorem weightsEach_mem {H : Type} {P : Program} : ∀ {ts : List TypeId} {l : List (DataW H)} {i : Nat} {t : TypeId} {d : DataW H}, ts[i]? = some t → l[i]? = some d → ∀ n ∈ d.weights P t, n ∈ DataW.weightsEach P ts l
  | t' :: ts, d' :: r, 0, t, d, h1, h2, n, hn => by
    simp only [List.getElem?_cons_zero, Option.some.injEq] at h1 h2
    subst h1; subst h2
    simp only [DataW.weightsEach, List.mem_append]
    exact .inl hn
  | t' :: ts, d' :: r, i + 1, t, d, h1, h2, n, hn => by
    simp only [List.getElem?_cons_succ] at h1 h2
    simp only [DataW.weightsEach, List.mem_append]
    exact .inr (weightsEach_mem h1 h2 n hn)
  | [], _, i, _, _, h1, _, _, _ => by simp at h1
  | _ :: _, [], i, _, _, _, h2, _, _ => by simp at h2
theorem act_of {H : Type} {enc : TypeId × Value → H} {W : World} {base : Nat} {spare : Nat → Bool} {held : Bool} {fuel : Nat} {cs : List Value} {x : DataW H × List MemPlace}
    (h : DataW.trod enc Try.prog W base spare held fuel 55 cs = some x) : ∃ a : ActV, cs = actL a ∧ ActOk a ∧ a.data.size ∈ x.1.weights Try.prog 55 := by
  obtain ⟨xs, n, rfl, rfl, hl, hn, hf⟩ := DataW.trod_struct Try.underlying55 h
  rw [actCells] at hl
  have h0 := hf 0 _ rfl
  have h1 := hf 1 _ rfl
  have h2 := hf 2 _ rfl
  have h3 := hf 3 _ rfl
  have hn4 : xs.length = 4 := hn
  match xs, hn4, cs, hl with
  | [x0, x1, x2, x3], _, [c0, c1, c2, c3], _ =>
    obtain ⟨z0, e0, _, _⟩ := DataW.trod_int Try.underlying3 h0
    obtain ⟨z1, e1, _, w1⟩ := DataW.trod_int Try.underlying3 h1
    obtain ⟨z2, e2, _, w2⟩ := DataW.trod_int Try.underlying3 h2
    obtain ⟨s, e3, g3, w3⟩ := DataW.trod_string Try.underlying9 h3
    replace e0 : ([c0, c1, c2, c3].drop 0).take (Try.prog.cellsOf 3) = [.int .i64 z0] := e0
    replace e1 : ([c0, c1, c2, c3].drop 1).take (Try.prog.cellsOf 3) = [.int .i64 z1] := e1
    replace e2 : ([c0, c1, c2, c3].drop 2).take (Try.prog.cellsOf 3) = [.int .i64 z2] := e2
    replace e3 : ([c0, c1, c2, c3].drop 3).take (Try.prog.cellsOf 9) = [.string s] := e3
    rw [i64CellsA] at e0 e1 e2
    rw [strCellsA] at e3
    simp only [List.drop_succ_cons, List.drop_zero, List.take_succ_cons, List.take_zero, List.cons.injEq, and_true] at e0 e1 e2 e3
    subst e0; subst e1; subst e2; subst e3
    refine ⟨⟨z0, z1, z2, s⟩, rfl, ⟨wf_i64 w1, wf_i64 w2⟩, ?_⟩
    simp only [DataW.weights, Try.underlying55]
    refine weightsEach_mem (i := 3) (d := x3.1) rfl rfl _ ?_
    rw [g3]
    simp only [DataW.weights, List.mem_singleton]
    rw [Array.length_toList]; rfl
theorem open_acts {H : Type} {enc : TypeId × Value → H} {W : World} {r : Reach} {b0 : Nat} {v : Value} {d : DataW H} {ps : List MemPlace}
    (hv : Value.okWide Try.prog W r b0 52 v) (h : DataW.Trod enc Try.prog W 0 (fun _ => true) true 52 v d ps) :
    ∃ A c l, v = .slice A (List.length l) c ∧ ActsAt W W.heap.size A l ∧ l.length ≤ maxLen ∧ ∀ a ∈ l, ActOk a ∧ a.data.size ∈ d.weights Try.prog 52 := by
  obtain ⟨a, len, cap, rfl⟩ := okWide_slice Try.underlying52 hv
  obtain ⟨fuel, hf⟩ := h
  rcases DataW.trod_slice Try.underlying52 hf with ⟨hcs, hx⟩ | ⟨a', len', cap', elems, rest, n, _, hcs, hx, hb, hl, hm, hlen, hel, hsp, hns⟩
  · simp [Value.cells] at hcs
    obtain ⟨rfl, rfl, rfl⟩ := hcs
    exact ⟨none, 0, [], rfl, .inl rfl, Nat.zero_le _, fun s hs => by cases hs⟩
  · simp [Value.cells] at hcs
    obtain ⟨rfl, rfl, rfl⟩ := hcs
    have each : ∀ i, i < len → ∃ (x : ActV) (y : DataW H × List MemPlace), elems[i]? = some y ∧ ActOk x ∧ x.data.size ∈ y.1.weights Try.prog 55 ∧ ∀ k u, (actL x)[k]? = some u → W.cell? ((a'.add (i * 4)).add k) = some u := fun i hi => by
      have e := hel i hi
      rw [List.getElem?_eq_getElem (by omega), actCells, Option.bind_eq_some_iff] at e
      obtain ⟨cs, h1, h2⟩ := e
      obtain ⟨_, c2, c3⟩ := World.cells?_some h1
      obtain ⟨x, rfl, ok, hw⟩ := act_of h2
      refine ⟨x, elems[i], by rw [List.getElem?_eq_getElem (by omega)], ok, hw, fun k u hu => ?_⟩
      have hk : k < 4 := (List.getElem?_eq_some_iff.1 hu).1
      rw [c3 k hk]; exact hu
    obtain ⟨l, hll, hl2⟩ : ∃ l : List ActV, l.length = len ∧ ∀ i x, l[i]? = some x → ∃ y : DataW H × List MemPlace, elems[i]? = some y ∧ ActOk x ∧ x.data.size ∈ y.1.weights Try.prog 55 ∧ ∀ k u, (actL x)[k]? = some u → W.cell? ((a'.add (i * 4)).add k) = some u := by
      have key : ∀ i : Fin len, ∃ x : ActV, ∃ y : DataW H × List MemPlace, elems[i.1]? = some y ∧ ActOk x ∧ x.data.size ∈ y.1.weights Try.prog 55 ∧ ∀ k u, (actL x)[k]? = some u → W.cell? ((a'.add (i.1 * 4)).add k) = some u := fun i => each i.1 i.2
      refine ⟨List.ofFn fun i => Classical.choose (key i), by simp, fun i x hx => ?_⟩
      have hi : i < len := by have := (List.getElem?_eq_some_iff.1 hx).1; simpa using this
      rw [List.getElem?_ofFn, dif_pos hi] at hx
      obtain rfl := Option.some.inj hx
      exact Classical.choose_spec (key ⟨i, hi⟩)
    refine ⟨some a', cap, l, by rw [hll], ?_, by omega, fun x hx0 => ?_⟩
    · by_cases hl0 : len = 0
      · left; exact List.eq_nil_of_length_eq_zero (by omega)
      · obtain ⟨b, o, spot⟩ := a'
        have h0 : ∃ x, l[0]? = some x := ⟨l[0], List.getElem?_eq_getElem (by omega)⟩
        obtain ⟨x, hx1⟩ := h0
        obtain ⟨y, _, _, _, hcell⟩ := hl2 0 x hx1
        have hc0 := hcell 0 _ rfl
        have hspot : spot = none := by simpa [Addr.add] using World.cell?_spot hc0
        subst hspot
        have ea1 : ∀ o j : Nat, (⟨b, o, none⟩ : Addr).add j = ⟨b, o + j, none⟩ := fun o j => by unfold Addr.add; split <;> simp_all
        have ea : ∀ j k : Nat, ((⟨b, o, none⟩ : Addr).add (j * 4)).add k = ⟨b, o + (j * 4 + k), none⟩ := fun j k => by rw [ea1, ea1, Nat.add_assoc]
        rw [ea] at hc0
        refine .inr ⟨b, o, rfl, block_of_cell hc0, fun j z hj k u hu => ?_⟩
        obtain ⟨y, _, _, _, hcj⟩ := hl2 j z hj
        have := hcj k u hu
        rw [ea] at this; exact this
    · obtain ⟨i, hi⟩ := List.getElem?_of_mem hx0
      obtain ⟨y, hy, ok, hw, _⟩ := hl2 i x hi
      refine ⟨ok, ?_⟩
      simp only [Prod.mk.injEq] at hx
      obtain ⟨rfl, rfl⟩ := hx
      simp only [DataW.weights, Try.underlying52]
      exact List.mem_cons_of_mem _ (List.mem_append_left _ (weightsAll_mem (List.mem_map.2 ⟨y, List.mem_of_getElem? hy, rfl⟩) _ hw))
end Go.Proofs.Ytjmafegckfijbaa

namespace Go.Proofs.Ytjmafegckfijbaa
set_option linter.unusedVariables false
set_option linter.unusedSimpArgs false
set_option maxRecDepth 100000
/-- the volume with so many new files -/
def newV : Nat → List ByteArray
  | 0 => fmtV 40 4
  | k + 1 => putV (newV k) (k + 1) (newL 1 0)
def filesF : List Nat := [1, 2, 3]
theorem lv_plan : planE (40 : Nat) (4 : Nat) = 0 := by decide
theorem newV_vol : ∀ k, k ≤ 3 → IsVol (newV k) 4
  | 0, _ => fmtV_vol lv_plan
  | k + 1, h => (newV_vol k (by omega)).putI (by omega) (by omega) _
theorem newV_len : ∀ k, (newV k).length = 40
  | 0 => fmtV_length _ _
  | k + 1 => (putV_length _ _ _).trans (newV_len k)
theorem lv_free0 : freeI (newV 0) 4 = some 1 := by kernel_rfl
theorem lv_free1 : freeI (newV 1) 4 = some 2 := by kernel_rfl
theorem lv_free2 : freeI (newV 2) 4 = some 3 := by kernel_rfl
theorem newV_new : ∀ k, k < 3 → newO (newV k) 1 0 = (newV (k + 1), ((k + 1 : Nat) : Int), 0) := by
  intro k hk
  have hf : freeI (newV k) 4 = some (k + 1) := by
    have : k = 0 ∨ k = 1 ∨ k = 2 := by omega
    rcases this with rfl | rfl | rfl
    · exact lv_free0
    · exact lv_free1
    · exact lv_free2
  unfold newO
  rw [ofR_some.2 (newV_vol k (by omega))]
  dsimp only
  rw [if_neg (by decide), hf]
  rfl
theorem lv_fit : FitN (newL 1 0) := newL_fit (by decide) (by decide)
theorem fresh_slot (xs : List ByteArray) (m kind owner s : Nat) : slotX xs m (newL kind owner) s = 0 := by
  have h10 : (newL kind owner).getD 10 0 = 0 := rfl
  have h70 : slotX xs m (newL kind owner) 70 = 0 := by rw [slotX_ind, h10]; split <;> rfl
  by_cases hs : s < 70
  · rw [slotX_lt hs]
    by_cases h6 : s < 6
    · rw [at_low h6]
      have : (newL kind owner).getD (4 + s) 0 = 0 := by
        have key : s = 0 ∨ s = 1 ∨ s = 2 ∨ s = 3 ∨ s = 4 ∨ s = 5 := by omega
        rcases key with rfl | rfl | rfl | rfl | rfl | rfl <;> rfl
      rw [this]; split <;> rfl
    · exact at_hi0 (by omega) h70
  · unfold slotX
    rw [if_neg hs, h10]; split <;> rfl
/-- a file without anything -/
theorem fresh_good {xs : List ByteArray} {m kind owner : Nat} (hv : IsVol xs m) (h1 : kind < 256) (h2 : owner < 256) : GoodF xs m (newL kind owner) := by
  have h := fresh_slot xs m kind owner
  refine ⟨⟨hv, rfl, newL_fit h1 h2⟩, ⟨fun s _ h0 => absurd (h s) h0, fun s t _ _ _ h0 => absurd (h s) h0⟩, rfl, fun i _ hi => ?_, fun s _ hs => ?_, fun h0 => absurd (h 70) h0⟩
  · have := h (i / 128)
    rw [slotX_lt (by omega)] at this
    unfold byteX
    rw [if_pos this]
  · have := h s
    rw [slotX_lt hs] at this; exact this
theorem newV_get : ∀ k, k ≤ 3 → ∀ n : Nat, 1 ≤ n → n ≤ k → getR (newV k) (n : Int) = newL 1 0
  | 0, _, n, h1, h2 => by omega
  | k + 1, h, n, h1, h2 => by
    have hv := newV_vol k (by omega)
    by_cases e : n = k + 1
    · rw [e]; exact get_put_same hv (by omega) (by omega) lv_fit
    · rw [show newV (k + 1) = putV (newV k) (k + 1) (newL 1 0) from rfl, get_put_other hv (by omega) (by omega) _ _ (by omega)]
      exact newV_get k (by omega) n h1 (by omega)
theorem filesF_mem {n : Nat} : n ∈ filesF ↔ 1 ≤ n ∧ n ≤ 3 := by
  unfold filesF
  simp only [List.mem_cons, List.not_mem_nil, or_false]
  omega
theorem filesF_nodup : filesF.Nodup := by decide
theorem newV_snd : SndV (newV 3) 4 filesF := by
  have hv := newV_vol 3 (by omega)
  refine ⟨hv, fun n hn => ?_, fun n hn => ?_, fun n hn k hk _ s t _ _ _ => ?_⟩
  · have := filesF_mem.1 hn; omega
  · have := filesF_mem.1 hn
    rw [newV_get 3 (by omega) n (by omega) (by omega)]
    exact fresh_good hv (by omega) (by omega)
  · have := filesF_mem.1 hn
    rw [newV_get 3 (by omega) n (by omega) (by omega)]
    exact fresh_slot _ _ _ _ _
theorem newV_sum : sumC (newV 3) 4 filesF = 0 := by
  unfold sumC filesF
  have h : ∀ n : Nat, 1 ≤ n → n ≤ 3 → cntS (newV 3) 4 (getR (newV 3) (n : Int)) = 0 := fun n h1 h2 => by
    rw [newV_get 3 (by omega) n h1 h2]
    unfold cntS
    have : (fun s => slotX (newV 3) 4 (newL 1 0) s != 0) = fun _ => false := by
      funext s; rw [fresh_slot]; rfl
    rw [this]; simp
  simp only [List.map_cons, List.map_nil, List.sum_cons, List.sum_nil]
  rw [h 1 (by omega) (by omega), h 2 (by omega) (by omega), h 3 (by omega) (by omega)]
  rfl
theorem newV_room : roomR (newV 3) = roomR (fmtV 40 4) := by
  have h : ∀ k, k ≤ 3 → roomR (newV k) = roomR (fmtV 40 4) := by
    intro k
    induction k with
    | zero => exact fun _ => rfl
    | succ k ih => exact fun hk => (roomR_put (newV_vol k (by omega)) (by omega) (by omega) _).trans (ih (by omega))
  exact h 3 (Nat.le_refl _)
/-- the number of the file that an act is about -/
def numI (z : Int) : Int := (z.tmod 3 + 3).tmod 3
def numF (z : Int) : Nat := (numI z).toNat + 1
theorem numI_lt (z : Int) : 0 ≤ numI z ∧ numI z < 3 := by
  unfold numI
  have h1 := Int.tmod_lt_of_pos z (show (0 : Int) < 3 by decide)
  have h2 : -3 < z.tmod 3 := by
    have := Int.lt_tmod_of_pos z (show (0 : Int) < 3 by decide)
    exact this
  rw [Int.tmod_eq_emod_of_nonneg (by omega)]
  omega
theorem numF_mem (z : Int) : numF z ∈ filesF := by
  have := numI_lt z
  refine filesF_mem.2 ?_
  unfold numF
  omega
/-- what an act makes of the volume -/
def resO (V : List ByteArray) (a : ActV) : List ByteArray × Int :=
  if a.kind = 1 then cutO V (numF a.num : Nat) a.off else writeO V (numF a.num : Nat) a.off a.data.data.toList
def actO (V : List ByteArray) (a : ActV) : List ByteArray := if (resO V a).2 = 0 then (resO V a).1 else V
def laidV (l : List ActV) : List ByteArray := l.foldl actO (newV 3)
structure LaidS (V : List ByteArray) : Prop where
  snd : SndV V 4 filesF
  len : V.length = 40
  room : roomR V + sumC V 4 filesF = roomR (fmtV 40 4)
theorem StepV.laid {V W : List ByteArray} {n : Nat} {ys : List ByteArray} {l' : List Nat} (h : LaidS V) (s : StepV V 4 filesF n ys l' W) : LaidS W :=
  ⟨s.snd, s.len.trans h.len, by rw [← s.room]; exact h.room⟩
theorem actO_laid {V : List ByteArray} (h : LaidS V) (a : ActV) : LaidS (actO V a) := by
  unfold actO
  by_cases h0 : (resO V a).2 = 0
  · rw [if_pos h0]
    unfold resO at h0 ⊢
    by_cases hk : a.kind = 1
    · rw [if_pos hk] at h0 ⊢
      rcases h.snd.cut filesF_nodup (numF_mem a.num) a.off with ⟨_, _, hw⟩ | ⟨_, h1 | h1⟩
      · obtain ⟨r, _, st⟩ := hw.st
        exact st.laid h
      · rw [h1.1] at h0; cases h0
      · rw [h1.1] at h0; cases h0
    · rw [if_neg hk] at h0 ⊢
      rcases h.snd.write filesF_nodup (numF_mem a.num) a.off a.data.data.toList with ⟨_, _, hw⟩ | ⟨_, h1 | h1 | h1⟩
      · obtain ⟨r, _, st, _⟩ := hw.st
        exact st.laid h
      · rw [h1.1] at h0; cases h0
      · rw [h1.1] at h0; cases h0
      · rw [h1.1] at h0; cases h0
  · rw [if_neg h0]; exact h
theorem newV_laid : LaidS (newV 3) := ⟨newV_snd, newV_len 3, by rw [newV_sum, newV_room]; rfl⟩
theorem fold_laid : ∀ (l : List ActV) (V : List ByteArray), LaidS V → LaidS (l.foldl actO V)
  | [], _, h => h
  | a :: l, V, h => fold_laid l _ (actO_laid h a)
theorem laidV_laid (l : List ActV) : LaidS (laidV l) := fold_laid l _ newV_laid
theorem laidV_take {l : List ActV} {k : Nat} {a : ActV} (h : l[k]? = some a) : laidV (l.take (k + 1)) = actO (laidV (l.take k)) a := by
  unfold laidV
  rw [List.take_add_one, h, List.foldl_append]
  rfl
end Go.Proofs.Ytjmafegckfijbaa

namespace Go.Proofs.Ytjmafegckfijbaa

def fxV : List ByteArray := putV (fmtV 24 4) 1 (newL 1 0)
def fxD : List UInt8 := [120]
def fxS : Option (List ByteArray × List Nat) := wriG noK fxV 4 (newL 1 0) 300 fxD
def fxX : List ByteArray := match fxS with | none => [] | some s => putV s.1 1 s.2
theorem fx_free : freeI (fmtV 24 4) 4 = some 1 := by kernel_rfl
theorem fx_some : fxS.isSome = true := by kernel_rfl
theorem fx_inoB : blocksX fxX 4 (inoR (blkL fxX (blkN 1)) (atN 1)) = [-1, -1, 5] := by kernel_rfl
theorem fx_cnt : countX fxX 4 (inoR (blkL fxX (blkN 1)) (atN 1)) = 1 := by kernel_rfl
end Go.Proofs.Ytjmafegckfijbaa

namespace Go.Proofs.Ytjmafegckfijbaa
open Go.RowKit
set_option linter.unusedVariables false
set_option linter.unusedSimpArgs false
set_option maxRecDepth 100000
theorem fx_plan : planE (24 : Nat) (4 : Nat) = 0 := by decide
theorem fx_new : newO (fmtV 24 4) 1 0 = (fxV, 1, 0) := by
  unfold newO
  rw [ofR_some.2 (fmtV_vol fx_plan)]
  dsimp only
  rw [if_neg (by decide), fx_free]
  rfl
theorem fx_volV : IsVol fxV 4 := (fmtV_vol fx_plan).putI (by decide) (by decide) _
theorem fx_getV : getR fxV 1 = newL 1 0 := get_put_same (fmtV_vol fx_plan) (n := 1) (by decide) (by decide) (newL_fit (by decide) (by decide))
theorem fx_okV : OkS 24 4 (fxV, newL 1 0) := ⟨fx_volV, (putV_length _ _ _).trans (fmtV_length _ _), newL_fit (by decide) (by decide)⟩
theorem fx_write : writeO fxV 1 300 fxD = (fxX, 0) := by
  unfold writeO
  rw [if_neg (by rw [show ((1 : Int)) = ((1 : Nat) : Int) from rfl, inoE_zero fx_volV (by decide) (by decide)]; simp), if_neg (by decide), if_neg (by decide), mO_vol fx_volV, fx_getV]
  rw [show wriG noK fxV 4 (newL 1 0) (Int.toNat 300) fxD = fxS from rfl]
  have h := fx_some
  unfold fxX
  cases hs : fxS with
  | none => rw [hs] at h; cases h
  | some s => rfl
theorem fx_volX : IsVol fxX 4 ∧ fxX.length = 24 := by
  have h := fx_some
  unfold fxX
  cases hs : fxS with
  | none => rw [hs] at h; cases h
  | some s =>
    have ok := wriG_ok (noK_ok 4) fx_okV (by decide) hs
    exact ⟨ok.vol.putI (by decide) (by decide) _, (putV_length _ _ _).trans ok.len⟩
theorem fx_blocks : blocksO fxX 1 = [-1, -1, 5] := by
  have hv := fx_volX.1
  have e1 : getR fxX ((1 : Nat) : Int) = inoR (blkL fxX (blkN 1)) (atN 1) := getR_vol hv (by decide) (by decide)
  show blocksO fxX ((1 : Nat) : Int) = _
  unfold blocksO
  rw [if_neg (by rw [inoE_zero hv (by decide) (by decide)]; simp), mO_vol hv, e1, fx_inoB]
theorem fx_count : countO fxX 1 = 1 := by
  have hv := fx_volX.1
  have e1 : getR fxX ((1 : Nat) : Int) = inoR (blkL fxX (blkN 1)) (atN 1) := getR_vol hv (by decide) (by decide)
  show countO fxX ((1 : Nat) : Int) = _
  unfold countO
  rw [if_neg (by rw [inoE_zero hv (by decide) (by decide)]; simp), mO_vol hv, e1, fx_cnt]
set_option maxHeartbeats 4000000 in
theorem fixed19_any (w : World) : Calls Try.prog 17 #[] w fun e w' => e = .returned (.bool true) ∧ Below w.heap.size w w' := by
  have C2 : Hid (∀ w, Calls Try.prog 48 #[.int .i64 24, .int .i64 4] w fun e w' => (∃ v, e = .returned (.tuple #[v, .int .i64 0]) ∧ NewRow (fmtV 24 4) w v w') ∧ Below w.heap.size w w') := fun w => (format_any 24 4 w).mono fun e w' h => by
    unfold FmtPost at h
    rw [if_pos (show planE 24 4 = 0 by decide)] at h
    exact ⟨h.2, h.1⟩
  have C3 : Hid (∀ A c w, RowAt w w.heap.size A ((fmtV 24 4).map .string) → Calls Try.prog 34 #[.slice A (fmtV 24 4).length c, .int .i64 1, .int .i64 0] w fun e w' => (∃ v, e = .returned (.tuple #[v, .int .i64 1, .int .i64 0]) ∧ OwnRow fxV w v w') ∧ Below w.heap.size w w') := fun A c w hr => by
    have := new_ino A c (fmtV 24 4) 1 0 w (by rw [fmtV_length]; decide) hr
    rw [fx_new] at this
    exact this
  have HL : Hid (fxV.length = 24 ∧ fxX.length = 24) := ⟨fx_okV.len, fx_volX.2⟩
  have C4 : Hid (∀ A c w, RowAt w w.heap.size A (fxV.map .string) → Calls Try.prog 35 #[.slice A fxV.length c, .int .i64 1, .int .i64 300, .string ⟨#[120]⟩] w (RowCode fxX 0 w)) := fun A c w hr => by
    have := write_any A c fxV 1 300 ⟨#[120]⟩ w (by rw [HL.out.1]; decide) (by decide) (by decide) hr
    rw [show (⟨#[120]⟩ : ByteArray).data.toList = fxD from rfl, fx_write] at this
    exact this
  have C5 : Hid (∀ A c w, RowAt w w.heap.size A (fxX.map .string) → Calls Try.prog 18 #[.slice A fxX.length c, .int .i64 1] w fun e w' => (∃ v, e = .returned v ∧ OwnInts [-1, -1, 5] w v w') ∧ Below w.heap.size w w') := fun A c w hr => by
    have := blocks_any A c fxX 1 w (by rw [HL.out.2]; decide) hr
    rw [fx_blocks] at this
    exact this
  have C6 : Hid (∀ A c w, RowAt w w.heap.size A (fxX.map .string) → Calls Try.prog 22 #[.slice A fxX.length c, .int .i64 1] w fun e w' => e = .returned (.int .i64 1) ∧ Below w.heap.size w w') := fun A c w hr => by
    have := count_any A c fxX 1 w (by rw [HL.out.2]; decide) hr
    rw [fx_count] at this
    exact this
  have HF : Hid ((fmtV 24 4).length ≤ maxLen) := by show _ ≤ _; rw [fmtV_length]; decide
  generalize fmtV 24 4 = f at *
  generalize fxV = g at *
  generalize fxX = x at *
  go_enter Try.func17, Try.ntmps17
  go_wp2_with fail
  refine (C2.out _).mono ?_
  rintro e w1 ⟨⟨v, rfl, hn⟩, hb1⟩
  obtain ⟨A1, c1, rfl, hr1⟩ := (hn.own HF.out).read
  have B1 := Lib.hid hb1
  have R1 := Lib.hid hr1
  clear hn hb1 hr1
  go_wp2_with fail
  refine (C3.out _ _ _ R1.out).mono ?_
  rintro e w2 ⟨⟨v, rfl, hn⟩, hb2⟩
  obtain ⟨A2, c2, rfl, hr2⟩ := hn.read
  have B2 := Lib.hid (B1.out.trans (hb2.mono B1.out.size))
  have R2 := Lib.hid hr2
  clear hn hb2 hr2
  go_wp2_with fail
  refine (C4.out _ _ _ R2.out).mono ?_
  rintro e w3 ⟨⟨v, rfl, hn⟩, hb3⟩
  obtain ⟨A3, c3, rfl, hr3⟩ := hn.read
  have B3 := Lib.hid (B2.out.trans (hb3.mono B2.out.size))
  have R3 := Lib.hid hr3
  clear hn hb3 hr3
  go_wp2_with fail
  refine (C5.out _ _ _ R3.out).mono ?_
  rintro e w4 ⟨⟨v, rfl, hn⟩, hb4⟩
  obtain ⟨A4, c4, rfl, hr4⟩ := OwnInts.read hn
  obtain ⟨bb, oo, rfl, hbb, hrow⟩ := hr4.at_ (by decide)
  have k0 : w4.cell? ⟨bb, oo + 0, none⟩ = some (.int .i64 (-1)) := hrow 0 _ rfl
  have k1 : w4.cell? ⟨bb, oo + 1, none⟩ = some (.int .i64 (-1)) := hrow 1 _ rfl
  have k2 : w4.cell? ⟨bb, oo + 2, none⟩ = some (.int .i64 5) := hrow 2 _ rfl
  rw [Nat.add_zero] at k0
  have B4 := Lib.hid (B3.out.trans (hb4.mono B3.out.size))
  have R4 := Lib.hid ((R3.out.below hb4).mono hb4.size)
  clear hn hb4 hr4 hrow
  rw [show ([-1, -1, 5] : List Int).length = 3 from rfl]
  go_wp2_with fail
  refine (C6.out _ _ _ R4.out).mono ?_
  rintro e w5 ⟨rfl, hb5⟩
  have B5 := Lib.hid (B4.out.trans (hb5.mono B4.out.size))
  clear hb5
  go_wp2
  go_ret
  exact ⟨rfl, B5.out⟩
set_option maxHeartbeats 1000000 in
theorem great19_any (A : Option Addr) (c : Nat) (xs : List ByteArray) (w : World) (hx : xs.length ≤ maxLen) (hs : ∀ s ∈ xs, s.size ≤ 9223372036854775807) (h : RowAt w w.heap.size A (xs.map .string)) :
    Calls Try.prog 16 #[.slice A xs.length c] w (GreatPost xs.length w) := by
  unfold maxLen at hx
  have HR := Lib.hid h
  have HS : Hid (∀ j (hj : j < xs.length), xs[j].size ≤ 9223372036854775807) := fun j hj => hs _ (List.getElem_mem hj)
  clear h hs
  by_cases h64 : xs.length ≤ 64
  · have g1 : ¬ (64 : Int) < (xs.length : Int) := by omega
    have h80 : xs.length ≤ 80 := by omega
    go_enter Try.func16, Try.ntmps16
    go_wp2
    go_loop [10] (fun i => ∃ k : Nat, k ≤ xs.length ∧ i = .int .i64 k) (fun i => xs.length - (intOf i).toNat)
    case atStart => exact ⟨0, Nat.zero_le _, rfl⟩
    case round =>
      obtain ⟨k, hk, rfl⟩ := hrel
      by_cases hlt : k < xs.length
      · obtain ⟨b, o, rfl, hb, hc⟩ := row_get HR.out k hlt
        rw [getD_eq xs k hlt] at hc
        have hsz := HS.out k hlt
        generalize xs[k] = s at *
        by_cases h300 : 300 < s.size
        · have h2 : (300 : Int) < (s.size : Int) := by omega
          go_wp2
          go_ret
          exact ⟨⟨1, rfl, .inl rfl⟩, rfl⟩
        · have h2 : ¬ (300 : Int) < (s.size : Int) := by omega
          go_wp2
          go_round
          case rel => exact ⟨k + 1, by omega, by go_num⟩
          case measure => simp [intOf]; omega
      · go_wp2
        go_ret
        exact ⟨⟨0, rfl, .inr ⟨rfl, h80⟩⟩, rfl⟩
  · have g1 : (64 : Int) < (xs.length : Int) := by omega
    go_enter Try.func16, Try.ntmps16
    go_wp2
    go_ret
    exact ⟨⟨1, rfl, .inl rfl⟩, rfl⟩
end Go.Proofs.Ytjmafegckfijbaa

namespace Go.Proofs.Ytjmafegckfijbaa
open Go.RowKit
set_option linter.unusedVariables false
set_option linter.unusedSimpArgs false
set_option maxRecDepth 100000
/-- one act, as cells from an address on -/
theorem ActsAt.get {w : World} {B : Nat} {A : Option Addr} {l : List ActV} (h : ActsAt w B A l) {k : Nat} (hk : k < l.length) :
    ∃ b o, A = some ⟨b, o, none⟩ ∧ b < B ∧ w.rangeAt b (o + k * 4) [.int .i64 l[k].kind, .int .i64 l[k].num, .int .i64 l[k].off, .string l[k].data] := by
  rcases h with rfl | ⟨b, o, hA, hlt, hc⟩
  · simp at hk
  · exact ⟨b, o, hA, hlt, fun i u hu => by rw [Nat.add_assoc]; exact hc k l[k] (List.getElem?_eq_getElem hk) i u hu⟩
set_option maxHeartbeats 4000000 in
theorem lgreat_any (A : Option Addr) (c : Nat) (l : List ActV) (w : World) (hl : l.length ≤ maxLen) (h : ActsAt w w.heap.size A l) :
    Calls Try.prog 36 #[.slice A l.length c] w fun e w' => (∃ b : Bool, e = .returned (.bool b)) ∧ Below w.heap.size w w' := by
  have HA := Lib.hid h
  have B := Lib.hid (Below.refl w.heap.size w)
  unfold maxLen at hl
  clear h
  go_enter Try.func36, Try.ntmps36
  go_wp2
  go_loopw [3, 8] (fun s i wr => ∃ (k : Nat) (z : Int), k ≤ l.length ∧ i = .int .i64 k ∧ s = .int .i64 z ∧ Hid (Below w.heap.size w wr)) (fun _ i _ => l.length - (intOf i).toNat)
  case atStart => exact ⟨0, 0, Nat.zero_le _, rfl, rfl, B⟩
  case round =>
    clear B
    obtain ⟨k, z, hk, rfl, rfl, B⟩ := hrel
    by_cases hlt : k < l.length
    · obtain ⟨b, o, rfl, hb, hr⟩ := HA.out.get hlt
      have HR : Hid (wr.rangeAt b (o + k * 4) [.int .i64 l[k].kind, .int .i64 l[k].num, .int .i64 l[k].off, .string l[k].data]) := fun i u hu => (B.out.cell (p := ⟨b, _, none⟩) hb).trans (hr i u hu)
      have i2 : (k : Int) < (l.length : Int) := by omega
      have i3 : (0 : Int) ≤ (k : Int) := by omega
      clear hr
      go_wp2_with (refine wpList_load_mid rfl 55 (.tmp 10) rfl b (o + k * 4) rfl _ _ HR.out Try.underlying55 rfl (by kernel_rfl) ?_; go_frame)
      go_roundw
      case rel => exact ⟨k + 1, _, by omega, by go_num, rfl, B.out.alloc B.out.size _⟩
      case measure => simp [intOf]; omega
    · obtain rfl : k = l.length := by omega
      go_wp2
      go_ret
      exact ⟨⟨_, rfl⟩, B.out⟩
set_option maxHeartbeats 4000000 in
theorem whole19_any (A : Option Addr) (c : Nat) (xs : List ByteArray) (n : Nat) (w : World) (hx : xs.length ≤ 1000000) (h : RowAt w w.heap.size A (xs.map .string)) :
    Calls Try.prog 50 #[.slice A xs.length c, .int .i64 n] w fun e w' => e = .returned (.string ⟨(wholeX xs n).toArray⟩) ∧ Below w.heap.size w w' := by
  have C := Lib.hid (read_any A c xs n 0 8960 w hx h)
  unfold ReadPost at C
  have HW : Hid (wholeX xs n = (readO xs n 0 8960).1) := rfl
  generalize readO xs n 0 8960 = r at *
  obtain ⟨a, b⟩ := r
  dsimp only at *
  go_enter Try.func50, Try.ntmps50
  go_wp2_with fail
  refine C.out.mono ?_
  rintro e w1 ⟨rfl, hb1⟩
  have B1 := Lib.hid hb1
  clear hb1
  go_wp2
  go_ret
  rw [HW.out]
  exact ⟨rfl, B1.out⟩
end Go.Proofs.Ytjmafegckfijbaa

namespace Go.Proofs.Ytjmafegckfijbaa
open Go.RowKit
set_option linter.unusedVariables false
set_option linter.unusedSimpArgs false
set_option maxRecDepth 100000
set_option maxHeartbeats 8000000 in
theorem law_plays (A : Option Addr) (c : Nat) (xs : List ByteArray) (A2 : Option Addr) (c2 : Nat) (l : List ActV) (w : World) (hx : xs.length ≤ maxLen) (hs : ∀ s ∈ xs, s.size ≤ 140737488355328) (hl : l.length ≤ maxLen) (hd : ∀ a ∈ l, ActOk a ∧ a.data.size ≤ 140737488355328) (h : RowAt w w.heap.size A (xs.map .string)) (h2 : ActsAt w w.heap.size A2 l) :
    Calls Try.prog 8 #[.slice A xs.length c, .slice A2 l.length c2] w fun e w' => e = .returned (.bool true) ∧ Below w.heap.size w w' := by
  have HX := Lib.hid hx
  have HS := Lib.hid hs
  have R0 := Lib.hid h
  have HA := Lib.hid h2
  have HD := Lib.hid hd
  have CG := Lib.hid (fun w h => lgreat_any A2 c2 l w hl h)
  have HE : Hid (∀ z : List ByteArray, eqL z z = true) := fun z => by unfold eqL; simp
  unfold maxLen at hl
  clear h h2 hx hs hd
  go_enter Try.func8, Try.ntmps8
  go_wp2_with fail
  refine (great19_any A c xs _ HX.out (fun s h => Nat.le_trans (HS.out s h) (by decide)) R0.out).mono ?_
  rintro e w' ⟨⟨r, rfl, rfl | ⟨rfl, hl80⟩⟩, rfl⟩
  · go_wp2_with fail
    refine (fixed19_any _).mono ?_
    rintro e w1 ⟨rfl, hb1⟩
    go_wp2
    go_ret
    exact ⟨rfl, hb1⟩
  have HX6 : Hid (xs.length ≤ 1000000) := by show _ ≤ _; omega
  go_wp2_with fail
  refine (CG.out _ HA.out).mono ?_
  rintro e w1 ⟨⟨bg, rfl⟩, hb1⟩
  have B1 := Lib.hid hb1
  have R1 := Lib.hid ((R0.out.below hb1).mono hb1.size)
  clear hb1 CG R0
  cases bg with
  | true =>
    go_wp2_with fail
    refine (fixed19_any _).mono ?_
    rintro e w2 ⟨rfl, hb2⟩
    go_wp2
    go_ret
    exact ⟨rfl, B1.out.trans (hb2.mono B1.out.size)⟩
  | false =>
    go_wp2
    go_loopw [0, 21] (fun v i wr => ∃ (k : Nat) (V : List ByteArray) (A' : Option Addr) (c' : Nat), k ≤ l.length ∧ i = .int .i64 (k : Int) ∧ v = .slice A' V.length c' ∧ Hid (V.length ≤ 1000000) ∧ Hid (RowAt wr wr.heap.size A' (V.map .string)) ∧ Hid (Below w.heap.size w wr)) (fun _ i _ => l.length - (intOf i).toNat)
    case atStart => exact ⟨0, xs, A, c, Nat.zero_le _, rfl, rfl, HX6, R1, B1⟩
    case round =>
      clear R1 B1
      obtain ⟨k, V, A', c', hk, rfl, rfl, HVL, RV, B⟩ := hrel
      by_cases hlt : k < l.length
      · obtain ⟨bA, oA, rfl, hbA, hrA⟩ := HA.out.get hlt
        obtain ⟨⟨n1, n2⟩, o1, o2⟩ := (HD.out _ (List.getElem_mem hlt)).1
        have hds := (HD.out _ (List.getElem_mem hlt)).2
        generalize l[k] = x at *
        obtain ⟨kd, nm, off, dt⟩ := x
        dsimp only at *
        have HR : Hid (wr.rangeAt bA (oA + k * 4) [.int .i64 kd, .int .i64 nm, .int .i64 off, .string dt]) := fun i u hu => (B.out.cell (p := ⟨bA, _, none⟩) hbA).trans (hrA i u hu)
        have GA := Lib.hid (Blk.new wr 55 #[.int .i64 kd, .int .i64 nm, .int .i64 off, .string dt])
        have b4 : Below wr.heap.size wr (wr.alloc (.cells #[.int .i64 kd, .int .i64 nm, .int .i64 off, .string dt] 55)) := (Below.refl _ _).alloc (Nat.le_refl _) _
        have R4 := Lib.hid ((RV.out.below b4).mono b4.size)
        have B4 := Lib.hid (B.out.trans (b4.mono B.out.size))
        have CW := Lib.hid (fun w hr => write_any A' c' V nm off dt w HVL.out ⟨o1, o2⟩ hds hr)
        have CW' := Lib.hid (fun w hr => rwrite_any A' c' V nm off dt w HVL.out ⟨o1, o2⟩ hds hr)
        have CC := Lib.hid (fun w hr => cut_any A' c' V nm off w HVL.out hr)
        have CC' := Lib.hid (fun w hr => rcut_any A' c' V nm off w HVL.out hr)
        have hwl := writeO_le HVL.out nm off dt.data.toList
        have hcl := cutO_le HVL.out nm off
        generalize writeO V nm off dt.data.toList = rw_ at *
        generalize cutO V nm off = rc at *
        obtain ⟨Ww, ew⟩ := rw_
        obtain ⟨Wc, ec⟩ := rc
        dsimp only at *
        have HWL : Hid (Ww.length ≤ 1000000) := hwl
        have HCL : Hid (Wc.length ≤ 1000000) := hcl
        have i2 : (k : Int) < (l.length : Int) := by omega
        have i3 : (0 : Int) ≤ (k : Int) := by omega
        clear hrA b4 RV B hwl hcl hds
        go_wp2_with (refine wpList_load_mid rfl 55 (.tmp 23) rfl bA (oA + k * 4) rfl _ _ HR.out Try.underlying55 rfl (by kernel_rfl) ?_; go_frame)
        generalize hga : wr.heap.size = ga at *
        generalize World.alloc _ _ = w4 at *
        clear HR
        refine (CW.out _ R4.out).mono ?_
        rintro e w5 ⟨⟨v5, rfl, hn5⟩, hb5⟩
        obtain ⟨A5, c5, rfl, hr5⟩ := hn5.read
        have G5 := Lib.hid (GA.out.below hb5 GA.out.lt)
        have R5 := Lib.hid ((R4.out.below hb5).mono hb5.size)
        have B5 := Lib.hid (B4.out.trans (hb5.mono B4.out.size))
        have RW5 := Lib.hid hr5
        have a1 := G5.out.cell 1 rfl
        have a2 := G5.out.cell 2 rfl
        have a3 := G5.out.cell 3 rfl
        clear hn5 hb5 hr5 R4 B4 GA CW
        go_wp2_with fail
        refine (CW'.out _ R5.out).mono ?_
        rintro e w6 ⟨⟨A6, c6, rfl, hr6⟩, hb6⟩
        have G6 := Lib.hid (G5.out.below hb6 G5.out.lt)
        have R6 := Lib.hid ((R5.out.below hb6).mono hb6.size)
        have B6 := Lib.hid (B5.out.trans (hb6.mono B5.out.size))
        have RW6 := Lib.hid ((RW5.out.below hb6).mono hb6.size)
        have RX6 := Lib.hid hr6
        clear hb6 hr6 R5 B5 G5 RW5 CW' a1 a2 a3
        have a0 := G6.out.cell 0 rfl
        have a1 := G6.out.cell 1 rfl
        have a2 := G6.out.cell 2 rfl
        by_cases hk1 : kd = 1
        · subst hk1
          go_wp2_with fail
          refine (CC.out _ R6.out).mono ?_
          rintro e w7 ⟨⟨v7, rfl, hn7⟩, hb7⟩
          obtain ⟨A7, c7, rfl, hr7⟩ := hn7.read
          have G7 := Lib.hid (G6.out.below hb7 G6.out.lt)
          have R7 := Lib.hid ((R6.out.below hb7).mono hb7.size)
          have B7 := Lib.hid (B6.out.trans (hb7.mono B6.out.size))
          have RW7 := Lib.hid hr7
          clear hn7 hb7 hr7 R6 B6 G6 RW6 RX6 CC a0 a1 a2
          have a1 := G7.out.cell 1 rfl
          have a2 := G7.out.cell 2 rfl
          go_wp2_with fail
          refine (CC'.out _ R7.out).mono ?_
          rintro e w8 ⟨⟨A8, c8, rfl, hr8⟩, hb8⟩
          have B8 := Lib.hid (B7.out.trans (hb8.mono B7.out.size))
          have RW8 := Lib.hid ((RW7.out.below hb8).mono hb8.size)
          have RX8 := Lib.hid hr8
          have R8 := Lib.hid ((R7.out.below hb8).mono hb8.size)
          have CS := Lib.hid (same19_below A7 A8 c7 c8 _ _ w8 (Nat.le_trans HCL.out (by decide)) (Nat.le_trans HCL.out (by decide)) RW8.out RX8.out)
          rw [HE.out] at CS
          clear hb8 hr8 R7 B7 G7 RW7 CC' a1 a2
          go_wp2_with fail
          refine CS.out.mono ?_
          rintro e w9 ⟨rfl, hb9⟩
          have B9 := Lib.hid (B8.out.trans (hb9.mono B8.out.size))
          have RX9 := Lib.hid ((RX8.out.below hb9).mono hb9.size)
          have R9 := Lib.hid ((R8.out.below hb9).mono hb9.size)
          clear hb9 CS RW8 RX8 R8 B8
          by_cases hz : ec = 0
          · subst hz
            go_wp2
            go_roundw
            case rel => exact ⟨k + 1, Wc, A8, c8, by omega, by go_num, rfl, HCL, RX9, B9⟩
            case measure => simp [intOf]; omega
          · have hz1 : (ec == 0) = false := beq_eq_false_iff_ne.2 hz
            go_wp2
            go_roundw
            case rel => exact ⟨k + 1, V, A', c', by omega, by go_num, rfl, HVL, R9, B9⟩
            case measure => simp [intOf]; omega
        · have hk2 : (kd == 1) = false := beq_eq_false_iff_ne.2 hk1
          have CS := Lib.hid (fun w hr hr' => same19_below A5 A6 c5 c6 Ww Ww w (Nat.le_trans HWL.out (by decide)) (Nat.le_trans HWL.out (by decide)) hr hr')
          rw [HE.out] at CS
          go_wp2_with fail
          refine (CS.out _ RW6.out RX6.out).mono ?_
          rintro e w9 ⟨rfl, hb9⟩
          have B9 := Lib.hid (B6.out.trans (hb9.mono B6.out.size))
          have RX9 := Lib.hid ((RX6.out.below hb9).mono hb9.size)
          have R9 := Lib.hid ((R6.out.below hb9).mono hb9.size)
          clear hb9 CS RW6 RX6 R6 B6 a0 a1 a2 G6
          by_cases hz : ew = 0
          · subst hz
            go_wp2
            go_roundw
            case rel => exact ⟨k + 1, Ww, A6, c6, by omega, by go_num, rfl, HWL, RX9, B9⟩
            case measure => simp [intOf]; omega
          · have hz1 : (ew == 0) = false := beq_eq_false_iff_ne.2 hz
            go_wp2
            go_roundw
            case rel => exact ⟨k + 1, V, A', c', by omega, by go_num, rfl, HVL, R9, B9⟩
            case measure => simp [intOf]; omega
      · have : k = l.length := by omega
        go_wp2_with fail
        refine (fixed19_any _).mono ?_
        rintro e w2 ⟨rfl, hb2⟩
        go_wp2
        go_ret
        exact ⟨rfl, B.out.trans (hb2.mono B.out.size)⟩
end Go.Proofs.Ytjmafegckfijbaa
