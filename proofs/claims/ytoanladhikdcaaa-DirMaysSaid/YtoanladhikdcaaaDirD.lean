/-
  Package dir: search.
-/
import Derived.Test.YtoanladhikdcaaaDirC
import Derived.Test.YtoanladhikdcaaaSearch
namespace Go.Proofs.Ytoanladhikdcaaa
open Go.RowKit Go.Sort Go.Shelf
set_option linter.unusedVariables false
set_option linter.unusedSimpArgs false
set_option maxRecDepth 100000
theorem below_grow {B : Nat} {w : World} (q : Nat) (os : Array Obj) (h : B ≤ w.heap.size) : Below B w (grow (w.drewN q) os) :=
  ⟨rfl, rfl, rfl, by simp [grow, World.drewN], fun k hk => by
    have : k < (w.drewN q).heap.size := Nat.lt_of_lt_of_le hk h
    exact heap_grow_old _ _ this⟩
theorem count_at (l : List EntV) (nm : ByteArray) : ((List.range l.length).countP fun i => ltB (l.getD i ⟨⟨#[]⟩, 0⟩).name nm) = atE l nm := by
  have e : l = (List.range l.length).map fun i => l.getD i ⟨⟨#[]⟩, 0⟩ := by
    apply List.ext_getElem?
    intro i
    by_cases hi : i < l.length
    · rw [List.getElem?_map, List.getElem?_range hi, Option.map_some, List.getD_eq_getElem?_getD, List.getElem?_eq_getElem hi]; rfl
    · rw [List.getElem?_eq_none (by omega), List.getElem?_eq_none (by simp; omega)]
  unfold atE
  conv => rhs; rw [e, List.countP_map]
  rfl
set_option maxHeartbeats 2000000 in
theorem closure_any (ba bx b o n c : Nat) (s nm : ByteArray) (i : Nat) (w : World) (hi : i < n) (h1 : w.cell? ⟨ba, 0, none⟩ = some (.slice (some ⟨b, o, none⟩) n c)) (h2 : w.cell? ⟨bx, 0, none⟩ = some (.string nm)) (h3 : w.cell? ⟨b, o + i * 2, none⟩ = some (.string s)) :
    Calls Try.prog 52 (#[.int .i64 i] ++ #[.pointer (some ⟨ba, 0, none⟩), .pointer (some ⟨bx, 0, none⟩)]) w fun e w' => e = .returned (.bool (!ltB s nm)) ∧ ∃ q, w' = w.drewN q := by
  have i1 : (i : Int) < (n : Int) := by omega
  have i2 : (0 : Int) ≤ (i : Int) := by omega
  cases hl : ltB s nm with
  | false =>
    have l1 : Op.bytesLess s.toList nm.toList = false := (less_walk s nm).trans hl
    clear hl
    go_enter Try.func52, Try.ntmps52
    go_wp2
    go_quiet (fail)
    go_wp2
    go_ret
    exact ⟨ret_bool (by simp), _, rfl⟩
  | true =>
    have l1 : Op.bytesLess s.toList nm.toList = true := (less_walk s nm).trans hl
    clear hl
    go_enter Try.func52, Try.ntmps52
    go_wp2
    go_quiet (fail)
    go_wp2
    go_ret
    exact ⟨ret_bool (by simp), _, rfl⟩
set_option maxHeartbeats 4000000 in
theorem search_any (A : Option Addr) (c : Nat) (l : List EntV) (nm : ByteArray) (w : World) (hl : l.length ≤ 280) (hr : l.Pairwise fun x y => ltB x.name y.name = true) (h : EntsAt w w.heap.size A l) :
    Calls Try.prog 29 #[.slice A l.length c, .string nm] w fun e w' => e = .returned (.tuple #[.int .i64 (atE l nm : Nat), .bool (hasE l nm)]) ∧ Below w.heap.size w w' := by
  obtain ⟨W0, hW0⟩ : ∃ W0, W0 = (w.alloc (.cells #[.slice A l.length c] 31)).alloc (.cells #[.string nm] 9) := ⟨_, rfl⟩
  have hsize : W0.heap.size = w.heap.size + 1 + 1 := by rw [hW0]; simp
  have hB0 : Below w.heap.size w W0 := by rw [hW0]; exact ((Below.refl _ w).alloc (Nat.le_refl _) _).alloc (by simp) _
  have ca : W0.cell? ⟨w.heap.size, 0, none⟩ = some (.slice A l.length c) := by
    rw [hW0]
    have b := Blk.new w 31 #[.slice A l.length c]
    exact (b.below ((Below.refl _ _).alloc (Nat.le_refl _) _) b.lt).cell 0 rfl
  have cx : W0.cell? ⟨w.heap.size + 1, 0, none⟩ = some (.string nm) := by
    rw [hW0]
    have := (Blk.new (w.alloc (.cells #[.slice A l.length c] 31)) 9 #[.string nm]).cell 0 rfl
    rwa [World.size_alloc] at this
  have eg : ∀ args w, (callFunc 52 args).run Try.prog w = .ok (.enter 52 args) w := enters_of Try.func52 (by kernel_rfl) rfl
  have hcell : ∀ i (hi : i < l.length), ∃ b o, A = some ⟨b, o, none⟩ ∧ b < w.heap.size ∧ w.cell? ⟨b, o + i * 2, none⟩ = some (.string (l.getD i ⟨⟨#[]⟩, 0⟩).name) := fun i hi => by
    obtain ⟨b, o, hA, hb, hc⟩ := h.get hi
    refine ⟨b, o, hA, hb, ?_⟩
    rw [List.getD_eq_getElem?_getD, List.getElem?_eq_getElem hi]
    exact hc 0 _ rfl
  have hS := Try.sort_Search 52 #[.pointer (some ⟨w.heap.size, 0, none⟩), .pointer (some ⟨w.heap.size + 1, 0, none⟩)] l.length (fun i => !ltB (l.getD i ⟨⟨#[]⟩, 0⟩).name nm) W0 eg (by omega)
    (fun m os i hi => by
      obtain ⟨b, o, rfl, hb, hc⟩ := hcell i hi
      have hg := below_grow m os (Nat.le_refl W0.heap.size)
      exact (closure_any w.heap.size (w.heap.size + 1) b o l.length c _ nm i _ hi (hg.cell (by simp [hsize]; omega) |>.trans ca) (hg.cell (by simp [hsize]) |>.trans cx) ((hB0.trans (hg.mono hB0.size)).cell hb |>.trans hc)).mono fun _ _ ⟨he, q, hq⟩ => ⟨he, q, #[], by rw [hq, grow_empty]⟩)
    (fun a b hab hb h => by
      have ha : a < l.length := by omega
      have ga : l.getD a ⟨⟨#[]⟩, 0⟩ = l[a] := by rw [List.getD_eq_getElem?_getD, List.getElem?_eq_getElem ha]; rfl
      have gb : l.getD b ⟨⟨#[]⟩, 0⟩ = l[b] := by rw [List.getD_eq_getElem?_getD, List.getElem?_eq_getElem hb]; rfl
      rw [ga, at_below hr a ha] at h
      rw [gb, at_below hr b hb]
      simp at h ⊢
      omega)
  simp only [Bool.not_not] at hS
  rw [count_at] at hS
  have hat := atE_le l nm
  have hhas := at_has (nm := nm) hr
  generalize hk : atE l nm = k at *
  have HS := Lib.hid hS
  have HW := Lib.hid hW0
  have HB0 := Lib.hid hB0
  have HB1 := Lib.hid (fun q os => hB0.trans ((below_grow q os (Nat.le_refl W0.heap.size)).mono hB0.size))
  have CA := Lib.hid (fun q os => ((below_grow q os (Nat.le_refl W0.heap.size)).cell (p := ⟨w.heap.size, 0, none⟩) (by simp [hsize]; omega)).trans ca)
  have CX := Lib.hid (fun q os => ((below_grow q os (Nat.le_refl W0.heap.size)).cell (p := ⟨w.heap.size + 1, 0, none⟩) (by simp [hsize])).trans cx)
  by_cases hlt : k < l.length
  · obtain ⟨b, o, rfl, hb, hc⟩ := hcell k hlt
    have gk : l.getD k ⟨⟨#[]⟩, 0⟩ = l[k] := by rw [List.getD_eq_getElem?_getD, List.getElem?_eq_getElem hlt]; rfl
    rw [gk] at hc
    have HC := Lib.hid (fun q os => ((HB1.out q os).cell (p := ⟨b, o + k * 2, none⟩) hb).trans hc)
    have HH : Hid (hasE l nm = decide (l[k].name = nm)) := by
      show _ = _
      rw [Bool.eq_iff_iff, hhas, decide_eq_true_iff]
      exact ⟨fun ⟨_, h⟩ => h, fun h => ⟨hlt, h⟩⟩
    generalize hasE l nm = r at *
    generalize l[k].name = s at *
    have k1 : (k : Int) < (l.length : Int) := by omega
    have k2 : (0 : Int) ≤ (k : Int) := by omega
    have k3 : decide ((k : Int) < (l.length : Int)) = true := decide_eq_true k1
    have k4 : decide (k < l.length) = true := decide_eq_true hlt
    clear hS hW0 hB0 ca cx hcell hk hhas hc gk h hr eg hsize
    by_cases he : s = nm
    · have e1 : (s.toList == nm.toList) = true := by rw [he]; simp
      have e2 : r = true := by rw [HH.out, he]; simp
      subst e2
      clear HH he
      go_enter Try.func29, Try.ntmps29
      go_wp2_with (go_at_call 51; rw [← HW.out]; refine HS.out.mono ?_; rintro e w' ⟨rfl, q, os, rfl⟩; have B1 := Lib.hid (HB1.out q os); have ca := CA.out q os; have cx := CX.out q os; have hc := HC.out q os; generalize grow _ _ = w1 at *)
      go_quiet (fail)
      go_wp2
      go_ret2
      exact ⟨rfl, below_drewN B1.out _⟩
    · have e1 : (s.toList == nm.toList) = false := by simpa using str_ne he
      have e2 : r = false := by rw [HH.out]; simp [he]
      subst e2
      clear HH he
      go_enter Try.func29, Try.ntmps29
      go_wp2_with (go_at_call 51; rw [← HW.out]; refine HS.out.mono ?_; rintro e w' ⟨rfl, q, os, rfl⟩; have B1 := Lib.hid (HB1.out q os); have ca := CA.out q os; have cx := CX.out q os; have hc := HC.out q os; generalize grow _ _ = w1 at *)
      go_quiet (fail)
      go_wp2
      go_ret2
      exact ⟨rfl, below_drewN B1.out _⟩
  · have HH : hasE l nm = false := by
      cases h : hasE l nm with
      | false => rfl
      | true => exact absurd (hhas.1 h).1 hlt
    rw [HH]
    have k1 : ¬ (k : Int) < (l.length : Int) := by omega
    have k3 : decide ((k : Int) < (l.length : Int)) = false := decide_eq_false k1
    have k4 : decide (k < l.length) = false := decide_eq_false hlt
    clear hS hW0 hB0 ca cx hcell hk hhas h hr eg hsize HH
    go_enter Try.func29, Try.ntmps29
    go_wp2_with (go_at_call 51; rw [← HW.out]; refine HS.out.mono ?_; rintro e w' ⟨rfl, q, os, rfl⟩; have B1 := Lib.hid (HB1.out q os); have ca := CA.out q os; have cx := CX.out q os; generalize grow _ _ = w1 at *)
    go_quiet (fail)
    go_wp2
    go_ret2
    exact ⟨rfl, below_drewN B1.out _⟩
end Go.Proofs.Ytoanladhikdcaaa
