/-
  ExtentTells: the walk.
-/
import Derived.Test.YtjmafegckfijbaaFixed
import Derived.Test.YtjmafegckfijbaaRExtRd
import Derived.BigQuiet
namespace Go.Proofs.Ytjmafegckfijbaa
open Go.ChangeShapes Go.WideShapes Go.ChangeAt Go.RowKit
set_option linter.unusedVariables false
set_option linter.unusedSimpArgs false
set_option maxRecDepth 100000
theorem twoCells : Try.prog.cellsOf 23 = 2 := by kernel_rfl
theorem i64CellsT : Try.prog.cellsOf 3 = 1 := by kernel_rfl
/-- an array of two numbers among the arguments -/
theorem open_two {H : Type} {enc : TypeId × Value → H} {W : World} {r : Reach} {base b0 : Nat} {spare : Nat → Bool} {held : Bool} {v : Value} {d : DataW H} {p : List MemPlace}
    (hv : Value.okWide Try.prog W r b0 23 v) (h : DataW.Trod enc Try.prog W base spare held 23 v d p) :
    ∃ a b : Int, v = .agg #[.int .i64 a, .int .i64 b] := by
  simp only [Value.okWide, Try.underlying23] at hv
  obtain ⟨cs, rfl, hsz, _⟩ := hv
  rw [twoCells] at hsz
  obtain ⟨fuel, hf⟩ := h
  obtain ⟨xs, k, hk, _, hl, hn, hi⟩ := DataW.trod_array Try.underlying23 hf
  have arr : ∀ j, j < 2 → ∃ z, cs[j]? = some (.int .i64 z) := fun j hj => by
    have := hi j hj
    rw [List.getElem?_eq_getElem (by omega)] at this
    obtain ⟨z, e, _, hw⟩ := DataW.trod_int Try.underlying3 this
    refine ⟨z, ?_⟩
    rw [i64CellsT] at e
    have := congrArg (·[0]?) e
    simp only [Value.cells, List.getElem?_take, List.getElem?_drop] at this
    simpa using this
  obtain ⟨a, ha⟩ := arr 0 (by omega)
  obtain ⟨b, hb⟩ := arr 1 (by omega)
  refine ⟨a, b, ?_⟩
  congr 1
  apply Array.ext_getElem?
  intro j
  by_cases h0 : j = 0
  · subst h0; rw [ha]; rfl
  · by_cases h1 : j = 1
    · subst h1; rw [hb]; rfl
    · rw [Array.getElem?_eq_none (by omega), Array.getElem?_eq_none (by simp; omega)]
set_option maxHeartbeats 4000000 in
theorem law_tells (A : Option Addr) (c : Nat) (xs : List ByteArray) (n a b : Int) (w : World) (hx : xs.length ≤ maxLen) (hs : ∀ s ∈ xs, s.size ≤ 140737488355328) (h : RowAt w w.heap.size A (xs.map .string)) :
    Calls Try.prog 3 #[.slice A xs.length c, .int .i64 n, .agg #[.int .i64 a, .int .i64 b]] w fun e w' => e = .returned (.bool true) ∧ Below w.heap.size w w' := by
  have HX := Lib.hid hx
  have HS := Lib.hid hs
  have B0 := Lib.hid ((Below.refl w.heap.size w).alloc (Nat.le_refl _) (.cells #[.int .i64 a, .int .i64 b] 23))
  have G0 := Lib.hid (Blk.new w 23 #[.int .i64 a, .int .i64 b])
  have R0 := Lib.hid ((h.below B0.out).mono B0.out.size)
  clear h hx hs
  have C1 := Lib.hid (fun w hx h => blocks_any A c xs n w hx h)
  have C2 := Lib.hid (fun w hx h => rblocks19_any A c xs n w hx h)
  have C3 := Lib.hid (fun w hx h => read_any A c xs n a b w hx h)
  have C4 := Lib.hid (fun w hx h => rread_any A c xs n a b w hx h)
  unfold ReadPost at C3 C4
  have C5 := Lib.hid (fun w hx h => count_any A c xs n w hx h)
  have C6 := Lib.hid (fun w hx h => rcount_any A c xs n w hx h)
  have HBN : Hid ((blocksO xs n).length ≤ 70) := by
    show _ ≤ _
    unfold blocksO
    split
    · simp
    · unfold blocksX
      rw [List.length_map, List.length_range]
      exact needN_le (sizeX_le _)
  generalize blocksO xs n = bl at *
  generalize (readO xs n a b).1 = rd at *
  generalize (readO xs n a b).2 = rc at *
  generalize countO xs n = ct at *
  generalize hst : (⟨rd.toArray⟩ : ByteArray) = st at *
  clear hst
  have h70 := HBN.out
  go_enter Try.func3, Try.ntmps3
  go_wp2_with fail
  obtain ⟨w0, hw0⟩ : ∃ w0, w.alloc (.cells #[.int .i64 a, .int .i64 b] 23) = w0 := ⟨_, rfl⟩
  rw [hw0] at B0 G0 R0 ⊢
  clear hw0
  generalize hbo : w.heap.size = bo at G0 ⊢
  refine (great19_any A c xs _ HX.out (fun s h => Nat.le_trans (HS.out s h) (by decide)) R0.out).mono ?_
  rintro e w' ⟨⟨r, rfl, rfl | ⟨rfl, hl80⟩⟩, rfl⟩
  · go_wp2_with fail
    refine (fixed19_any _).mono ?_
    rintro e w1 ⟨rfl, hb1⟩
    have B := Lib.hid (B0.out.trans (hb1.mono B0.out.size))
    clear hb1
    go_wp2
    go_ret
    exact ⟨rfl, hbo ▸ B.out⟩
  have HX6 : Hid (xs.length ≤ 1000000) := by show _ ≤ _; omega
  go_wp2_with fail
  refine (C1.out _ HX6.out R0.out).mono ?_
  rintro e w1 ⟨⟨v, rfl, hn⟩, hb1⟩
  obtain ⟨A1, c1, rfl, hr1⟩ := OwnInts.read hn
  have B := Lib.hid (B0.out.trans (hb1.mono B0.out.size))
  have RV := Lib.hid ((R0.out.below hb1).mono hb1.size)
  have G := Lib.hid (G0.out.below hb1 G0.out.lt)
  have R1 := Lib.hid hr1
  clear hn hb1 hr1 B0 R0 G0
  go_wp2_with fail
  refine (C2.out _ HX6.out RV.out).mono ?_
  rintro e w2 ⟨⟨v, rfl, hn⟩, hb1⟩
  obtain ⟨A2, c2, rfl, hr2⟩ := OwnInts.read hn
  replace B := Lib.hid (B.out.trans (hb1.mono B.out.size))
  replace RV := Lib.hid ((RV.out.below hb1).mono hb1.size)
  replace G := Lib.hid (G.out.below hb1 G.out.lt)
  replace R1 := Lib.hid ((R1.out.below hb1).mono hb1.size)
  have R2 := Lib.hid hr2
  have g0 := G.out.cell 0 rfl
  have g1 := G.out.cell 1 rfl
  clear hn hb1 hr2
  go_wp2_with fail
  refine (C3.out _ HX6.out RV.out).mono ?_
  rintro e w3 ⟨rfl, hb1⟩
  replace B := Lib.hid (B.out.trans (hb1.mono B.out.size))
  replace RV := Lib.hid ((RV.out.below hb1).mono hb1.size)
  replace G := Lib.hid (G.out.below hb1 G.out.lt)
  replace R1 := Lib.hid ((R1.out.below hb1).mono hb1.size)
  replace R2 := Lib.hid ((R2.out.below hb1).mono hb1.size)
  clear hb1 g0 g1
  have g0 := G.out.cell 0 rfl
  have g1 := G.out.cell 1 rfl
  go_wp2_with fail
  refine (C4.out _ HX6.out RV.out).mono ?_
  rintro e w4 ⟨rfl, hb1⟩
  replace B := Lib.hid (B.out.trans (hb1.mono B.out.size))
  replace RV := Lib.hid ((RV.out.below hb1).mono hb1.size)
  replace R1 := Lib.hid ((R1.out.below hb1).mono hb1.size)
  replace R2 := Lib.hid ((R2.out.below hb1).mono hb1.size)
  clear hb1 g0 g1 G
  go_wp2_with fail
  refine (C5.out _ HX6.out RV.out).mono ?_
  rintro e w5 ⟨rfl, hb1⟩
  replace B := Lib.hid (B.out.trans (hb1.mono B.out.size))
  replace RV := Lib.hid ((RV.out.below hb1).mono hb1.size)
  replace R1 := Lib.hid ((R1.out.below hb1).mono hb1.size)
  replace R2 := Lib.hid ((R2.out.below hb1).mono hb1.size)
  clear hb1
  go_wp2_with fail
  refine (C6.out _ HX6.out RV.out).mono ?_
  rintro e w6 ⟨rfl, hb1⟩
  replace B := Lib.hid (B.out.trans (hb1.mono B.out.size))
  replace R1 := Lib.hid ((R1.out.below hb1).mono hb1.size)
  replace R2 := Lib.hid ((R2.out.below hb1).mono hb1.size)
  clear hb1 RV C1 C2 C3 C4 C5 C6
  go_wp2
  go_loopw [70] (fun i wr => ∃ k : Nat, k ≤ bl.length ∧ i = .int .i64 k ∧ Hid (RowAt wr wr.heap.size A1 (intsC bl)) ∧ Hid (RowAt wr wr.heap.size A2 (intsC bl)) ∧ Hid (Below w.heap.size w wr)) (fun i _ => bl.length - (intOf i).toNat)
  case atStart => exact ⟨0, by omega, rfl, R1, R2, B⟩
  case round =>
    obtain ⟨k, hk, rfl, K1, K2, BK⟩ := hrel
    by_cases hlt : k < bl.length
    · have hki : (k : Int) < (bl.length : Int) := by omega
      obtain ⟨b1, o1, rfl, hb1, hc1⟩ := K1.out.at_ (by unfold intsC; simp; omega)
      obtain ⟨b2, o2, rfl, hb2, hc2⟩ := K2.out.at_ (by unfold intsC; simp; omega)
      have HI : Hid ((intsC bl)[k]? = some (.int .i64 bl[k])) := by show _ = _; unfold intsC; simp [hlt]
      have u1 : ∀ u : Ext wr, u.val.cell? ⟨b1, o1 + k, none⟩ = some (.int .i64 bl[k]) := fun u => u.cell (hc1 k _ HI.out)
      have u2 : ∀ u : Ext wr, u.val.cell? ⟨b2, o2 + k, none⟩ = some (.int .i64 bl[k]) := fun u => u.cell (hc2 k _ HI.out)
      generalize bl[k] = vk at *
      clear hc1 hc2 HI
      go_wp2_with fail
      refine wp_region_ext (by kernel_rfl) (by kernel_rfl) ?_
      repeat (go_big_quiet_step (fail))
      refine wpQuiet_nil ?_
      rintro _ ⟨u, rfl⟩
      have K1' := Lib.hid ((K1.out.below u.below).mono u.below.size)
      have K2' := Lib.hid ((K2.out.below u.below).mono u.below.size)
      have BK' := Lib.hid (BK.out.trans (u.below.mono BK.out.size))
      generalize u.val = W2 at *
      clear u1 u2 K1 K2 BK
      go_wp2
      go_roundw
      case rel => exact ⟨k + 1, by omega, by go_num, K1', K2', BK'⟩
      case measure => simp [intOf]; omega
    · obtain rfl : k = bl.length := by omega
      go_wp2_with fail
      refine (fixed19_any _).mono ?_
      rintro e w1 ⟨rfl, hb1⟩
      have B9 := Lib.hid (BK.out.trans (hb1.mono BK.out.size))
      clear hb1
      go_wp2
      go_ret
      exact ⟨rfl, B9.out⟩
end Go.Proofs.Ytjmafegckfijbaa
