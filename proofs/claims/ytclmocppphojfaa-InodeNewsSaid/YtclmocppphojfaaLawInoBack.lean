/-
  InodeBack: the walk.
-/
import Derived.Test.YtclmocppphojfaaAlive18
namespace Go.Proofs.Ytclmocppphojfaa
open Go.RowKit
set_option linter.unusedVariables false
set_option linter.unusedSimpArgs false
set_option maxRecDepth 100000
theorem RowAt.next {w w' : World} {A : Option Addr} {xs : List Value} (h : RowAt w w.heap.size A xs) (hb : Below w.heap.size w w') : RowAt w' w'.heap.size A xs := (h.below hb).mono hb.size
/-- Get, its numbers spelled out -/
theorem get_lit (A : Option Addr) (c : Nat) (xs : List ByteArray) (n : Int) (hx : xs.length ≤ 1000000) {L : List Nat} {code : Int} (hL : getR xs n = L) (hc : inoE xs n = code) (w : World) (h : RowAt w w.heap.size A (xs.map .string)) :
    Calls Try.prog 38 #[.slice A xs.length c, .int .i64 n] w fun e w' => e = .returned (.tuple #[.agg (inoC L), .int .i64 code]) ∧ Below w.heap.size w w' := by
  rw [← hL, ← hc]; exact get_ino A c xs n w hx h
theorem put_err {xs : List ByteArray} {n : Int} {l : List Int} (A : Option Addr) (c : Nat) (hx : xs.length ≤ 1000000) (hl : l.length = 12) (hr : ∀ z ∈ l, -9223372036854775808 ≤ z ∧ z ≤ 9223372036854775807) (h1 : (putO xs n l).1 = []) (w : World) (h : RowAt w w.heap.size A (xs.map .string)) :
    Calls Try.prog 42 #[.slice A xs.length c, .int .i64 n, .agg (intC l)] w fun e w' => (∃ A' c', e = .returned (.tuple #[.slice A' 0 c', .int .i64 (putO xs n l).2])) ∧ Below w.heap.size w w' :=
  (put_ino A c xs n l w hx h hl hr).mono fun e w' hq => by
    unfold RowCode at hq
    rw [h1] at hq
    obtain ⟨⟨v, he, hn⟩, hb⟩ := hq
    obtain ⟨A', c', rfl, _⟩ := hn.read
    exact ⟨⟨A', c', he⟩, hb⟩
theorem put_good {xs : List ByteArray} {m k : Nat} {nl : List Nat} (A : Option Addr) (c : Nat) (hx : xs.length ≤ 1000000) (hv : IsVol xs m) (a : 1 ≤ k) (b : k ≤ m) (hn : FitN nl) (w : World) (h : RowAt w w.heap.size A (xs.map .string)) :
    Calls Try.prog 42 #[.slice A xs.length c, .int .i64 k, .agg (inoC nl)] w fun e w' => (∃ A' c', e = .returned (.tuple #[.slice A' (putV xs k nl).length c', .int .i64 0]) ∧ RowAt w' w'.heap.size A' ((putV xs k nl).map .string)) ∧ Below w.heap.size w w' := by
  have e : inoC nl = intC (nl.map (fun k : Nat => (k : Int))) := by unfold inoC intC; rw [List.map_map]; rfl
  rw [e]
  have hf : ∀ z ∈ nl.map (fun k : Nat => (k : Int)), 0 ≤ z ∧ z < 4294967296 := fitsR_nat (by simpa using hn.1) (fits_of_nat hn)
  refine (put_ino A c xs k _ w hx h (by simpa using hn.1) (fun z hz => by have := hf z hz; omega)).mono fun e w' hq => ?_
  unfold RowCode at hq
  rw [putO_ok hv a b hn] at hq
  obtain ⟨⟨v, he, hn⟩, hb⟩ := hq
  obtain ⟨A', c', rfl, hr⟩ := hn.read
  exact ⟨⟨A', c', he, hr⟩, hb⟩
set_option maxHeartbeats 4000000 in
theorem law_back (A : Option Addr) (c : Nat) (xs : List ByteArray) (n other : Int) (l : List Int) (w : World) (hx : xs.length ≤ maxLen) (hs : ∀ s ∈ xs, s.size ≤ 140737488355328) (h : RowAt w w.heap.size A (xs.map .string)) (hl : l.length = 12) (hr : ∀ z ∈ l, -9223372036854775808 ≤ z ∧ z ≤ 9223372036854775807) :
    Calls Try.prog 10 #[.slice A xs.length c, .int .i64 n, .int .i64 other, .agg (intC l)] w fun e w' => e = .returned (.bool true) ∧ Below w.heap.size w w' := by
  have HR := Lib.hid h
  have HX := Lib.hid hx
  have HS := Lib.hid hs
  have HPC := Lib.hid (putO_cases (xs := xs) (n := n) hl)
  have HE := Lib.hid (fun (hx : xs.length ≤ 1000000) (h1 : (putO xs n l).1 = []) => put_err A c hx hl hr h1)
  have HL := Lib.hid hl
  have B0 : Hid (Below w.heap.size w (w.alloc (.cells (intC l) 50))) := (Below.refl _ _).alloc (Nat.le_refl _) _
  clear h hx hs hr hl
  go_enter Try.func10, Try.ntmps10
  go_wp2_with fail
  refine (alive18_any _).mono ?_
  rintro e w1 ⟨rfl, hb1⟩
  have B1 := Lib.hid (B0.out.trans (hb1.mono B0.out.size))
  have G1 : Hid (Blk w1 w.heap.size 50 (intC l)) := (Blk.new w _ _).below hb1 (by simp)
  have R1 := Lib.hid ((HR.out.below B1.out).mono B1.out.size)
  clear hb1 B0
  go_wp2_with fail
  refine (great18_any A c xs _ HX.out (fun s h => Nat.le_trans (HS.out s h) (by decide)) R1.out).mono ?_
  rintro e w' ⟨⟨r, rfl, rfl | ⟨rfl, hl80⟩⟩, rfl⟩
  · go_wp2
    go_ret
    exact ⟨rfl, B1.out⟩
  have hx6 : xs.length ≤ 1000000 := by omega
  have HX6 := Lib.hid hx6
  rcases HPC.out with ⟨hrows, hcode⟩ | ⟨m, k, nl, hv, rfl, hk1, hk2, rfl, hfit, hput⟩
  · have C1 := Lib.hid (HE.out HX6.out hrows)
    generalize (putO xs n l).2 = code at *
    have hc : (code != 0) = true := by simpa using hcode
    clear hrows hcode HE
    go_wp2_with (refine load_blk 50 (.tmp 7) w.heap.size 50 (intC l) _ rfl rfl rfl G1.out Try.underlying50 rfl (by rw [intC_size, HL.out]; kernel_rfl) ?_; go_frame)
    refine (C1.out _ R1.out).mono ?_
    rintro e w2 ⟨⟨A2, c2, rfl⟩, hb2⟩
    have B2 := Lib.hid (B1.out.trans (hb2.mono B1.out.size))
    clear hb2
    go_wp2
    go_ret
    exact ⟨rfl, B2.out⟩
  · have hvl := hv.len
    have C1 := Lib.hid (put_good A c HX6.out hv hk1 hk2 hfit)
    have G2 := Lib.hid (fun A c => get_lit A c (putV xs k nl) k (by rw [putV_length]; omega) (get_put_same hv hk1 hk2 hfit) (inoE_zero (hv.putI hk1 hk2 nl) hk1 hk2))
    have ge1 : intC (nl.map (fun k : Nat => (k : Int))) = inoC nl := by unfold inoC intC; rw [List.map_map]; rfl
    rw [ge1] at G1 ⊢
    have HPL := Lib.hid (putV_length xs k nl)
    have HPG : Hid (∀ i, i ≠ blkN k → (putV xs k nl).getD i ⟨#[]⟩ = xs.getD i ⟨#[]⟩) := fun i hi => putV_getD hv hk1 hk2 nl i hi
    obtain ⟨c0, c1, c2, c3, c4, c5, c6, c7, c8, c9, c10, c11, hc⟩ := len12 (getR_len xs other)
    obtain ⟨d0, d1, d2, d3, d4, d5, d6, d7, d8, d9, d10, d11, hd⟩ := len12 (getR_len (putV xs k nl) other)
    have G3 := Lib.hid (get_lit A c xs other HX6.out hc rfl)
    have G4 := Lib.hid (fun A c => get_lit A c (putV xs k nl) other (by rw [putV_length]; omega) hd (inoE_put hv hk1 hk2 nl other))
    have HSAME : Hid (other ≠ (k : Int) → d0 = c0 ∧ d1 = c1 ∧ d2 = c2 ∧ d3 = c3 ∧ d4 = c4 ∧ d5 = c5 ∧ d6 = c6 ∧ d7 = c7 ∧ d8 = c8 ∧ d9 = c9 ∧ d10 = c10 ∧ d11 = c11) := fun hne => by
      have := get_put_other hv hk1 hk2 nl other hne
      rw [hc, hd] at this
      simp only [List.cons.injEq, and_true] at this
      exact this
    generalize putV xs k nl = ys at *
    obtain ⟨b0, b1, b2, b3, b4, b5, b6, b7, b8, b9, b10, b11, rfl⟩ := len12 hfit.1
    have lit : inoC [b0, b1, b2, b3, b4, b5, b6, b7, b8, b9, b10, b11] = #[.int .i64 (b0 : Int), .int .i64 (b1 : Int), .int .i64 (b2 : Int), .int .i64 (b3 : Int), .int .i64 (b4 : Int), .int .i64 (b5 : Int), .int .i64 (b6 : Int), .int .i64 (b7 : Int), .int .i64 (b8 : Int), .int .i64 (b9 : Int), .int .i64 (b10 : Int), .int .i64 (b11 : Int)] := rfl
    have litc : inoC [c0, c1, c2, c3, c4, c5, c6, c7, c8, c9, c10, c11] = #[.int .i64 (c0 : Int), .int .i64 (c1 : Int), .int .i64 (c2 : Int), .int .i64 (c3 : Int), .int .i64 (c4 : Int), .int .i64 (c5 : Int), .int .i64 (c6 : Int), .int .i64 (c7 : Int), .int .i64 (c8 : Int), .int .i64 (c9 : Int), .int .i64 (c10 : Int), .int .i64 (c11 : Int)] := rfl
    have litd : inoC [d0, d1, d2, d3, d4, d5, d6, d7, d8, d9, d10, d11] = #[.int .i64 (d0 : Int), .int .i64 (d1 : Int), .int .i64 (d2 : Int), .int .i64 (d3 : Int), .int .i64 (d4 : Int), .int .i64 (d5 : Int), .int .i64 (d6 : Int), .int .i64 (d7 : Int), .int .i64 (d8 : Int), .int .i64 (d9 : Int), .int .i64 (d10 : Int), .int .i64 (d11 : Int)] := rfl
    rw [lit] at G1 C1 G2 ⊢
    rw [litc] at G3
    rw [litd] at G4
    have q0 := fun w => ino_neq (b0 : Int) (b1 : Int) (b2 : Int) (b3 : Int) (b4 : Int) (b5 : Int) (b6 : Int) (b7 : Int) (b8 : Int) (b9 : Int) (b10 : Int) (b11 : Int) w
    unfold inoA at q0
    have hyl : ys.length = xs.length := HPL.out
    rw [hyl] at C1 G2 G4
    generalize inoE xs other = oc at *
    clear lit litc litd hc hd ge1 hput hfit HE hv HPC
    have x7 : ∀ i v, (#[.int .i64 (b0 : Int), .int .i64 (b1 : Int), .int .i64 (b2 : Int), .int .i64 (b3 : Int), .int .i64 (b4 : Int), .int .i64 (b5 : Int), .int .i64 (b6 : Int), .int .i64 (b7 : Int), .int .i64 (b8 : Int), .int .i64 (b9 : Int), .int .i64 (b10 : Int), .int .i64 (b11 : Int)] : Array Value)[i]? = some v → w1.cell? ⟨w.heap.size, i, none⟩ = some v := fun i v h => G1.out.cell i h
    have k0 := x7 0 _ rfl
    have k1 := x7 1 _ rfl
    have k2 := x7 2 _ rfl
    have k3 := x7 3 _ rfl
    have k4 := x7 4 _ rfl
    have k5 := x7 5 _ rfl
    have k6 := x7 6 _ rfl
    have k7 := x7 7 _ rfl
    have k8 := x7 8 _ rfl
    have k9 := x7 9 _ rfl
    have k10 := x7 10 _ rfl
    have k11 := x7 11 _ rfl
    clear x7
    go_wp2_with fail
    refine (C1.out _ R1.out).mono ?_
    rintro e w2 ⟨⟨A2, cc2, rfl, hr2⟩, hb2⟩
    have B2 := Lib.hid (B1.out.trans (hb2.mono B1.out.size))
    have R2 := Lib.hid hr2
    have V2 := Lib.hid ((R1.out.below hb2).mono hb2.size)
    have G2x := Lib.hid (G1.out.below hb2 G1.out.lt)
    clear hb2 hr2 k0 k1 k2 k3 k4 k5 k6 k7 k8 k9 k10 k11
    go_wp2_with fail
    refine (G2.out _ _ _ R2.out).mono ?_
    rintro e w3 ⟨rfl, hb3⟩
    have B3 := Lib.hid (B2.out.trans (hb3.mono B2.out.size))
    have R3 := Lib.hid ((R2.out.below hb3).mono hb3.size)
    have V3 := Lib.hid ((V2.out.below hb3).mono hb3.size)
    have G3x := Lib.hid (G2x.out.below hb3 G2x.out.lt)
    have hz3 := B3.out.size
    have hlt3 : w.heap.size < w3.heap.size := G3x.out.lt
    clear hb3
    have k0 := G3x.out.cell 0 rfl
    have k1 := G3x.out.cell 1 rfl
    have k2 := G3x.out.cell 2 rfl
    have k3 := G3x.out.cell 3 rfl
    have k4 := G3x.out.cell 4 rfl
    have k5 := G3x.out.cell 5 rfl
    have k6 := G3x.out.cell 6 rfl
    have k7 := G3x.out.cell 7 rfl
    have k8 := G3x.out.cell 8 rfl
    have k9 := G3x.out.cell 9 rfl
    have k10 := G3x.out.cell 10 rfl
    have k11 := G3x.out.cell 11 rfl
    have B4 := Lib.hid (B3.out.alloc hz3 (.cells #[.int .i64 (b0 : Int), .int .i64 (b1 : Int), .int .i64 (b2 : Int), .int .i64 (b3 : Int), .int .i64 (b4 : Int), .int .i64 (b5 : Int), .int .i64 (b6 : Int), .int .i64 (b7 : Int), .int .i64 (b8 : Int), .int .i64 (b9 : Int), .int .i64 (b10 : Int), .int .i64 (b11 : Int)] 50))
    have R4 := Lib.hid (R3.out.next ((Below.refl w3.heap.size w3).alloc (Nat.le_refl _) (.cells #[.int .i64 (b0 : Int), .int .i64 (b1 : Int), .int .i64 (b2 : Int), .int .i64 (b3 : Int), .int .i64 (b4 : Int), .int .i64 (b5 : Int), .int .i64 (b6 : Int), .int .i64 (b7 : Int), .int .i64 (b8 : Int), .int .i64 (b9 : Int), .int .i64 (b10 : Int), .int .i64 (b11 : Int)] 50)))
    have V4 := Lib.hid (V3.out.next ((Below.refl w3.heap.size w3).alloc (Nat.le_refl _) (.cells #[.int .i64 (b0 : Int), .int .i64 (b1 : Int), .int .i64 (b2 : Int), .int .i64 (b3 : Int), .int .i64 (b4 : Int), .int .i64 (b5 : Int), .int .i64 (b6 : Int), .int .i64 (b7 : Int), .int .i64 (b8 : Int), .int .i64 (b9 : Int), .int .i64 (b10 : Int), .int .i64 (b11 : Int)] 50)))
    go_wp2
    generalize hw4 : w3.alloc _ = w4 at *
    clear hw4 k0 k1 k2 k3 k4 k5 k6 k7 k8 k9 k10 k11
    go_loopw [13, 14] (fun t i wr => ∃ (a b : Nat), a ≤ 1 ∧ b ≤ xs.length ∧ t = .int .i64 a ∧ i = .int .i64 b ∧ Hid (b ≤ blkN k → a = 0) ∧ Hid (∃ q, wr = w4.drewN q)) (fun _ i _ => xs.length - (intOf i).toNat)
    case atStart => exact ⟨0, 0, by omega, by omega, rfl, rfl, fun _ => rfl, ⟨0, rfl⟩⟩
    case round =>
      obtain ⟨a, b, ha, hb, rfl, rfl, HB, ⟨q, rfl⟩⟩ := hrel
      by_cases hlt : b < xs.length
      · obtain ⟨p1, o1, rfl, _, g1⟩ := row_get V4.out b hlt
        obtain ⟨p2, o2, rfl, _, g2⟩ := row_get R4.out b (by omega)
        by_cases he : xs.getD b ⟨#[]⟩ = ys.getD b ⟨#[]⟩
        · rw [← he] at g2
          clear he
          generalize xs.getD b ⟨#[]⟩ = s at *
          go_wp2
          go_quiet (fail)
          go_wp2
          go_roundw
          case rel => exact ⟨a, b + 1, ha, by omega, rfl, by go_num, fun h => HB.out (by omega), ⟨q + nq, rfl⟩⟩
          case measure => simp [intOf]; omega
        · have hbk : b = blkN k := by
            by_cases e : b = blkN k
            · exact e
            · exact absurd (HPG.out b e).symm he
          obtain rfl : a = 0 := HB.out (by omega)
          have h1 : (!(xs.getD b ⟨#[]⟩).toList == (ys.getD b ⟨#[]⟩).toList) = true := str_ne he
          have HBK := Lib.hid hbk
          clear he hbk
          generalize xs.getD b ⟨#[]⟩ = s at *
          generalize ys.getD b ⟨#[]⟩ = s2 at *
          go_wp2
          go_quiet (fail)
          go_wp2
          go_roundw
          case rel => exact ⟨1, b + 1, by omega, by omega, rfl, by go_num, fun h => by have := HBK.out; omega, ⟨q + nq, rfl⟩⟩
          case measure => simp [intOf]; omega
      · have B5 : Hid (Below w.heap.size w (w4.drewN q)) := below_drewN B4.out q
        have V5 : Hid (RowAt (w4.drewN q) (w4.drewN q).heap.size A (xs.map .string)) := V4.out
        have R5 : Hid (RowAt (w4.drewN q) (w4.drewN q).heap.size A2 (ys.map .string)) := R4.out
        generalize w4.drewN q = w5 at *
        go_wp2_with fail
        refine (G3.out _ V5.out).mono ?_
        rintro e w6 ⟨rfl, hb6⟩
        have B6 := Lib.hid (B5.out.trans (hb6.mono B5.out.size))
        have hz6 := B6.out.size
        have R6 := Lib.hid (R5.out.next hb6)
        have R7 := Lib.hid (R6.out.next ((Below.refl w6.heap.size w6).alloc (Nat.le_refl _) (.cells #[.int .i64 (c0 : Int), .int .i64 (c1 : Int), .int .i64 (c2 : Int), .int .i64 (c3 : Int), .int .i64 (c4 : Int), .int .i64 (c5 : Int), .int .i64 (c6 : Int), .int .i64 (c7 : Int), .int .i64 (c8 : Int), .int .i64 (c9 : Int), .int .i64 (c10 : Int), .int .i64 (c11 : Int)] 50)))
        have B7 := Lib.hid (B6.out.alloc hz6 (.cells #[.int .i64 (c0 : Int), .int .i64 (c1 : Int), .int .i64 (c2 : Int), .int .i64 (c3 : Int), .int .i64 (c4 : Int), .int .i64 (c5 : Int), .int .i64 (c6 : Int), .int .i64 (c7 : Int), .int .i64 (c8 : Int), .int .i64 (c9 : Int), .int .i64 (c10 : Int), .int .i64 (c11 : Int)] 50))
        have H7 := Lib.hid (Blk.new w6 50 #[.int .i64 (c0 : Int), .int .i64 (c1 : Int), .int .i64 (c2 : Int), .int .i64 (c3 : Int), .int .i64 (c4 : Int), .int .i64 (c5 : Int), .int .i64 (c6 : Int), .int .i64 (c7 : Int), .int .i64 (c8 : Int), .int .i64 (c9 : Int), .int .i64 (c10 : Int), .int .i64 (c11 : Int)])
        clear hb6
        go_wp2_with fail
        refine (G4.out _ _ _ R7.out).mono ?_
        rintro e w8 ⟨rfl, hb8⟩
        have B8 := Lib.hid (B7.out.trans (hb8.mono B7.out.size))
        have H8 := Lib.hid (H7.out.below hb8 H7.out.lt)
        have hz8 := B8.out.size
        have hlt8 : w6.heap.size < w8.heap.size := H8.out.lt
        have j0 := H8.out.cell 0 rfl
        have j1 := H8.out.cell 1 rfl
        have j2 := H8.out.cell 2 rfl
        have j3 := H8.out.cell 3 rfl
        have j4 := H8.out.cell 4 rfl
        have j5 := H8.out.cell 5 rfl
        have j6 := H8.out.cell 6 rfl
        have j7 := H8.out.cell 7 rfl
        have j8 := H8.out.cell 8 rfl
        have j9 := H8.out.cell 9 rfl
        have j10 := H8.out.cell 10 rfl
        have j11 := H8.out.cell 11 rfl
        clear hb8
        have ha' : (a : Int) ≤ 1 := by omega
        by_cases hok : other = (k : Int)
        · subst hok
          go_wp2
          go_ret
          exact ⟨rfl, B8.out.alloc hz8 _⟩
        · obtain ⟨rfl, rfl, rfl, rfl, rfl, rfl, rfl, rfl, rfl, rfl, rfl, rfl⟩ := HSAME.out hok
          have q1 := fun w => ino_eql (d0 : Int) (d1 : Int) (d2 : Int) (d3 : Int) (d4 : Int) (d5 : Int) (d6 : Int) (d7 : Int) (d8 : Int) (d9 : Int) (d10 : Int) (d11 : Int) w
          unfold inoA at q1
          have ho : (other == (k : Int)) = false := by simpa using hok
          go_wp2
          go_ret
          exact ⟨rfl, B8.out.alloc hz8 _⟩
end Go.Proofs.Ytclmocppphojfaa
