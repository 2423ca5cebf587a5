/-
  InodeTwice: the walk.
-/
import Derived.Test.YtclmocppphojfaaLawInoBack
namespace Go.Proofs.Ytclmocppphojfaa
open Go.RowKit
set_option linter.unusedVariables false
set_option linter.unusedSimpArgs false
set_option maxRecDepth 100000
/-- Put, whatever comes of it -/
theorem put_read {xs : List ByteArray} {n : Int} {l : List Int} (A : Option Addr) (c : Nat) (hx : xs.length ≤ 1000000) (hl : l.length = 12) (hr : ∀ z ∈ l, -9223372036854775808 ≤ z ∧ z ≤ 9223372036854775807) (w : World) (h : RowAt w w.heap.size A (xs.map .string)) :
    Calls Try.prog 42 #[.slice A xs.length c, .int .i64 n, .agg (intC l)] w fun e w' => (∃ A' k c', e = .returned (.tuple #[.slice A' k c', .int .i64 (putO xs n l).2])) ∧ Below w.heap.size w w' :=
  (put_ino A c xs n l w hx h hl hr).mono fun e w' hq => by
    obtain ⟨⟨v, he, hn⟩, hb⟩ := hq
    obtain ⟨A', c', rfl, _⟩ := hn.read
    exact ⟨⟨A', _, c', he⟩, hb⟩
theorem eqL_self (xs : List ByteArray) : eqL xs xs = true := by unfold eqL; simp
set_option maxHeartbeats 4000000 in
theorem law_twice (A : Option Addr) (c : Nat) (xs : List ByteArray) (n m : Int) (x y : List Int) (w : World) (hx : xs.length ≤ maxLen) (hs : ∀ s ∈ xs, s.size ≤ 140737488355328) (h : RowAt w w.heap.size A (xs.map .string)) (hlx : x.length = 12) (hrx : ∀ z ∈ x, -9223372036854775808 ≤ z ∧ z ≤ 9223372036854775807) (hly : y.length = 12) (hry : ∀ z ∈ y, -9223372036854775808 ≤ z ∧ z ≤ 9223372036854775807) :
    Calls Try.prog 11 #[.slice A xs.length c, .int .i64 n, .int .i64 m, .agg (intC x), .agg (intC y)] w fun e w' => e = .returned (.bool true) ∧ Below w.heap.size w w' := by
  have HR := Lib.hid h
  have HX := Lib.hid hx
  have HS := Lib.hid hs
  have PX := Lib.hid (putO_cases (xs := xs) (n := n) hlx)
  have PY := Lib.hid (putO_cases (xs := xs) (n := m) hly)
  have CX := Lib.hid (fun (hx : xs.length ≤ 1000000) => put_read (n := n) A c hx hlx hrx)
  have CY := Lib.hid (fun (hx : xs.length ≤ 1000000) => put_read (n := m) A c hx hly hry)
  have LX := Lib.hid hlx
  have LY := Lib.hid hly
  have B0 : Hid (Below w.heap.size w ((w.alloc (.cells (intC x) 50)).alloc (.cells (intC y) 50))) := ((Below.refl _ _).alloc (Nat.le_refl _) _).alloc (by simp) _
  have G80 : Hid (Blk ((w.alloc (.cells (intC x) 50)).alloc (.cells (intC y) 50)) w.heap.size 50 (intC x)) := (Blk.new w _ _).alloc _
  have G90 : Hid (Blk ((w.alloc (.cells (intC x) 50)).alloc (.cells (intC y) 50)) (w.heap.size + 1) 50 (intC y)) := by
    have := Blk.new (w.alloc (.cells (intC x) 50)) 50 (intC y)
    simp only [World.size_alloc] at this
    exact this
  clear h hx hs hrx hlx hry hly
  go_enter Try.func11, Try.ntmps11
  go_wp2_with fail
  refine (alive18_any _).mono ?_
  rintro e w1 ⟨rfl, hb1⟩
  have B := Lib.hid (B0.out.trans (hb1.mono B0.out.size))
  have G8 := Lib.hid (G80.out.below hb1 G80.out.lt)
  have G9 := Lib.hid (G90.out.below hb1 G90.out.lt)
  have RV := Lib.hid ((HR.out.below B.out).mono B.out.size)
  clear hb1 B0 G80 G90
  go_wp2_with fail
  refine (great18_any A c xs _ HX.out (fun s h => Nat.le_trans (HS.out s h) (by decide)) RV.out).mono ?_
  rintro e w' ⟨⟨r, rfl, rfl | ⟨rfl, hl80⟩⟩, rfl⟩
  · go_wp2
    go_ret
    exact ⟨rfl, B.out⟩
  have hx6 : xs.length ≤ 1000000 := by omega
  have HX6 := Lib.hid hx6
  by_cases hnm : n = m
  · have e1 : (n == m) = true := by simpa using hnm
    clear hnm
    go_wp2
    go_ret
    exact ⟨rfl, B.out⟩
  have e1 : (n == m) = false := by simpa using hnm
  by_cases hc1 : (putO xs n x).2 = 0
  case neg =>
    have t1 : ((putO xs n x).2 != 0) = true := by simpa using hc1
    clear hc1 PX PY
    generalize (putO xs n x).2 = code at *
    generalize (putO xs m y).2 = code2 at *
    go_wp2_with (first | (refine load_blk 50 (.tmp 8) w.heap.size 50 (intC x) _ rfl rfl rfl G8.out Try.underlying50 rfl (by rw [intC_size, LX.out]; kernel_rfl) ?_; go_frame) | (refine load_blk 50 (.tmp 9) (w.heap.size + 1) 50 (intC y) _ rfl rfl rfl G9.out Try.underlying50 rfl (by rw [intC_size, LY.out]; kernel_rfl) ?_; go_frame))
    refine (CX.out HX6.out _ RV.out).mono ?_
    rintro e u1 ⟨⟨A2, k2, cc2, rfl⟩, hb⟩
    replace B := Lib.hid (B.out.trans (hb.mono B.out.size))
    replace RV := Lib.hid (RV.out.next hb)
    replace G8 := Lib.hid (G8.out.below hb G8.out.lt)
    replace G9 := Lib.hid (G9.out.below hb G9.out.lt)
    clear hb
    go_wp2_with (first | (refine load_blk 50 (.tmp 8) w.heap.size 50 (intC x) _ rfl rfl rfl G8.out Try.underlying50 rfl (by rw [intC_size, LX.out]; kernel_rfl) ?_; go_frame) | (refine load_blk 50 (.tmp 9) (w.heap.size + 1) 50 (intC y) _ rfl rfl rfl G9.out Try.underlying50 rfl (by rw [intC_size, LY.out]; kernel_rfl) ?_; go_frame))
    refine (CY.out HX6.out _ RV.out).mono ?_
    rintro e u2 ⟨⟨A3, k3, cc3, rfl⟩, hb⟩
    replace B := Lib.hid (B.out.trans (hb.mono B.out.size))
    replace RV := Lib.hid (RV.out.next hb)
    replace G8 := Lib.hid (G8.out.below hb G8.out.lt)
    replace G9 := Lib.hid (G9.out.below hb G9.out.lt)
    clear hb
    go_wp2
    go_ret
    exact ⟨rfl, B.out⟩
  by_cases hc2 : (putO xs m y).2 = 0
  case neg =>
    have t2 : ((putO xs m y).2 != 0) = true := by simpa using hc2
    rw [hc1] at CX
    clear hc2 hc1 PX PY
    generalize (putO xs m y).2 = code2 at *
    go_wp2_with (first | (refine load_blk 50 (.tmp 8) w.heap.size 50 (intC x) _ rfl rfl rfl G8.out Try.underlying50 rfl (by rw [intC_size, LX.out]; kernel_rfl) ?_; go_frame) | (refine load_blk 50 (.tmp 9) (w.heap.size + 1) 50 (intC y) _ rfl rfl rfl G9.out Try.underlying50 rfl (by rw [intC_size, LY.out]; kernel_rfl) ?_; go_frame))
    refine (CX.out HX6.out _ RV.out).mono ?_
    rintro e u3 ⟨⟨A2, k2, cc2, rfl⟩, hb⟩
    replace B := Lib.hid (B.out.trans (hb.mono B.out.size))
    replace RV := Lib.hid (RV.out.next hb)
    replace G8 := Lib.hid (G8.out.below hb G8.out.lt)
    replace G9 := Lib.hid (G9.out.below hb G9.out.lt)
    clear hb
    go_wp2_with (first | (refine load_blk 50 (.tmp 8) w.heap.size 50 (intC x) _ rfl rfl rfl G8.out Try.underlying50 rfl (by rw [intC_size, LX.out]; kernel_rfl) ?_; go_frame) | (refine load_blk 50 (.tmp 9) (w.heap.size + 1) 50 (intC y) _ rfl rfl rfl G9.out Try.underlying50 rfl (by rw [intC_size, LY.out]; kernel_rfl) ?_; go_frame))
    refine (CY.out HX6.out _ RV.out).mono ?_
    rintro e u4 ⟨⟨A3, k3, cc3, rfl⟩, hb⟩
    replace B := Lib.hid (B.out.trans (hb.mono B.out.size))
    replace RV := Lib.hid (RV.out.next hb)
    replace G8 := Lib.hid (G8.out.below hb G8.out.lt)
    replace G9 := Lib.hid (G9.out.below hb G9.out.lt)
    clear hb
    go_wp2
    go_ret
    exact ⟨rfl, B.out⟩
  rcases PX.out with ⟨_, hc⟩ | ⟨q, k, nx, hv, rfl, hk1, hk2, rfl, hfx, _⟩
  · exact absurd hc1 hc
  rcases PY.out with ⟨_, hc⟩ | ⟨q', j, ny, hv', rfl, hj1, hj2, rfl, hfy, _⟩
  · exact absurd hc2 hc
  obtain rfl : q' = q := by
    have := (ofR_some.2 hv').symm.trans (ofR_some.2 hv)
    exact Option.some.inj this
  have hkj : k ≠ j := by omega
  have hvl := hv.len
  have ex : intC (nx.map (fun k : Nat => (k : Int))) = inoC nx := by unfold inoC intC; rw [List.map_map]; rfl
  have ey : intC (ny.map (fun k : Nat => (k : Int))) = inoC ny := by unfold inoC intC; rw [List.map_map]; rfl
  rw [ex] at G8 ⊢
  rw [ey] at G9 ⊢
  have D1 := Lib.hid (put_good A c HX6.out hv hk1 hk2 hfx)
  have D2 := Lib.hid (put_good A c HX6.out hv hj1 hj2 hfy)
  have D3 := Lib.hid (fun A c => put_good A c (xs := putV xs k nx) (by rw [putV_length]; omega) (hv.putI hk1 hk2 nx) hj1 hj2 hfy)
  have D4 := Lib.hid (fun A c => put_good A c (xs := putV xs j ny) (by rw [putV_length]; omega) (hv.putI hj1 hj2 ny) hk1 hk2 hfx)
  have HC := Lib.hid (putV_comm hv hk1 hk2 hj1 hj2 hkj nx ny)
  rw [← HC.out] at D4
  have hzr := getR_vol hv hk1 hk2
  have hz := inoR_fit (blkL xs (blkN k)) (atN k)
  have hself := putV_self hv hk1 hk2
  generalize inoR (blkL xs (blkN k)) (atN k) = zl at *
  have D5 := Lib.hid (fun A c => get_lit A c xs k HX6.out hzr (inoE_zero hv hk1 hk2))
  have D6 := Lib.hid (put_good A c HX6.out hv hk1 hk2 hz)
  rw [hself] at D6
  obtain ⟨z0, z1, z2, z3, z4, z5, z6, z7, z8, z9, z10, z11, rfl⟩ := len12 hz.1
  have lit : inoC [z0, z1, z2, z3, z4, z5, z6, z7, z8, z9, z10, z11] = #[.int .i64 (z0 : Int), .int .i64 (z1 : Int), .int .i64 (z2 : Int), .int .i64 (z3 : Int), .int .i64 (z4 : Int), .int .i64 (z5 : Int), .int .i64 (z6 : Int), .int .i64 (z7 : Int), .int .i64 (z8 : Int), .int .i64 (z9 : Int), .int .i64 (z10 : Int), .int .i64 (z11 : Int)] := rfl
  rw [lit] at D5 D6
  have q1 := fun w => ino_eql (z0 : Int) (z1 : Int) (z2 : Int) (z3 : Int) (z4 : Int) (z5 : Int) (z6 : Int) (z7 : Int) (z8 : Int) (z9 : Int) (z10 : Int) (z11 : Int) w
  unfold inoA at q1
  have hya : (putV xs k nx).length = xs.length := putV_length _ _ _
  have hyb : (putV xs j ny).length = xs.length := putV_length _ _ _
  have hyc : (putV (putV xs k nx) j ny).length = xs.length := by rw [putV_length, putV_length]
  rw [hya] at D1 D3
  rw [hyb] at D2 D4
  rw [hyc] at D3 D4
  have SX : Hid ((Try.prog.info? 50).map (·.size) = some (inoC nx).size) := by show _ = _; rw [inoC_size, hfx.1]; kernel_rfl
  have SY : Hid ((Try.prog.info? 50).map (·.size) = some (inoC ny).size) := by show _ = _; rw [inoC_size, hfy.1]; kernel_rfl
  have HM : Hid (xs.length ≤ maxLen) := HX.out
  generalize putV (putV xs k nx) j ny = yc at *
  generalize putV xs k nx = ya at *
  generalize putV xs j ny = yb at *
  have HYC := Lib.hid hyc
  clear hc1 hc2 hv hv' hfx hfy hz hself hzr lit ex ey hya hyb hyc PX PY CX CY HC hnm LX LY
  go_wp2_with (first | (refine load_blk 50 (.tmp 8) w.heap.size 50 (inoC nx) _ rfl rfl rfl G8.out Try.underlying50 rfl (SX.out) ?_; go_frame) | (refine load_blk 50 (.tmp 9) (w.heap.size + 1) 50 (inoC ny) _ rfl rfl rfl G9.out Try.underlying50 rfl (SY.out) ?_; go_frame))
  refine (D1.out _ RV.out).mono ?_
  rintro e u5 ⟨⟨A2, cc2, rfl, hr⟩, hb⟩
  replace B := Lib.hid (B.out.trans (hb.mono B.out.size))
  replace RV := Lib.hid (RV.out.next hb)
  replace G8 := Lib.hid (G8.out.below hb G8.out.lt)
  replace G9 := Lib.hid (G9.out.below hb G9.out.lt)
  clear hb
  have RA := Lib.hid hr
  clear hr
  go_wp2_with (first | (refine load_blk 50 (.tmp 8) w.heap.size 50 (inoC nx) _ rfl rfl rfl G8.out Try.underlying50 rfl (SX.out) ?_; go_frame) | (refine load_blk 50 (.tmp 9) (w.heap.size + 1) 50 (inoC ny) _ rfl rfl rfl G9.out Try.underlying50 rfl (SY.out) ?_; go_frame))
  refine (D2.out _ RV.out).mono ?_
  rintro e u6 ⟨⟨A3, cc3, rfl, hr⟩, hb⟩
  replace B := Lib.hid (B.out.trans (hb.mono B.out.size))
  replace RV := Lib.hid (RV.out.next hb)
  replace RA := Lib.hid (RA.out.next hb)
  replace G8 := Lib.hid (G8.out.below hb G8.out.lt)
  replace G9 := Lib.hid (G9.out.below hb G9.out.lt)
  clear hb
  have RB := Lib.hid hr
  clear hr
  go_wp2_with (first | (refine load_blk 50 (.tmp 8) w.heap.size 50 (inoC nx) _ rfl rfl rfl G8.out Try.underlying50 rfl (SX.out) ?_; go_frame) | (refine load_blk 50 (.tmp 9) (w.heap.size + 1) 50 (inoC ny) _ rfl rfl rfl G9.out Try.underlying50 rfl (SY.out) ?_; go_frame))
  refine (D3.out _ _ _ RA.out).mono ?_
  rintro e u7 ⟨⟨A4, cc4, rfl, hr⟩, hb⟩
  replace B := Lib.hid (B.out.trans (hb.mono B.out.size))
  replace RV := Lib.hid (RV.out.next hb)
  replace RA := Lib.hid (RA.out.next hb)
  replace RB := Lib.hid (RB.out.next hb)
  replace G8 := Lib.hid (G8.out.below hb G8.out.lt)
  replace G9 := Lib.hid (G9.out.below hb G9.out.lt)
  clear hb
  have RC := Lib.hid hr
  clear hr
  go_wp2_with (first | (refine load_blk 50 (.tmp 8) w.heap.size 50 (inoC nx) _ rfl rfl rfl G8.out Try.underlying50 rfl (SX.out) ?_; go_frame) | (refine load_blk 50 (.tmp 9) (w.heap.size + 1) 50 (inoC ny) _ rfl rfl rfl G9.out Try.underlying50 rfl (SY.out) ?_; go_frame))
  refine (D4.out _ _ _ RB.out).mono ?_
  rintro e u8 ⟨⟨A5, cc5, rfl, hr⟩, hb⟩
  replace B := Lib.hid (B.out.trans (hb.mono B.out.size))
  replace RV := Lib.hid (RV.out.next hb)
  replace RA := Lib.hid (RA.out.next hb)
  replace RB := Lib.hid (RB.out.next hb)
  replace RC := Lib.hid (RC.out.next hb)
  replace G8 := Lib.hid (G8.out.below hb G8.out.lt)
  replace G9 := Lib.hid (G9.out.below hb G9.out.lt)
  clear hb
  have RD := Lib.hid hr
  clear hr
  go_wp2_with fail
  refine (D5.out _ _ _ RV.out).mono ?_
  rintro e u9 ⟨rfl, hb⟩
  replace B := Lib.hid (B.out.trans (hb.mono B.out.size))
  replace RV := Lib.hid (RV.out.next hb)
  replace RA := Lib.hid (RA.out.next hb)
  replace RB := Lib.hid (RB.out.next hb)
  replace RC := Lib.hid (RC.out.next hb)
  replace RD := Lib.hid (RD.out.next hb)
  replace G8 := Lib.hid (G8.out.below hb G8.out.lt)
  replace G9 := Lib.hid (G9.out.below hb G9.out.lt)
  clear hb
  have hz5 := B.out.size
  have GZ := Lib.hid (Blk.new u9 50 #[.int .i64 (z0 : Int), .int .i64 (z1 : Int), .int .i64 (z2 : Int), .int .i64 (z3 : Int), .int .i64 (z4 : Int), .int .i64 (z5 : Int), .int .i64 (z6 : Int), .int .i64 (z7 : Int), .int .i64 (z8 : Int), .int .i64 (z9 : Int), .int .i64 (z10 : Int), .int .i64 (z11 : Int)])
  have hba : Below u9.heap.size u9 (u9.alloc (.cells #[.int .i64 (z0 : Int), .int .i64 (z1 : Int), .int .i64 (z2 : Int), .int .i64 (z3 : Int), .int .i64 (z4 : Int), .int .i64 (z5 : Int), .int .i64 (z6 : Int), .int .i64 (z7 : Int), .int .i64 (z8 : Int), .int .i64 (z9 : Int), .int .i64 (z10 : Int), .int .i64 (z11 : Int)] 50)) := (Below.refl _ _).alloc (Nat.le_refl _) _
  replace B := Lib.hid (B.out.trans (hba.mono B.out.size))
  replace RV := Lib.hid (RV.out.next hba)
  replace RA := Lib.hid (RA.out.next hba)
  replace RB := Lib.hid (RB.out.next hba)
  replace RC := Lib.hid (RC.out.next hba)
  replace RD := Lib.hid (RD.out.next hba)
  replace G8 := Lib.hid (G8.out.below hba G8.out.lt)
  replace G9 := Lib.hid (G9.out.below hba G9.out.lt)
  clear hba
  go_wp2_with (refine load_blk 50 (.tmp 19) u9.heap.size 50 #[.int .i64 (z0 : Int), .int .i64 (z1 : Int), .int .i64 (z2 : Int), .int .i64 (z3 : Int), .int .i64 (z4 : Int), .int .i64 (z5 : Int), .int .i64 (z6 : Int), .int .i64 (z7 : Int), .int .i64 (z8 : Int), .int .i64 (z9 : Int), .int .i64 (z10 : Int), .int .i64 (z11 : Int)] _ rfl rfl rfl GZ.out Try.underlying50 rfl (by kernel_rfl) ?_; go_frame)
  refine (D6.out _ RV.out).mono ?_
  rintro e u10 ⟨⟨A6, cc6, rfl, hr⟩, hb⟩
  replace B := Lib.hid (B.out.trans (hb.mono B.out.size))
  replace RV := Lib.hid (RV.out.next hb)
  replace RA := Lib.hid (RA.out.next hb)
  replace RB := Lib.hid (RB.out.next hb)
  replace RC := Lib.hid (RC.out.next hb)
  replace RD := Lib.hid (RD.out.next hb)
  replace G8 := Lib.hid (G8.out.below hb G8.out.lt)
  replace G9 := Lib.hid (G9.out.below hb G9.out.lt)
  replace GZ := Lib.hid (GZ.out.below hb GZ.out.lt)
  clear hb
  have RW := Lib.hid hr
  clear hr
  go_wp2_with fail
  refine (D5.out _ _ _ RW.out).mono ?_
  rintro e u11 ⟨rfl, hb⟩
  replace B := Lib.hid (B.out.trans (hb.mono B.out.size))
  replace RV := Lib.hid (RV.out.next hb)
  replace RA := Lib.hid (RA.out.next hb)
  replace RB := Lib.hid (RB.out.next hb)
  replace RC := Lib.hid (RC.out.next hb)
  replace RD := Lib.hid (RD.out.next hb)
  replace RW := Lib.hid (RW.out.next hb)
  replace G8 := Lib.hid (G8.out.below hb G8.out.lt)
  replace G9 := Lib.hid (G9.out.below hb G9.out.lt)
  replace GZ := Lib.hid (GZ.out.below hb GZ.out.lt)
  clear hb
  have hz7 := B.out.size
  have hzl : u9.heap.size < u11.heap.size := GZ.out.lt
  have GU := Lib.hid (Blk.new u11 50 #[.int .i64 (z0 : Int), .int .i64 (z1 : Int), .int .i64 (z2 : Int), .int .i64 (z3 : Int), .int .i64 (z4 : Int), .int .i64 (z5 : Int), .int .i64 (z6 : Int), .int .i64 (z7 : Int), .int .i64 (z8 : Int), .int .i64 (z9 : Int), .int .i64 (z10 : Int), .int .i64 (z11 : Int)])
  have hba : Below u11.heap.size u11 (u11.alloc (.cells #[.int .i64 (z0 : Int), .int .i64 (z1 : Int), .int .i64 (z2 : Int), .int .i64 (z3 : Int), .int .i64 (z4 : Int), .int .i64 (z5 : Int), .int .i64 (z6 : Int), .int .i64 (z7 : Int), .int .i64 (z8 : Int), .int .i64 (z9 : Int), .int .i64 (z10 : Int), .int .i64 (z11 : Int)] 50)) := (Below.refl _ _).alloc (Nat.le_refl _) _
  replace B := Lib.hid (B.out.trans (hba.mono B.out.size))
  replace RV := Lib.hid (RV.out.next hba)
  replace RA := Lib.hid (RA.out.next hba)
  replace RB := Lib.hid (RB.out.next hba)
  replace RC := Lib.hid (RC.out.next hba)
  replace RD := Lib.hid (RD.out.next hba)
  replace RW := Lib.hid (RW.out.next hba)
  replace G8 := Lib.hid (G8.out.below hba G8.out.lt)
  replace G9 := Lib.hid (G9.out.below hba G9.out.lt)
  replace GZ := Lib.hid (GZ.out.below hba GZ.out.lt)
  clear hba
  have DS := Lib.hid (fun A B c d w h1 h2 => same18_below A B c d yc yc w (by rw [HYC.out]; exact HM.out) (by rw [HYC.out]; exact HM.out) h1 h2)
  rw [HYC.out, eqL_self] at DS
  have DT := Lib.hid (fun A B c d w h1 h2 => same18_below A B c d xs xs w HM.out HM.out h1 h2)
  rw [eqL_self] at DT
  go_wp2_with fail
  refine (DS.out A4 A5 cc4 cc5 _ RC.out RD.out).mono ?_
  rintro e u12 ⟨rfl, hb⟩
  replace B := Lib.hid (B.out.trans (hb.mono B.out.size))
  replace RV := Lib.hid (RV.out.next hb)
  replace RA := Lib.hid (RA.out.next hb)
  replace RB := Lib.hid (RB.out.next hb)
  replace RC := Lib.hid (RC.out.next hb)
  replace RD := Lib.hid (RD.out.next hb)
  replace RW := Lib.hid (RW.out.next hb)
  replace G8 := Lib.hid (G8.out.below hb G8.out.lt)
  replace G9 := Lib.hid (G9.out.below hb G9.out.lt)
  replace GZ := Lib.hid (GZ.out.below hb GZ.out.lt)
  replace GU := Lib.hid (GU.out.below hb GU.out.lt)
  clear hb
  have j0 := GZ.out.cell 0 rfl
  have j1 := GZ.out.cell 1 rfl
  have j2 := GZ.out.cell 2 rfl
  have j3 := GZ.out.cell 3 rfl
  have j4 := GZ.out.cell 4 rfl
  have j5 := GZ.out.cell 5 rfl
  have j6 := GZ.out.cell 6 rfl
  have j7 := GZ.out.cell 7 rfl
  have j8 := GZ.out.cell 8 rfl
  have j9 := GZ.out.cell 9 rfl
  have j10 := GZ.out.cell 10 rfl
  have j11 := GZ.out.cell 11 rfl
  have i0 := GU.out.cell 0 rfl
  have i1 := GU.out.cell 1 rfl
  have i2 := GU.out.cell 2 rfl
  have i3 := GU.out.cell 3 rfl
  have i4 := GU.out.cell 4 rfl
  have i5 := GU.out.cell 5 rfl
  have i6 := GU.out.cell 6 rfl
  have i7 := GU.out.cell 7 rfl
  have i8 := GU.out.cell 8 rfl
  have i9 := GU.out.cell 9 rfl
  have i10 := GU.out.cell 10 rfl
  have i11 := GU.out.cell 11 rfl
  go_wp2_with fail
  refine (DT.out A6 A cc6 c _ RW.out RV.out).mono ?_
  rintro e u13 ⟨rfl, hb⟩
  replace B := Lib.hid (B.out.trans (hb.mono B.out.size))
  replace RV := Lib.hid (RV.out.next hb)
  replace RA := Lib.hid (RA.out.next hb)
  replace RB := Lib.hid (RB.out.next hb)
  replace RC := Lib.hid (RC.out.next hb)
  replace RD := Lib.hid (RD.out.next hb)
  replace RW := Lib.hid (RW.out.next hb)
  replace G8 := Lib.hid (G8.out.below hb G8.out.lt)
  replace G9 := Lib.hid (G9.out.below hb G9.out.lt)
  replace GZ := Lib.hid (GZ.out.below hb GZ.out.lt)
  replace GU := Lib.hid (GU.out.below hb GU.out.lt)
  clear hb
  clear i0 j0 i1 j1 i2 j2 i3 j3 i4 j4 i5 j5 i6 j6 i7 j7 i8 j8 i9 j9 i10 j10 i11 j11
  go_wp2
  go_ret
  exact ⟨rfl, B.out⟩
end Go.Proofs.Ytclmocppphojfaa
