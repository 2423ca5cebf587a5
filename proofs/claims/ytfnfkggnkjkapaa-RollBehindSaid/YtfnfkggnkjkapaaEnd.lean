/-
  What roll.roller, the function that it hands back, and roll.end compute.
-/
import Derived.Test.YtfnfkggnkjkapaaSum
namespace Go.Proofs.Ytfnfkggnkjkapaa
open Go.RowKit
set_option linter.unusedVariables false
set_option linter.unusedSimpArgs false

set_option maxHeartbeats 400000 in
theorem roller_any (W : Nat) (w : World) (hW : W ≤ 64) :
    Calls Try.prog 22 #[.int .i64 W] w fun e w' =>
      e = .returned (.func (Fn.func 25) #[] #[.pointer (some ⟨w.heap.size + 1 + 1, 0, none⟩), .pointer (some ⟨w.heap.size, 0, none⟩), .pointer (some ⟨w.heap.size + 1, 0, none⟩)]) ∧
      ((w.alloc (.cells #[.int .i64 W] 3)).alloc (.cells #[.int .u32 (P.pw W)] 22)).alloc (.cells #[.int .u32 0] 22) = w' := by
  go_enter Try.func22, Try.ntmps22
  go_wp2
  go_loopw [6] (fun i wr => ∃ k : Nat, k ≤ W ∧ i = .int .i64 k ∧ wr = (w.alloc (.cells #[.int .i64 W] 3)).alloc (.cells #[.int .u32 (P.pw k)] 22)) (fun i _ => W - (intOf i).toNat)
  case atStart => exact ⟨0, Nat.zero_le _, rfl, rfl⟩
  case round =>
    obtain ⟨k, hk, rfl, rfl⟩ := hrel
    by_cases hlt : k < W
    · go_wp2
      go_roundw
      case rel => exact ⟨k + 1, by omega, by go_num, rfl⟩
      case measure => simp [intOf]; omega
    · have : k = W := by omega
      subst this
      go_wp2
      go_ret
      exact ⟨rfl, rfl⟩

theorem cell_far {w : World} {b g o i : Nat} {x v : Value} (h : w.cell? ⟨b, o, none⟩ = some x) (hne : b ≠ g) : (w.setCell ⟨g, i, none⟩ v).cell? ⟨b, o, none⟩ = some x := by
  rw [World.cell?_setCell_other]
  · exact h
  · intro e; injection e with e1; exact hne e1.symm

set_option maxHeartbeats 400000 in
theorem roll_near (d : ByteArray) (k W bS bW bP : Nat) (z p : Int) (w : World) (hs : d.size ≤ 9223372036854775807) (hk : k < d.size) (hkW : k < W) (hW : W ≤ 64)
    (hS : Blk w bS 22 #[.int .u32 z]) (hBW : Blk w bW 3 #[.int .i64 W]) (hne : bW ≠ bS) :
    Calls Try.prog 25 #[.string d, .int .i64 k, .pointer (some ⟨bS, 0, none⟩), .pointer (some ⟨bW, 0, none⟩), .pointer (some ⟨bP, 0, none⟩)] w fun e w' =>
      e = .returned (.int .u32 (P.stp z (d[k]'hk))) ∧ Blk w' bS 22 #[.int .u32 (P.stp z (d[k]'hk))] ∧ w.grownBy w' (some bS) := by
  have c1 : w.cell? ⟨bS, 0, none⟩ = some (.int .u32 z) := hS.cell 0 rfl
  have c2 := hS.frozen 0
  have c3 : ∀ v, (w.setCell ⟨bS, 0, none⟩ v).cell? ⟨bW, 0, none⟩ = some (.int .i64 W) := fun v => cell_far (hBW.cell 0 rfl) hne
  have HS := Lib.hid hS
  clear hS hBW
  go_enter Try.func25, Try.ntmps25
  go_wp2
  go_region
  all_goals
    go_wp2
    go_ret
    refine ⟨ret_int (P.stp_eq _ _).symm, ?_, ?_⟩
    · rw [P.stp_eq]; exact (HS.out.set_ 0 _).drew
    · exact only_drew (only_setCell (World.grownBy.refl w _) 0 _)

set_option maxHeartbeats 400000 in
theorem roll_far (d : ByteArray) (k W bS bW bP : Nat) (z p : Int) (w : World) (hs : d.size ≤ 9223372036854775807) (hk : k < d.size) (hkW : W ≤ k) (hW : W ≤ 64)
    (hS : Blk w bS 22 #[.int .u32 z]) (hBW : Blk w bW 3 #[.int .i64 W]) (hBP : Blk w bP 22 #[.int .u32 p]) (hne : bW ≠ bS) (hne2 : bP ≠ bS) (Z : Int)
    (hZ : (P.stp z (d[k]'hk) - (((d[k - W]'(by omega)).toNat : Int) + 1) * p) % 4294967296 = Z) :
    Calls Try.prog 25 #[.string d, .int .i64 k, .pointer (some ⟨bS, 0, none⟩), .pointer (some ⟨bW, 0, none⟩), .pointer (some ⟨bP, 0, none⟩)] w fun e w' =>
      e = .returned (.int .u32 Z) ∧ Blk w' bS 22 #[.int .u32 Z] ∧ w.grownBy w' (some bS) := by
  have c1 : w.cell? ⟨bS, 0, none⟩ = some (.int .u32 z) := hS.cell 0 rfl
  have c2 := hS.frozen 0
  have c3 : ∀ v, (w.setCell ⟨bS, 0, none⟩ v).cell? ⟨bW, 0, none⟩ = some (.int .i64 W) := fun v => cell_far (hBW.cell 0 rfl) hne
  have c4 : ∀ v, (w.setCell ⟨bS, 0, none⟩ v).cell? ⟨bP, 0, none⟩ = some (.int .u32 p) := fun v => cell_far (hBP.cell 0 rfl) hne2
  have HS := Lib.hid hS
  have HZ := Lib.hid hZ
  clear hS hBW hBP hZ
  have i1 : (W : Int) ≤ (k : Int) := by omega
  have i2 : (k : Int) - (W : Int) < (d.size : Int) := by omega
  have i3 : ((k : Int) - (W : Int)).toNat = k - W := by omega
  go_enter Try.func25, Try.ntmps25
  go_wp2
  go_region
  go_wp2
  go_region
  all_goals
    go_wp2
    go_ret
    have hfin : (z * 69069 + ↑d[k].toNat + 1 - (↑d[k - W].toNat + 1) % 4294967296 * p) % 4294967296 = Z := by
      rw [← HZ.out, P.stp_eq]
      have : ((d[k - W].toNat : Int) + 1) % 4294967296 = (d[k - W].toNat : Int) + 1 := by have := d[k - W].toNat_lt; omega
      rw [this]
      generalize ((d[k - W].toNat : Int) + 1) * p = X
      omega
    rw [hfin]
    exact ⟨rfl, ((HS.out.set_ 0 _).set_ 0 _).drew.drew, only_drew (only_drew (only_setCell (only_setCell (World.grownBy.refl w _) 0 _) 0 _))⟩

/-- the roller's function: from the window behind k bytes to that behind one more -/
theorem roll_any (d : ByteArray) (k W bS bW bP : Nat) (w : World) (hs : d.size ≤ 9223372036854775807) (hk : k < d.size) (h1 : 1 ≤ W) (hW : W ≤ 64)
    (hS : Blk w bS 22 #[.int .u32 (P.win W d.data.toList k)]) (hBW : Blk w bW 3 #[.int .i64 W]) (hBP : Blk w bP 22 #[.int .u32 (P.pw W)]) (hne : bW ≠ bS) (hne2 : bP ≠ bS) :
    Calls Try.prog 25 #[.string d, .int .i64 k, .pointer (some ⟨bS, 0, none⟩), .pointer (some ⟨bW, 0, none⟩), .pointer (some ⟨bP, 0, none⟩)] w fun e w' =>
      e = .returned (.int .u32 (P.win W d.data.toList (k + 1))) ∧ Blk w' bS 22 #[.int .u32 (P.win W d.data.toList (k + 1))] ∧ w.grownBy w' (some bS) := by
  have hl : k < d.data.toList.length := by simpa using hk
  by_cases hkW : k < W
  · rw [P.win_grow W _ k hl hkW]
    exact roll_near d k W bS bW bP _ 0 w hs hk hkW hW hS hBW hne
  · refine roll_far d k W bS bW bP _ _ w hs hk (by omega) hW hS hBW hBP hne hne2 _ ?_
    rw [P.win_roll W _ k h1 hl (by omega)]
    rfl

theorem hit_true {W m : Nat} {mask : Int} {l : List UInt8} {k : Nat} (h1 : m ≤ k + 1) (h2 : (bits .and .u32 (P.win W l (k + 1)) mask == mask) = true) : P.hitB W m mask l (k + 1) = true := by unfold P.hitB; simp [h1, h2]
theorem hit_false {W m : Nat} {mask : Int} {l : List UInt8} {k : Nat} (h : ¬ m ≤ k + 1 ∨ (bits .and .u32 (P.win W l (k + 1)) mask == mask) = false) : P.hitB W m mask l (k + 1) = false := by
  unfold P.hitB; rcases h with h | h <;> simp [h]

set_option maxHeartbeats 400000 in
theorem end_any (d : ByteArray) (W m M : Nat) (mask : Int) (w : World) (hs : d.size ≤ 9223372036854775807) (h1 : 1 ≤ W) (hW : W ≤ 64) (hm : W ≤ m) (hM : m ≤ M) (hMM : M ≤ 65536) :
    Calls Try.prog 18 #[.string d, cutsV W m M mask] w fun e w' => e = .returned (.int .i64 (P.endN W m M mask d.data.toList : Nat)) ∧ Below w.heap.size w w' := by
  go_enter Try.func18, Try.ntmps18
  go_wp2_with fail
  refine (roller_any W _ hW).mono ?_
  rintro e w' ⟨rfl, hw⟩
  have g0 : Blk w' w.heap.size 24 #[.int .i64 W, .int .i64 m, .int .i64 M, .int .u32 mask] := by
    rw [← hw]; exact (((Blk.new w 24 _).alloc _).alloc _).alloc _
  have g1 : Blk w' (w.heap.size + 1) 3 #[.int .i64 W] := by
    rw [← hw]; have := Blk.new (w.alloc (.cells #[.int .i64 W, .int .i64 m, .int .i64 M, .int .u32 mask] 24)) 3 #[.int .i64 W]
    simp only [World.size_alloc] at this; exact (this.alloc _).alloc _
  have g2 : Blk w' (w.heap.size + 1 + 1) 22 #[.int .u32 (P.pw W)] := by
    rw [← hw]; have := Blk.new ((w.alloc (.cells #[.int .i64 W, .int .i64 m, .int .i64 M, .int .u32 mask] 24)).alloc (.cells #[.int .i64 W] 3)) 22 #[.int .u32 (P.pw W)]
    simp only [World.size_alloc] at this; exact this.alloc _
  have g3 : Blk w' (w.heap.size + 1 + 1 + 1) 22 #[.int .u32 (P.win W d.data.toList 0)] := by
    rw [← hw, P.win_zero]; have := Blk.new (((w.alloc (.cells #[.int .i64 W, .int .i64 m, .int .i64 M, .int .u32 mask] 24)).alloc (.cells #[.int .i64 W] 3)).alloc (.cells #[.int .u32 (P.pw W)] 22)) 22 #[.int .u32 0]
    simp only [World.size_alloc] at this; exact this
  have gb : Below w.heap.size w w' := by
    rw [← hw]; exact ((((Below.refl _ _).alloc (Nat.le_refl _) _).alloc (by simp) _).alloc (by simp; omega) _).alloc (by simp; omega) _
  clear hw
  have q2 : w'.cell? ⟨w.heap.size, 2, none⟩ = some (.int .i64 M) := g0.cell 2 rfl
  have HG0 := Lib.hid g0
  have HG1 := Lib.hid g1
  have HG2 := Lib.hid g2
  have HG3 := Lib.hid g3
  have HGB := Lib.hid gb
  clear g0 g1 g2 g3 gb
  have hmin : d.data.toList.length = d.size := by simp
  have HMIN := Lib.hid hmin
  clear hmin
  by_cases hMd : M < d.size
  all_goals
    go_wp2
    go_loopw [16] (fun i wr => ∃ k : Nat, k ≤ min d.size M ∧ i = .int .i64 k ∧ Hid (∀ j, j < k → P.hitB W m mask d.data.toList (j + 1) = false) ∧
      Hid (Blk wr w.heap.size 24 #[.int .i64 W, .int .i64 m, .int .i64 M, .int .u32 mask]) ∧ Hid (Blk wr (w.heap.size + 1) 3 #[.int .i64 W]) ∧ Hid (Blk wr (w.heap.size + 1 + 1) 22 #[.int .u32 (P.pw W)]) ∧
      Hid (Blk wr (w.heap.size + 1 + 1 + 1) 22 #[.int .u32 (P.win W d.data.toList k)]) ∧ Hid (Below w.heap.size w wr)) (fun i _ => min d.size M - (intOf i).toNat)
    case atStart => exact ⟨0, Nat.zero_le _, rfl, fun j hj => by omega, HG0, HG1, HG2, HG3, HGB⟩
    case round =>
      obtain ⟨k, hk, rfl, hno, G0, G1, G2, G3, GB⟩ := hrel
      clear HG0 HG1 HG2 HG3 HGB q2
      by_cases hlt : k < min d.size M
      · have hk1 : k < M := by omega
        have hk2 : k < d.size := by omega
        go_wp2_with fail
        refine (roll_any d k W _ _ _ _ hs hk2 h1 hW G3.out G1.out G2.out (by omega) (by omega)).mono ?_
        rintro e w2 ⟨rfl, b3, bg⟩
        have b0 : Blk w2 w.heap.size 24 #[.int .i64 W, .int .i64 m, .int .i64 M, .int .u32 mask] := G0.out.grown bg (by simp; omega)
        have b1 : Blk w2 (w.heap.size + 1) 3 #[.int .i64 W] := G1.out.grown bg (by simp)
        have b2 : Blk w2 (w.heap.size + 1 + 1) 22 #[.int .u32 (P.pw W)] := G2.out.grown bg (by simp)
        have bb : Below w.heap.size w w2 := GB.out.grown bg (by have := GB.out.size; omega) (by intro j hj; injection hj with hj; omega)
        have q1 : w2.cell? ⟨w.heap.size, 1, none⟩ = some (.int .i64 m) := b0.cell 1 rfl
        have q3 : w2.cell? ⟨w.heap.size, 3, none⟩ = some (.int .u32 mask) := b0.cell 3 rfl
        have B0 := Lib.hid b0
        have B1 := Lib.hid b1
        have B2 := Lib.hid b2
        have B3 := Lib.hid b3
        have BB := Lib.hid bb
        clear b0 b1 b2 b3 bb bg G0 G1 G2 G3 GB
        by_cases hmk : m ≤ k + 1
        · cases hbit : (bits .and .u32 (P.win W d.data.toList (k + 1)) mask == mask) with
          | true =>
            have HT := Lib.hid (hit_true hmk hbit)
            go_wp2
            go_ret
            exact ⟨ret_int (by rw [P.endN_hit (k := k) (by rw [HMIN.out]; omega) hno.out HT.out]; go_num), BB.out⟩
          | false =>
            have HT := Lib.hid (hit_false (Or.inr hbit) : P.hitB W m mask d.data.toList (k + 1) = false)
            go_wp2
            go_roundw
            case rel => exact ⟨k + 1, by omega, by go_num, fun j hj => by
              rcases Nat.lt_succ_iff_lt_or_eq.1 hj with h | rfl
              · exact hno.out j h
              · exact HT.out, B0, B1, B2, B3, BB⟩
            case measure => simp [intOf]; omega
        · have HT := Lib.hid (hit_false (Or.inl hmk) : P.hitB W m mask d.data.toList (k + 1) = false)
          have hd : decide (m ≤ k + 1) = false := by simpa using hmk
          go_wp2
          go_roundw
          case rel => exact ⟨k + 1, by omega, by go_num, fun j hj => by
              rcases Nat.lt_succ_iff_lt_or_eq.1 hj with h | rfl
              · exact hno.out j h
              · exact HT.out, B0, B1, B2, B3, BB⟩
          case measure => simp [intOf]; omega
      · have q2 : wr.cell? ⟨w.heap.size, 2, none⟩ = some (.int .i64 M) := G0.out.cell 2 rfl
        go_wp2
        go_ret
        refine ⟨ret_int ?_, GB.out⟩
        rw [P.endN_none (fun j hj => hno.out j (by rw [HMIN.out] at hj; omega)), HMIN.out]
        omega
end Go.Proofs.Ytfnfkggnkjkapaa
