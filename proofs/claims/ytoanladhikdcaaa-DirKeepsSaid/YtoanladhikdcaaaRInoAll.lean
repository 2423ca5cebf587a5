/-
  What the document's All of layer 18 computes.
-/
import Derived.Test.YtoanladhikdcaaaRInoGet
namespace Go.Proofs.Ytoanladhikdcaaa
open Go.RowKit
set_option linter.unusedVariables false
set_option linter.unusedSimpArgs false
set_option maxRecDepth 100000
theorem rget_lit (A : Option Addr) (c : Nat) (xs : List ByteArray) (m n : Nat) (w : World) (hx : xs.length ≤ 1000000) (hv : IsVol xs m) (h1 : 1 ≤ n) (h2 : n ≤ m) (h : RowAt w w.heap.size A (xs.map .string)) :
    Calls Try.prog 19 #[.slice A xs.length c, .int .i64 n] w fun e w' => (∃ a1 a2 a3 a4 a5 a6 a7 a8 a9 a10 a11 : Int, e = .returned (.tuple #[.agg #[.int .i64 (kindR xs n : Nat), .int .i64 a1, .int .i64 a2, .int .i64 a3, .int .i64 a4, .int .i64 a5, .int .i64 a6, .int .i64 a7, .int .i64 a8, .int .i64 a9, .int .i64 a10, .int .i64 a11], .int .i64 0])) ∧ Below w.heap.size w w' :=
  (rget_ino A c xs n w hx h).mono fun e w' ⟨he, hb⟩ => by
    rw [inoE_zero hv h1 h2, getR_vol hv h1 h2] at he
    exact ⟨⟨_, _, _, _, _, _, _, _, _, _, _, he⟩, hb⟩
set_option maxHeartbeats 2000000 in
theorem rall_ino (A : Option Addr) (c : Nat) (xs : List ByteArray) (w : World) (hx : xs.length ≤ 1000000) (h : RowAt w w.heap.size A (xs.map .string)) :
    Calls Try.prog 43 #[.slice A xs.length c] w fun e w' => (∃ v, e = .returned v ∧ OwnNums (allO xs) w v w') ∧ Below w.heap.size w w' := by
  have HR := Lib.hid h
  obtain ⟨i0, q1, q2, q3, q4⟩ := info_parts i64_info
  have I0 := Lib.hid (And.intro q1 (And.intro q2 (And.intro q3 q4)))
  clear h q1 q2 q3 q4
  go_enter Try.func43, Try.ntmps43
  go_wp2_with fail
  refine (rof_any A c xs _ hx HR.out).mono ?_
  rintro e w1 ⟨rfl, hb1⟩
  have B1 := Lib.hid hb1
  have hz1 := B1.out.size
  clear hb1
  cases ho : ofR xs with
  | none =>
    have HP : Hid (allO xs = []) := by show _ = _; unfold allO; rw [ho]
    clear ho
    have BN := Lib.hid (B1.out.alloc hz1 (.cells #[.int .i64 0, .int .i64 0, .int .i64 0, .int .i64 0, .int .i64 0, .int .i64 0] 67))
    unfold ofE
    go_wp2
    go_loopw [5, 6] (fun v i wr => i = .int .i64 1 ∧ Hid (OwnNums [] w v wr) ∧ Hid (Below w.heap.size w wr)) (fun _ i _ => 0)
    case atStart => exact ⟨rfl, World.ownsRow_nil _ _ _ _, BN⟩
    case round =>
      obtain ⟨rfl, OK, BK⟩ := hrel
      go_wp2
      go_ret
      rw [HP.out]
      exact ⟨⟨_, rfl, OK.out⟩, BK.out⟩
  | some m =>
    have hv := ofR_some.1 ho
    have hl := hv.len
    have HV := Lib.hid hv
    have HP : Hid (allO xs = allR xs m) := by show _ = _; unfold allO; rw [ho]
    unfold ofE
    dsimp only
    have hfd := ino_field0
    have GN := Lib.hid (Blk.new w1 67 #[.int .i64 (xs.length : Int), .int .i64 (m : Int), .int .i64 1, .int .i64 2, .int .i64 3, .int .i64 (dataN m : Int)])
    have BN := Lib.hid (B1.out.alloc hz1 (.cells #[.int .i64 (xs.length : Int), .int .i64 (m : Int), .int .i64 1, .int .i64 2, .int .i64 3, .int .i64 (dataN m : Int)] 67))
    clear ho hv
    go_wp2
    go_loopw [5, 6] (fun v i wr => ∃ k : Nat, k ≤ m ∧ i = .int .i64 ((k + 1 : Nat) : Int) ∧ Hid (OwnNums (allR xs k) w v wr) ∧ Hid (Blk wr w1.heap.size 67 #[.int .i64 (xs.length : Int), .int .i64 (m : Int), .int .i64 1, .int .i64 2, .int .i64 3, .int .i64 (dataN m : Int)]) ∧ Hid (Below w.heap.size w wr)) (fun _ i _ => m + 1 - (intOf i).toNat)
    case atStart => exact ⟨0, by omega, rfl, World.ownsRow_nil _ _ _ _, GN, BN⟩
    case round =>
      obtain ⟨k, hk1, rfl, OK, GK, BK⟩ := hrel
      have g1 := GK.out.cell 1 rfl
      by_cases hlt : k < m
      · have hlt' : ((k + 1 : Nat) : Int) ≤ (m : Int) := by omega
        have TL := Lib.hid (fun w h => rget_lit A c xs m (k + 1) w hx HV.out (by omega) hlt h)
        have hal := allR_len xs k
        have HSU := Lib.hid (allR_succ xs k)
        go_wp2_with fail
        refine (TL.out _ ((HR.out.below BK.out).mono BK.out.size)).mono ?_
        rintro e w3 ⟨⟨a1, a2, a3, a4, a5, a6, a7, a8, a9, a10, a11, rfl⟩, hb3⟩
        have G3 := Lib.hid (GK.out.below hb3 GK.out.lt)
        have B3 := Lib.hid (BK.out.trans (hb3.mono BK.out.size))
        have O3 : Hid (OwnNums (allR xs k) w _ w3) := own_below OK.out hb3
        clear hb3 TL g1
        replace G3 := Lib.hid (G3.out.alloc (.cells #[.int .i64 ((kindR xs (k + 1) : Nat) : Int), .int .i64 a1, .int .i64 a2, .int .i64 a3, .int .i64 a4, .int .i64 a5, .int .i64 a6, .int .i64 a7, .int .i64 a8, .int .i64 a9, .int .i64 a10, .int .i64 a11] 41))
        have hz3 := B3.out.size
        replace B3 := Lib.hid (B3.out.alloc hz3 (.cells #[.int .i64 ((kindR xs (k + 1) : Nat) : Int), .int .i64 a1, .int .i64 a2, .int .i64 a3, .int .i64 a4, .int .i64 a5, .int .i64 a6, .int .i64 a7, .int .i64 a8, .int .i64 a9, .int .i64 a10, .int .i64 a11] 41))
        replace O3 : Hid ((w3.alloc (.cells #[.int .i64 ((kindR xs (k + 1) : Nat) : Int), .int .i64 a1, .int .i64 a2, .int .i64 a3, .int .i64 a4, .int .i64 a5, .int .i64 a6, .int .i64 a7, .int .i64 a8, .int .i64 a9, .int .i64 a10, .int .i64 a11] 41)).ownsRow w.heap.size 3 1 _ (allR xs k).length (numsC (allR xs k))) := World.ownsRow.alloc O3.out _
        by_cases hkd : kindR xs (k + 1) = 0
        · have t1 : (((kindR xs (k + 1) : Nat) : Int) != 0) = false := by rw [hkd]; rfl
          have HE : Hid (allR xs (k + 1) = allR xs k) := by show _ = _; rw [HSU.out, hkd]; simp
          clear hkd HSU
          generalize kindR xs (k + 1) = kd at *
          go_wp2
          go_roundw
          case rel => exact ⟨k + 1, by omega, by go_num, by rw [HE.out]; exact O3, G3, B3⟩
          case measure => simp [intOf]; omega
        · have t1 : (((kindR xs (k + 1) : Nat) : Int) != 0) = true := by simpa using hkd
          have HE : Hid (allR xs (k + 1) = allR xs k ++ [k + 1]) := by show _ = _; rw [HSU.out]; simp [hkd]
          clear hkd HSU
          generalize kindR xs (k + 1) = kd at *
          generalize hgs : allR xs k = gs at *
          have O4 : Hid (((w3.alloc (.cells #[.int .i64 (kd : Int), .int .i64 a1, .int .i64 a2, .int .i64 a3, .int .i64 a4, .int .i64 a5, .int .i64 a6, .int .i64 a7, .int .i64 a8, .int .i64 a9, .int .i64 a10, .int .i64 a11] 41)).alloc (.cells #[.int .i64 ((k + 1 : Nat) : Int)] 3)).ownsRow w.heap.size 3 1 _ gs.length (numsC gs)) := World.ownsRow.alloc O3.out _
          have B4 := Lib.hid (B3.out.alloc B3.out.size (.cells #[.int .i64 ((k + 1 : Nat) : Int)] 3))
          have G4 := Lib.hid (G3.out.alloc (.cells #[.int .i64 ((k + 1 : Nat) : Int)] 3))
          have HC : Hid (∀ j u, [Value.int .i64 ((k + 1 : Nat) : Int)][j]? = some u → ((w3.alloc (.cells #[.int .i64 (kd : Int), .int .i64 a1, .int .i64 a2, .int .i64 a3, .int .i64 a4, .int .i64 a5, .int .i64 a6, .int .i64 a7, .int .i64 a8, .int .i64 a9, .int .i64 a10, .int .i64 a11] 41)).alloc (.cells #[.int .i64 ((k + 1 : Nat) : Int)] 3)).cell? ((⟨w3.heap.size + 1, 0, none⟩ : Addr).add j) = some u) := fun j u hu => by
            cases j with
            | zero =>
              cases hu
              have := (Blk.new (w3.alloc (.cells #[.int .i64 (kd : Int), .int .i64 a1, .int .i64 a2, .int .i64 a3, .int .i64 a4, .int .i64 a5, .int .i64 a6, .int .i64 a7, .int .i64 a8, .int .i64 a9, .int .i64 a10, .int .i64 a11] 41)) 3 #[.int .i64 ((k + 1 : Nat) : Int)]).cell 0 rfl
              rw [World.size_alloc] at this
              exact this
            | succ j => simp at hu
          have H1 : Hid (∀ u ∈ [Value.int .i64 ((k + 1 : Nat) : Int)], u.oneCell' = true) := fun u hu => by simp at hu; subst hu; rfl
          have HM : Hid (gs.length + 1 ≤ maxLen) := by show _ ≤ _; unfold maxLen; omega
          have HY : Hid ((gs.length + 1) * 8 ≤ 140737488355328) := by show _ ≤ _; omega
          go_wp2_with (at_builtin; refine wpList_append_own _ rfl (.tmp 33) (.tmp 35) 71 rfl w.heap.size 3 i0 (.int .i64 0) 1 8 Try.underlying71 I0.out.1 I0.out.2.1 I0.out.2.2.1 I0.out.2.2.2 rfl (by decide) _ gs.length (numsC gs) rfl O4.out ⟨w3.heap.size + 1, 0, none⟩ 1 1 [.int .i64 ((k + 1 : Nat) : Int)] rfl rfl HC.out H1.out HM.out HY.out B4.out.size ?_; intro v9 w9 own hg hv)
          have ON : Hid (OwnNums (allR xs (k + 1)) w v9 w9) := by
            rw [HE.out]
            unfold OwnNums
            rw [List.length_append, numsC_snoc]; exact own
          have GN2 := Lib.hid (G4.out.grown hg (own_ne O4.out G4.out (by decide)))
          have BN2 := Lib.hid (B4.out.grown hg B4.out.size (fun j e => (O4.out.lt j e).1))
          clear own hg hv
          go_wp2
          go_roundw
          case rel => exact ⟨k + 1, by omega, by go_num, ON, GN2, BN2⟩
          case measure => simp [intOf]; omega
      · obtain rfl : k = m := by omega
        have hlt' : ¬ ((k + 1 : Nat) : Int) ≤ (k : Int) := by omega
        go_wp2
        go_ret
        rw [HP.out]
        exact ⟨⟨_, rfl, OK.out⟩, BK.out⟩
end Go.Proofs.Ytoanladhikdcaaa
