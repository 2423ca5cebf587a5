/-
  What the document's Get of layer 18 computes.
-/
import Derived.Test.YtoanladhikdcaaaGreatRInoA
namespace Go.Proofs.YtoanladhikdcaaaGreat
open Go.RowKit
set_option linter.unusedVariables false
set_option linter.unusedSimpArgs false
set_option maxRecDepth 100000
theorem numAt_extract (s : ByteArray) (p i k : Nat) (h : i + k ≤ 64) : numAt (s.extract p (p + 64)).data.toList i k = numAt s.data.toList (p + i) k := by
  unfold numAt
  rw [Lib.extract_data, show p + 64 - p = 64 by omega, List.drop_take, List.take_take, List.drop_drop, show min k (64 - i) = k by omega]
theorem inoR_extract (s : ByteArray) (p : Nat) : inoR (s.extract p (p + 64)).data.toList 0 = inoR s.data.toList p := by
  unfold inoR
  simp only [Nat.zero_add]
  rw [numAt_extract s p 0 1 (by omega), numAt_extract s p 2 2 (by omega), numAt_extract s p 1 1 (by omega), numAt_extract s p 4 4 (by omega), numAt_extract s p 8 2 (by omega), numAt_extract s p 10 2 (by omega), numAt_extract s p 12 2 (by omega), numAt_extract s p 14 2 (by omega), numAt_extract s p 16 2 (by omega), numAt_extract s p 18 2 (by omega), numAt_extract s p 20 2 (by omega), numAt_extract s p 22 2 (by omega)]
  rfl
set_option maxHeartbeats 2000000 in
theorem rget_ino (A : Option Addr) (c : Nat) (xs : List ByteArray) (n : Int) (w : World) (hx : xs.length ≤ 1000000) (h : RowAt w w.heap.size A (xs.map .string)) :
    Calls Tryz.prog 41 #[.slice A xs.length c, .int .i64 n] w fun e w' => e = .returned (.tuple #[.agg (inoC (getR xs n)), .int .i64 (inoE xs n)]) ∧ Below w.heap.size w w' := by
  have B0 : Hid (Below w.heap.size w (w.alloc (.cells (inoC (List.replicate 12 0)) 35))) := (Below.refl _ _).alloc (Nat.le_refl _) _
  have R0 : Hid (RowAt (w.alloc (.cells (inoC (List.replicate 12 0)) 35)) (w.alloc (.cells (inoC (List.replicate 12 0)) 35)).heap.size A (xs.map .string)) := (h.below B0.out).mono (by simp)
  have HR := Lib.hid h
  clear h
  go_enter Tryz.func41, Tryz.ntmps41
  go_wp2_with fail
  refine (rof_any A c xs _ hx R0.out).mono ?_
  rintro e w1 ⟨rfl, hb1⟩
  have G4 : Hid (Blk w1 w.heap.size 35 (inoC (List.replicate 12 0))) := (Blk.new w _ _).below hb1 (by simp)
  have B1 : Hid (Below w.heap.size w w1) := B0.out.trans (hb1.mono (by simp))
  have hz1 := B1.out.size
  have hlt1 : w.heap.size < w1.heap.size := G4.out.lt
  clear hb1 R0 B0
  have HZ : Hid (inoE xs n ≠ 0 → getR xs n = List.replicate 12 0) := fun h => by unfold getR; rw [if_neg h]
  cases ho : ofR xs with
  | none =>
    have HE : Hid (inoE xs n = 3 ∧ getR xs n = List.replicate 12 0) := by
      have : inoE xs n = 3 := by unfold inoE; rw [ho]
      exact ⟨this, HZ.out (by omega)⟩
    clear ho
    unfold ofE
    dsimp only
    go_wp2_with (refine store_blk 35 (.tmp 4) (.tmp 16) w.heap.size 35 (inoC (List.replicate 12 0)) (inoC (List.replicate 12 0)) rfl rfl rfl rfl (G4.out.alloc _) rfl (by kernel_rfl) (inoC_one _) ?_; intro w4 hr4 hg4)
    refine bodyPost_ret (results_ct rfl rfl rfl hr4 Tryz.underlying35 rfl (by kernel_rfl)) rfl ⟨?_, ?_⟩
    · rw [HE.out.1, HE.out.2]; rfl
    · exact (B1.out.alloc hz1 _).grown hg4 (by simp; omega) (fun k e => by cases e; exact Nat.le_refl _)
  | some m =>
    have hv := ofR_some.1 ho
    have hl := hv.len
    unfold ofE
    dsimp only
    by_cases hc : n < 1 ∨ (m : Int) < n
    · have HE : Hid (inoE xs n = 2 ∧ getR xs n = List.replicate 12 0) := by
        have : inoE xs n = 2 := by unfold inoE; rw [ho]; dsimp only; rw [if_pos hc]
        exact ⟨this, HZ.out (by omega)⟩
      clear ho hv
      by_cases h1 : n < 1
      · clear hc
        go_wp2_with (refine store_blk 35 (.tmp 4) (.tmp 26) w.heap.size 35 (inoC (List.replicate 12 0)) (inoC (List.replicate 12 0)) rfl rfl rfl rfl (G4.out.alloc _) rfl (by kernel_rfl) (inoC_one _) ?_; intro w4 hr4 hg4)
        refine bodyPost_ret (results_ct rfl rfl rfl hr4 Tryz.underlying35 rfl (by kernel_rfl)) rfl ⟨?_, ?_⟩
        · rw [HE.out.1, HE.out.2]; rfl
        · exact (B1.out.alloc hz1 _).grown hg4 (by simp; omega) (fun k e => by cases e; exact Nat.le_refl _)
      · have h2 : (m : Int) < n := by omega
        have h1' : decide (n < 1) = false := by simpa using h1
        clear hc
        go_wp2_with (refine store_blk 35 (.tmp 4) (.tmp 26) w.heap.size 35 (inoC (List.replicate 12 0)) (inoC (List.replicate 12 0)) rfl rfl rfl rfl (G4.out.alloc _) rfl (by kernel_rfl) (inoC_one _) ?_; intro w4 hr4 hg4)
        refine bodyPost_ret (results_ct rfl rfl rfl hr4 Tryz.underlying35 rfl (by kernel_rfl)) rfl ⟨?_, ?_⟩
        · rw [HE.out.1, HE.out.2]; rfl
        · exact (B1.out.alloc hz1 _).grown hg4 (by simp; omega) (fun k e => by cases e; exact Nat.le_refl _)
    · have h0 : inoE xs n = 0 := by unfold inoE; rw [ho]; dsimp only; rw [if_neg hc]
      obtain ⟨m', k, hv', rfl, hk1, hk2, hk3⟩ := inoE_ok h0
      obtain rfl : m' = m := by have := ofR_some.2 hv'; rw [ho] at this; exact (Option.some.inj this).symm
      have hbl : 3 + (k - 1) / 2 < xs.length := by unfold blkN at hk3; omega
      have hsz := hv.size _ hbl
      have h1' : decide ((k : Int) < 1) = false := by simp; omega
      have h2' : decide ((m' : Int) < (k : Int)) = false := by simp; omega
      obtain ⟨q, hq⟩ : ∃ q, (k - 1) / 2 = q := ⟨_, rfl⟩
      obtain ⟨p, hp⟩ : ∃ p, (k - 1) % 2 = p := ⟨_, rfl⟩
      have HG : Hid (getR xs (k : Int) = inoR (blkL xs (3 + q)) (p * 64)) := by show _ = _; unfold getR; rw [if_pos h0, ← hq, ← hp]; rfl
      have HE := Lib.hid h0
      rw [hq] at hbl hsz
      have B2 := Lib.hid (B1.out.alloc hz1 (.cells #[.int .i64 (xs.length : Int), .int .i64 (m' : Int), .int .i64 1, .int .i64 2, .int .i64 3, .int .i64 (dataN m' : Int)] 54))
      obtain ⟨bb, oo, rfl, hbb, hcell⟩ := row_get ((HR.out.below B2.out).mono B2.out.size) (3 + q) hbl
      unfold blkL at HG
      generalize xs.getD (3 + q) ⟨#[]⟩ = s at *
      have f1 : IntKind.i64.wrap ((k : Int) - 1) = ((k - 1 : Nat) : Int) := by rw [IntWalk.i64_in _ (by omega)]; omega
      have f2 : ((k - 1 : Nat) : Int).tmod 2 = (p : Int) := by rw [← hp]; rfl
      have f3 : ((k - 1 : Nat) : Int).tdiv 2 = (q : Int) := by rw [← hq]; rfl
      have hp1 : p < 2 := by omega
      have f4 : IntKind.i64.wrap ((p : Int) * 64) = ((p * 64 : Nat) : Int) := by rw [IntWalk.i64_in _ (by omega)]; omega
      have f5 : IntKind.i64.wrap (3 + (q : Int)) = ((3 + q : Nat) : Int) := by rw [IntWalk.i64_in _ (by omega)]; omega
      have f6 : IntKind.i64.wrap (((p * 64 : Nat) : Int) + 64) = ((p * 64 + 64 : Nat) : Int) := by rw [IntWalk.i64_in _ (by omega)]; omega
      have CO : Hid (∀ w, Calls Tryz.prog 74 #[.string (s.extract (p * 64) (p * 64 + 64))] w fun e w' => e = .returned (.agg (inoC (getR xs (k : Int)))) ∧ Below w.heap.size w w') := fun w => by
        rw [HG.out, ← inoR_extract]
        exact rof_ino _ w (by rw [ByteArray.size_extract]; omega)
      have G5 := Lib.hid (G4.out.alloc (.cells #[.int .i64 (xs.length : Int), .int .i64 (m' : Int), .int .i64 1, .int .i64 2, .int .i64 3, .int .i64 (dataN m' : Int)] 54))
      clear h0 hk3 HG hv hv' hc ho hq hp HR
      go_wp2_with fail
      refine (CO.out _).mono ?_
      rintro e w3 ⟨rfl, hb3⟩
      have G6 := Lib.hid (G5.out.below hb3 G5.out.lt)
      have B3 := Lib.hid (B2.out.trans (hb3.mono B2.out.size))
      have hz3 := B3.out.size
      clear hb3
      go_wp2_with (refine store_blk 35 (.tmp 4) (.tmp 44) w.heap.size 35 (inoC (List.replicate 12 0)) (inoC (getR xs (k : Int))) rfl rfl rfl rfl G6.out (by rw [inoC_size, inoC_size, getR_len]; rfl) (by rw [inoC_size, getR_len]; kernel_rfl) (inoC_one _) ?_; intro w4 hr4 hg4)
      refine bodyPost_ret (results_ct rfl rfl rfl hr4 Tryz.underlying35 rfl (by rw [inoC_size, getR_len]; kernel_rfl)) rfl ⟨?_, ?_⟩
      · rw [HE.out]; rfl
      · exact B3.out.grown hg4 hz3 (fun k e => by cases e; exact Nat.le_refl _)
end Go.Proofs.YtoanladhikdcaaaGreat
