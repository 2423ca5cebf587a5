/-
  What inode.known, Get and Put compute.
-/
import Derived.Test.YtoanladhikdcaaaGreatWritten
import Derived.Test.YtoanladhikdcaaaGreatTakesOwn
namespace Go.Proofs.YtoanladhikdcaaaGreat
open Go.RowKit
set_option linter.unusedVariables false
set_option linter.unusedSimpArgs false
set_option maxRecDepth 100000
/-- is there an inode of that number? why not? -/
def inoE (xs : List ByteArray) (n : Int) : Int := match ofR xs with
  | none => 3
  | some m => if n < 1 ∨ (m : Int) < n then 2 else 0
/-- where things are, for an inode that is there -/
def knownC (xs : List ByteArray) (n : Int) : Array Value := match ofR xs with
  | none => geomZ
  | some m => if n < 1 ∨ (m : Int) < n then geomZ else #[.int .i64 (xs.length : Int), .int .i64 (m : Int), .int .i64 1, .int .i64 2, .int .i64 3, .int .i64 (dataN m : Nat)]
def blkN (n : Nat) : Nat := 3 + (n - 1) / 2
def atN (n : Nat) : Nat := (n - 1) % 2 * 64
/-- an inode's numbers -/
def getR (xs : List ByteArray) (n : Int) : List Nat := if inoE xs n = 0 then inoR (blkL xs (blkN n.toNat)) (atN n.toNat) else List.replicate 12 0
theorem inoE_ok {xs : List ByteArray} {n : Int} (h : inoE xs n = 0) : ∃ (m k : Nat), IsVol xs m ∧ n = (k : Int) ∧ 1 ≤ k ∧ k ≤ m ∧ blkN k < dataN m := by
  unfold inoE at h
  cases ho : ofR xs with
  | none => rw [ho] at h; cases h
  | some m =>
    rw [ho] at h
    dsimp only at h
    by_cases hc : n < 1 ∨ (m : Int) < n
    · rw [if_pos hc] at h; cases h
    · refine ⟨m, n.toNat, ofR_some.1 ho, by omega, by omega, by omega, ?_⟩
      unfold blkN dataN
      omega
theorem geomZ_one : ∀ v ∈ geomZ, v.oneCell' = true := by intro v hv; unfold geomZ at hv; simp at hv; subst hv; rfl
theorem geom_one (a b d : Int) : ∀ v ∈ #[Value.int .i64 a, .int .i64 b, .int .i64 1, .int .i64 2, .int .i64 3, .int .i64 d], v.oneCell' = true := by
  intro v hv; simp at hv; rcases hv with rfl | rfl | rfl | rfl | rfl | rfl <;> rfl
set_option maxHeartbeats 1000000 in
theorem known_any (A : Option Addr) (c : Nat) (xs : List ByteArray) (n : Int) (w : World) (hx : xs.length ≤ 1000000) (h : RowAt w w.heap.size A (xs.map .string)) :
    Calls Tryz.prog 26 #[.slice A xs.length c, .int .i64 n] w fun e w' => e = .returned (.tuple #[.agg (knownC xs n), .int .i64 (inoE xs n)]) ∧ Below w.heap.size w w' := by
  have R0 : Hid (RowAt (w.alloc (.cells geomZ 54)) (w.alloc (.cells geomZ 54)).heap.size A (xs.map .string)) := (h.below ((Below.refl _ _).alloc (Nat.le_refl _) _)).mono (by simp)
  have B0 : Hid (Below w.heap.size w (w.alloc (.cells geomZ 54))) := (Below.refl _ _).alloc (Nat.le_refl _) _
  clear h
  go_enter Tryz.func26, Tryz.ntmps26
  go_wp2_with fail
  refine (of_any A c xs _ hx R0.out).mono ?_
  rintro e w1 ⟨rfl, hb1⟩
  have G4 : Hid (Blk w1 w.heap.size 54 geomZ) := (Blk.new w _ _).below hb1 (by simp)
  have B1 : Hid (Below w.heap.size w w1) := B0.out.trans (hb1.mono (by simp))
  have hz1 := B1.out.size
  have hlt1 : w.heap.size < w1.heap.size := G4.out.lt
  clear hb1 R0 B0
  cases ho : ofR xs with
  | none =>
    have HE : Hid (inoE xs n = 3 ∧ knownC xs n = geomZ) := by unfold inoE knownC; rw [ho]; exact ⟨rfl, rfl⟩
    clear ho
    unfold ofE
    dsimp only
    go_wp2_with (refine store_blk 54 (.tmp 4) (.tmp 15) w.heap.size 54 geomZ geomZ rfl rfl rfl rfl (G4.out.alloc _) rfl (by kernel_rfl) geomZ_one ?_; intro w3 hr3 hg3)
    refine bodyPost_ret (results_ct rfl rfl rfl hr3 Tryz.underlying54 rfl (by kernel_rfl)) rfl ⟨?_, ?_⟩
    · rw [HE.out.1, HE.out.2]; rfl
    · exact (B1.out.alloc hz1 _).grown hg3 (by simp; omega) (fun k e => by cases e; exact Nat.le_refl _)
  | some m =>
    have hl := (ofR_some.1 ho).len
    unfold ofE
    dsimp only
    by_cases hc : n < 1 ∨ (m : Int) < n
    · have HE : Hid (inoE xs n = 2 ∧ knownC xs n = geomZ) := by unfold inoE knownC; rw [ho]; dsimp only; rw [if_pos hc, if_pos hc]; exact ⟨rfl, rfl⟩
      clear ho
      by_cases h1 : n < 1
      · clear hc
        go_wp2_with (refine store_blk 54 (.tmp 4) (.tmp 25) w.heap.size 54 geomZ geomZ rfl rfl rfl rfl (G4.out.alloc _) rfl (by kernel_rfl) geomZ_one ?_; intro w3 hr3 hg3)
        refine bodyPost_ret (results_ct rfl rfl rfl hr3 Tryz.underlying54 rfl (by kernel_rfl)) rfl ⟨?_, ?_⟩
        · rw [HE.out.1, HE.out.2]; rfl
        · exact (B1.out.alloc hz1 _).grown hg3 (by simp; omega) (fun k e => by cases e; exact Nat.le_refl _)
      · have h2 : (m : Int) < n := by omega
        have h1' : decide (n < 1) = false := by simpa using h1
        clear hc
        go_wp2_with (refine store_blk 54 (.tmp 4) (.tmp 25) w.heap.size 54 geomZ geomZ rfl rfl rfl rfl (G4.out.alloc _) rfl (by kernel_rfl) geomZ_one ?_; intro w3 hr3 hg3)
        refine bodyPost_ret (results_ct rfl rfl rfl hr3 Tryz.underlying54 rfl (by kernel_rfl)) rfl ⟨?_, ?_⟩
        · rw [HE.out.1, HE.out.2]; rfl
        · exact (B1.out.alloc hz1 _).grown hg3 (by simp; omega) (fun k e => by cases e; exact Nat.le_refl _)
    · have HE : Hid (inoE xs n = 0 ∧ knownC xs n = #[.int .i64 (xs.length : Int), .int .i64 (m : Int), .int .i64 1, .int .i64 2, .int .i64 3, .int .i64 (dataN m : Int)]) := by unfold inoE knownC; rw [ho]; dsimp only; rw [if_neg hc, if_neg hc]; exact ⟨rfl, rfl⟩
      have h1' : decide (n < 1) = false := by simp; omega
      have h2' : decide ((m : Int) < n) = false := by simp; omega
      clear ho hc
      go_wp2_with (refine store_blk 54 (.tmp 4) (.tmp 26) w.heap.size 54 geomZ #[.int .i64 (xs.length : Int), .int .i64 (m : Int), .int .i64 1, .int .i64 2, .int .i64 3, .int .i64 (dataN m : Int)] rfl rfl rfl rfl (G4.out.alloc _) rfl (by kernel_rfl) (geom_one _ _ _) ?_; intro w3 hr3 hg3)
      refine bodyPost_ret (results_ct rfl rfl rfl hr3 Tryz.underlying54 rfl (by kernel_rfl)) rfl ⟨?_, ?_⟩
      · rw [HE.out.1, HE.out.2]; rfl
      · exact (B1.out.alloc hz1 _).grown hg3 (by simp; omega) (fun k e => by cases e; exact Nat.le_refl _)
/-- the same at a number that may be -/
theorem geomC_of {xs : List ByteArray} {n : Int} {m : Nat} (hv : IsVol xs m) (h : inoE xs n = 0) : knownC xs n = #[.int .i64 (xs.length : Int), .int .i64 (m : Int), .int .i64 1, .int .i64 2, .int .i64 3, .int .i64 (dataN m : Nat)] := by
  unfold inoE at h
  unfold knownC
  rw [ofR_some.2 hv] at h ⊢
  dsimp only at h ⊢
  by_cases hc : n < 1 ∨ (m : Int) < n
  · rw [if_pos hc] at h; cases h
  · rw [if_neg hc]
theorem getR_len (xs : List ByteArray) (n : Int) : (getR xs n).length = 12 := by unfold getR; split <;> rfl
set_option maxHeartbeats 1000000 in
theorem get_ino (A : Option Addr) (c : Nat) (xs : List ByteArray) (n : Int) (w : World) (hx : xs.length ≤ 1000000) (h : RowAt w w.heap.size A (xs.map .string)) :
    Calls Tryz.prog 11 #[.slice A xs.length c, .int .i64 n] w fun e w' => e = .returned (.tuple #[.agg (inoC (getR xs n)), .int .i64 (inoE xs n)]) ∧ Below w.heap.size w w' := by
  have B0 : Hid (Below w.heap.size w (w.alloc (.cells (inoC (List.replicate 12 0)) 35))) := (Below.refl _ _).alloc (Nat.le_refl _) _
  have R0 : Hid (RowAt (w.alloc (.cells (inoC (List.replicate 12 0)) 35)) (w.alloc (.cells (inoC (List.replicate 12 0)) 35)).heap.size A (xs.map .string)) := (h.below B0.out).mono (by simp)
  have HR := Lib.hid h
  clear h
  go_enter Tryz.func11, Tryz.ntmps11
  go_wp2_with fail
  refine (known_any A c xs n _ hx R0.out).mono ?_
  rintro e w1 ⟨rfl, hb1⟩
  have G4 : Hid (Blk w1 w.heap.size 35 (inoC (List.replicate 12 0))) := (Blk.new w _ _).below hb1 (by simp)
  have B1 : Hid (Below w.heap.size w w1) := B0.out.trans (hb1.mono (by simp))
  have hz1 := B1.out.size
  have hlt1 : w.heap.size < w1.heap.size := G4.out.lt
  clear hb1 R0 B0
  by_cases h0 : inoE xs n = 0
  · obtain ⟨m, k, hv, rfl, hk1, hk2, hk3⟩ := inoE_ok h0
    have hl := hv.len
    have HG : Hid (getR xs (k : Int) = inoR (blkL xs (3 + (k - 1) / 2)) ((k - 1) % 2 * 64)) := by show _ = _; unfold getR; rw [if_pos h0]; rfl
    have HE := Lib.hid h0
    rw [geomC_of hv h0, h0]
    have hbl : 3 + (k - 1) / 2 < xs.length := by unfold blkN at hk3; omega
    have HT : Hid (∀ w, RowAt w w.heap.size A (xs.map .string) → Calls Tryz.prog 27 #[.slice A xs.length c, .agg #[.int .i64 (xs.length : Int), .int .i64 (m : Int), .int .i64 1, .int .i64 2, .int .i64 3, .int .i64 (dataN m : Nat)], .int .i64 k] w fun e w' => e = .returned (.agg (inoC (getR xs (k : Int)))) ∧ Below w.heap.size w w') := fun w h => by
      rw [HG.out]
      exact told_any A c xs _ _ _ _ _ k w hx hk1 hbl (hv.size _ hbl) h
    clear h0 hk3 hbl HG hv
    have B2 := Lib.hid (B1.out.alloc hz1 (.cells #[.int .i64 (xs.length : Int), .int .i64 (m : Int), .int .i64 1, .int .i64 2, .int .i64 3, .int .i64 (dataN m : Int)] 54))
    have G5 := Lib.hid (G4.out.alloc (.cells #[.int .i64 (xs.length : Int), .int .i64 (m : Int), .int .i64 1, .int .i64 2, .int .i64 3, .int .i64 (dataN m : Int)] 54))
    go_wp2_with fail
    refine (HT.out _ ((HR.out.below B2.out).mono B2.out.size)).mono ?_
    rintro e w3 ⟨rfl, hb3⟩
    have G6 := Lib.hid (G5.out.below hb3 G5.out.lt)
    have B3 := Lib.hid (B2.out.trans (hb3.mono B2.out.size))
    have hz3 := B3.out.size
    clear hb3
    go_wp2_with (refine store_blk 35 (.tmp 4) (.tmp 21) w.heap.size 35 (inoC (List.replicate 12 0)) (inoC (getR xs (k : Int))) rfl rfl rfl rfl G6.out (by rw [inoC_size, inoC_size, getR_len]; rfl) (by rw [inoC_size, getR_len]; kernel_rfl) (inoC_one _) ?_; intro w4 hr4 hg4)
    refine bodyPost_ret (results_ct rfl rfl rfl hr4 Tryz.underlying35 rfl (by rw [inoC_size, getR_len]; kernel_rfl)) rfl ⟨?_, ?_⟩
    · rw [HE.out]; rfl
    · exact B3.out.grown hg4 hz3 (fun k e => by cases e; exact Nat.le_refl _)
  · have HG : Hid (getR xs n = List.replicate 12 0) := by show _ = _; unfold getR; rw [if_neg h0]
    have hn0 : (inoE xs n != 0) = true := by simpa using h0
    have hsz : (knownC xs n).size = 6 := by unfold knownC; split <;> (try split) <;> rfl
    obtain ⟨a1, a2, a3, a4, a5, a6, hkc⟩ : ∃ a1 a2 a3 a4 a5 a6, knownC xs n = #[.int .i64 a1, .int .i64 a2, .int .i64 a3, .int .i64 a4, .int .i64 a5, .int .i64 a6] := by
      unfold knownC geomZ; split <;> (try split) <;> exact ⟨_, _, _, _, _, _, rfl⟩
    rw [hkc]
    generalize hie : inoE xs n = ie at *
    have HIE := Lib.hid hie
    clear h0 hsz hkc hie
    go_wp2_with (refine store_blk 35 (.tmp 4) (.tmp 16) w.heap.size 35 (inoC (List.replicate 12 0)) (inoC (List.replicate 12 0)) rfl rfl rfl rfl (G4.out.alloc _) rfl (by kernel_rfl) (inoC_one _) ?_; intro w4 hr4 hg4)
    refine bodyPost_ret (results_ct rfl rfl rfl hr4 Tryz.underlying35 rfl (by kernel_rfl)) rfl ⟨?_, ?_⟩
    · rw [HIE.out, HG.out]; rfl
    · exact (B1.out.alloc hz1 _).grown hg4 (by simp; omega) (fun k e => by cases e; exact Nat.le_refl _)
end Go.Proofs.YtoanladhikdcaaaGreat
