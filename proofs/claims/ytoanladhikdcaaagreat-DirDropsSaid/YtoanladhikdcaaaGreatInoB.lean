/-
  What inode.Put computes.
-/
import Derived.Test.YtoanladhikdcaaaGreatInoA
namespace Go.Proofs.YtoanladhikdcaaaGreat
open Go.RowKit
set_option linter.unusedVariables false
set_option linter.unusedSimpArgs false
set_option maxRecDepth 100000
/-- rows of blocks and a code are handed back; nothing that was there has turned -/
def RowCode (rows : List ByteArray) (code : Int) (w : World) (e : Ending) (w' : World) : Prop := (∃ v, e = .returned (.tuple #[v, .int .i64 code]) ∧ OwnRow rows w v w') ∧ Below w.heap.size w w'
def putV (xs : List ByteArray) (n : Nat) (l : List Nat) : List ByteArray := xs.set (blkN n) (putInoB (xs.getD (blkN n) ⟨#[]⟩) (atN n) l)
/-- an inode put: the blocks, and the code -/
def putO (xs : List ByteArray) (n : Int) (l : List Int) : List ByteArray × Int :=
  if inoE xs n ≠ 0 then ([], inoE xs n) else if fitsR l = false then ([], 1) else (putV xs n.toNat (l.map Int.toNat), 0)
theorem own_nil (w w' : World) : OwnRow [] w (.slice none 0 0) w' := World.ownsRow_nil _ _ _ _
theorem allF_mem : ∀ i : Fin 12, i ∈ allF := by decide
theorem fitsR_nat {l : List Int} (hl : l.length = 12) (h : fitsR l = true) : (∀ z ∈ l, 0 ≤ z ∧ z < 4294967296) := by
  intro z hz
  obtain ⟨j, hj, rfl⟩ := List.getElem_of_mem hz
  rw [hl] at hj
  have key : ∀ j, j < 12 → ∃ i : Fin 12, fof i = j := by decide
  obtain ⟨i, hi⟩ := key j hj
  unfold fitsR at h
  have := List.all_eq_true.1 h i (allF_mem i)
  unfold fitB at this
  rw [hi] at this
  have hg : l.getD j 0 = l[j] := by simp [List.getD, hl, hj]
  rw [hg] at this
  have := of_decide_eq_true this
  have hp : (256 : Int) ^ fsz i ≤ 256 ^ 4 := by
    have h4 := fsz_le i
    exact_mod_cast Nat.pow_le_pow_right (n := 256) (by omega) h4
  omega
theorem intC_nat {l : List Int} (h : ∀ z ∈ l, 0 ≤ z ∧ z < 4294967296) : intC l = inoC (l.map Int.toNat) := by
  unfold intC inoC
  rw [List.map_map]
  congr 1
  apply List.map_congr_left
  intro z hz
  have := h z hz
  simp only [Function.comp]
  congr 1
  omega
set_option maxHeartbeats 2000000 in
theorem put_ino (A : Option Addr) (c : Nat) (xs : List ByteArray) (n : Int) (l : List Int) (w : World) (hx : xs.length ≤ 1000000) (h : RowAt w w.heap.size A (xs.map .string)) (hl : l.length = 12) (hr : ∀ z ∈ l, -9223372036854775808 ≤ z ∧ z ≤ 9223372036854775807) :
    Calls Tryz.prog 71 #[.slice A xs.length c, .int .i64 n, .agg (intC l)] w (RowCode (putO xs n l).1 (putO xs n l).2 w) := by
  have B0 : Hid (Below w.heap.size w (w.alloc (.cells (intC l) 35))) := (Below.refl _ _).alloc (Nat.le_refl _) _
  have R0 : Hid (RowAt (w.alloc (.cells (intC l) 35)) (w.alloc (.cells (intC l) 35)).heap.size A (xs.map .string)) := (h.below B0.out).mono (by simp)
  have HR := Lib.hid h
  have HL := Lib.hid hl
  have HI := Lib.hid hr
  clear h hl hr
  go_enter Tryz.func71, Tryz.ntmps71
  go_wp2_with fail
  refine (known_any A c xs n _ hx R0.out).mono ?_
  rintro e w1 ⟨rfl, hb1⟩
  have G4 : Hid (Blk w1 w.heap.size 35 (intC l)) := (Blk.new w _ _).below hb1 (by simp)
  have B1 : Hid (Below w.heap.size w w1) := B0.out.trans (hb1.mono (by simp))
  have hz1 := B1.out.size
  have hlt1 : w.heap.size < w1.heap.size := G4.out.lt
  clear hb1 R0 B0
  by_cases h0 : inoE xs n = 0
  · obtain ⟨m, k, hv, rfl, hk1, hk2, hk3⟩ := inoE_ok h0
    have hlv := hv.len
    rw [geomC_of hv h0, h0]
    have hbl : 3 + (k - 1) / 2 < xs.length := by unfold blkN at hk3; omega
    have HSZ := Lib.hid (hv.size _ hbl)
    have H0 := Lib.hid h0
    have B2 := Lib.hid (B1.out.alloc hz1 (.cells #[.int .i64 (xs.length : Int), .int .i64 (m : Int), .int .i64 1, .int .i64 2, .int .i64 3, .int .i64 (dataN m : Int)] 54))
    have G5 := Lib.hid (G4.out.alloc (.cells #[.int .i64 (xs.length : Int), .int .i64 (m : Int), .int .i64 1, .int .i64 2, .int .i64 3, .int .i64 (dataN m : Int)] 54))
    have G8 : Hid (Blk (w1.alloc (.cells #[.int .i64 (xs.length : Int), .int .i64 (m : Int), .int .i64 1, .int .i64 2, .int .i64 3, .int .i64 (dataN m : Int)] 54)) w1.heap.size 54 #[.int .i64 (xs.length : Int), .int .i64 (m : Int), .int .i64 1, .int .i64 2, .int .i64 3, .int .i64 (dataN m : Int)]) := Blk.new w1 _ _
    clear h0 hk3
    go_wp2_with (first
      | (refine load_blk 35 (.tmp 5) w.heap.size 35 (intC l) _ rfl rfl rfl G5.out Tryz.underlying35 rfl (by rw [intC_size, HL.out]; kernel_rfl) ?_; go_frame))
    refine (fits_any l _ HL.out HI.out).mono ?_
    rintro e w3 ⟨rfl, hb3⟩
    have G6 := Lib.hid (G5.out.below hb3 G5.out.lt)
    have G9 := Lib.hid (G8.out.below hb3 G8.out.lt)
    have B3 := Lib.hid (B2.out.trans (hb3.mono B2.out.size))
    clear hb3 G8 G5
    cases hf : fitsR l with
    | false =>
      have HP : Hid (putO xs (k : Int) l = ([], 1)) := by show _ = _; unfold putO; rw [if_neg (by rw [H0.out]; simp), if_pos hf]
      clear hf
      go_wp2
      go_ret2
      rw [HP.out]
      exact ⟨⟨_, rfl, own_nil _ _⟩, B3.out⟩
    | true =>
      have HP : Hid (putO xs (k : Int) l = (putV xs k (l.map Int.toNat), 0)) := by show _ = _; unfold putO; rw [if_neg (by rw [H0.out]; simp), if_neg (by rw [hf]; simp), Int.toNat_natCast]
      have hnat := fitsR_nat HL.out hf
      have HIC := Lib.hid (intC_nat hnat)
      have HLT : Hid (∀ z ∈ l.map Int.toNat, z < 4294967296) := fun z hz => by
        obtain ⟨y, hy, rfl⟩ := List.mem_map.1 hz
        have := hnat y hy
        omega
      clear hf hnat
      have g1 := G9.out.cell 1 rfl
      go_wp2_with (first
        | (refine load_blk 54 (.tmp 8) w1.heap.size 54 #[.int .i64 (xs.length : Int), .int .i64 (m : Int), .int .i64 1, .int .i64 2, .int .i64 3, .int .i64 (dataN m : Int)] _ rfl rfl rfl G9.out Tryz.underlying54 rfl (by kernel_rfl) ?_; go_frame)
        | (refine load_blk 35 (.tmp 5) w.heap.size 35 (intC l) _ rfl rfl rfl G6.out Tryz.underlying35 rfl (by rw [intC_size, HL.out]; kernel_rfl) ?_; go_frame))
      rw [HIC.out]
      refine (written_any A c xs _ _ _ _ _ k (l.map Int.toNat) _ hx hk1 hbl HSZ.out ((HR.out.below B3.out).mono B3.out.size) (by rw [List.length_map, HL.out]) HLT.out).mono ?_
      rintro e w4 ⟨⟨v, rfl, hown⟩, hb4⟩
      have O4 : Hid (OwnRow (putV xs k (l.map Int.toNat)) w v w4) := hown.base B3.out.size
      have B4 := Lib.hid (B3.out.trans (hb4.mono B3.out.size))
      clear hown hb4
      go_wp2
      go_ret2
      rw [HP.out]
      exact ⟨⟨_, rfl, O4.out⟩, B4.out⟩
  · have HP : Hid (putO xs n l = ([], inoE xs n)) := by show _ = _; unfold putO; rw [if_pos h0]
    have hn0 : (inoE xs n != 0) = true := by simpa using h0
    obtain ⟨a1, a2, a3, a4, a5, a6, hkc⟩ : ∃ a1 a2 a3 a4 a5 a6, knownC xs n = #[.int .i64 a1, .int .i64 a2, .int .i64 a3, .int .i64 a4, .int .i64 a5, .int .i64 a6] := by
      unfold knownC geomZ; split <;> (try split) <;> exact ⟨_, _, _, _, _, _, rfl⟩
    rw [hkc]
    generalize hie : inoE xs n = ie at *
    clear h0 hkc hie
    go_wp2
    go_ret2
    rw [HP.out]
    exact ⟨⟨_, rfl, own_nil _ _⟩, B1.out.alloc hz1 _⟩
end Go.Proofs.YtoanladhikdcaaaGreat
