/-
  What the document's word, Of and Get of layer 18 compute.
-/
import Derived.Test.YtoanladhikdcaaaGreatInoCalls
import Derived.Test.YtoanladhikdcaaaGreatAlivePl
import Derived.Test.YtoanladhikdcaaaGreatRGeomOf
import Derived.Test.YtoanladhikdcaaaGreatInfra
namespace Go.Proofs.YtoanladhikdcaaaGreat
open Go.RowKit
set_option linter.unusedVariables false
set_option linter.unusedSimpArgs false
set_option maxRecDepth 100000
theorem numAt_two (bs : List UInt8) (i : Nat) (h : i + 1 < bs.length) : numAt bs i 2 = (bs[i]).toNat + 256 * (bs[i + 1]).toNat := by
  unfold numAt
  have e : (bs.drop i).take 2 = [bs[i], bs[i + 1]] := by
    rw [List.drop_eq_getElem_cons (by omega), List.drop_eq_getElem_cons h]; rfl
  rw [e]; simp [leN]
theorem numAt_one (bs : List UInt8) (i : Nat) (h : i < bs.length) : numAt bs i 1 = (bs[i]).toNat := by
  unfold numAt
  have e : (bs.drop i).take 1 = [bs[i]] := by rw [List.drop_eq_getElem_cons h]; rfl
  rw [e]; simp [leN]
theorem numAt_four (bs : List UInt8) (i : Nat) (h : i + 3 < bs.length) : numAt bs i 4 = numAt bs i 2 + 65536 * numAt bs (i + 2) 2 := by
  rw [numAt_two bs i (by omega), numAt_two bs (i + 2) (by omega)]
  unfold numAt
  have e : (bs.drop i).take 4 = [bs[i], bs[i + 1], bs[i + 2], bs[i + 3]] := by
    rw [List.drop_eq_getElem_cons (by omega), List.drop_eq_getElem_cons (show i + 1 < _ by omega), List.drop_eq_getElem_cons (show i + 1 + 1 < _ by omega), List.drop_eq_getElem_cons (show i + 1 + 1 + 1 < _ by omega)]; rfl
  have e3 : bs[i + 2 + 1] = bs[i + 3] := rfl
  rw [e, e3]
  simp only [leN]
  omega
theorem byte_get (s : ByteArray) (i : Nat) (h : i < s.size) : s.data.toList[i]'(by simpa using h) = s[i] := rfl
set_option maxHeartbeats 1000000 in
theorem word_any (s : ByteArray) (i : Nat) (w : World) (h : i + 1 < s.size) (hs : s.size ≤ 1000000) : Calls Tryz.prog 99 #[.string s, .int .i64 i] w fun e w' => e = .returned (.int .i64 (numAt s.data.toList i 2 : Nat)) ∧ ∃ k, w' = w.drewN k := by
  have HN := Lib.hid (numAt_two s.data.toList i (by simpa using h))
  have h0 : i < s.size := by omega
  have b1 := (s[i]).toNat_lt
  have b2 := (s[i + 1]).toNat_lt
  have e1 : IntKind.i64.wrap ((i : Int) + 1) = (i : Int) + 1 := IntWalk.i64_in _ (by omega)
  have e2 : (0 : Int) ≤ (i : Int) + 1 := by omega
  have e3 : ((i : Int) + 1).toNat = i + 1 := by omega
  have e4 : (i : Int) + 1 < (s.size : Int) := by omega
  have e5 : (i : Int) < (s.size : Int) := by omega
  have e6 : IntKind.i64.wrap (256 * ((s[i + 1]).toNat : Int)) = 256 * ((s[i + 1]).toNat : Int) := IntWalk.i64_in _ (by omega)
  have e7 : IntKind.i64.wrap (((s[i]).toNat : Int) + 256 * ((s[i + 1]).toNat : Int)) = ((s[i]).toNat : Int) + 256 * ((s[i + 1]).toNat : Int) := IntWalk.i64_in _ (by omega)
  have e8 : IntKind.i64.wrap ((s[i]).toNat : Int) = ((s[i]).toNat : Int) := IntWalk.i64_in _ (by omega)
  have e9 : IntKind.i64.wrap ((s[i + 1]).toNat : Int) = ((s[i + 1]).toNat : Int) := IntWalk.i64_in _ (by omega)
  go_enter Tryz.func99, Tryz.ntmps99
  go_wp2
  go_quiet (fail)
  go_wp2
  go_ret
  refine ⟨ret_int ?_, _, rfl⟩
  rw [HN.out]
  rfl
/-- an inode, its first numbers of blocks told -/
def ofL (bs : List UInt8) (i : Nat) : List Nat := [numAt bs 0 1, numAt bs 2 2, numAt bs 1 1, numAt bs 4 4, if 0 < i then numAt bs 8 2 else 0, if 1 < i then numAt bs 10 2 else 0, if 2 < i then numAt bs 12 2 else 0, if 3 < i then numAt bs 14 2 else 0, if 4 < i then numAt bs 16 2 else 0, if 5 < i then numAt bs 18 2 else 0, numAt bs 20 2, numAt bs 22 2]
theorem ofL_all (bs : List UInt8) : ofL bs 6 = inoR bs 0 := rfl
theorem ofL_len (bs : List UInt8) (i : Nat) : (ofL bs i).length = 12 := rfl
theorem ofL_succ (bs : List UInt8) (i : Nat) (h : i < 6) : (ofL bs i).set (4 + i) (numAt bs (8 + 2 * i) 2) = ofL bs (i + 1) := by
  have : i = 0 ∨ i = 1 ∨ i = 2 ∨ i = 3 ∨ i = 4 ∨ i = 5 := by omega
  rcases this with rfl | rfl | rfl | rfl | rfl | rfl <;> rfl
set_option maxRecDepth 100000
set_option maxHeartbeats 4000000 in
theorem rof_ino (s : ByteArray) (w : World) (h : s.size = 64) : Calls Tryz.prog 74 #[.string s] w fun e w' => e = .returned (.agg (inoC (inoR s.data.toList 0))) ∧ Below w.heap.size w w' := by
  have hl : s.data.toList.length = 64 := by rw [Array.length_toList]; exact h
  have W2 : Hid (∀ (i : Nat) (w : World), i + 1 < 64 → Calls Tryz.prog 99 #[.string s, .int .i64 i] w fun e w' => e = .returned (.int .i64 (numAt s.data.toList i 2 : Nat)) ∧ ∃ k, w' = w.drewN k) := fun i w hi => word_any s i w (by omega) (by omega)
  have n0 := numAt_one s.data.toList 0 (by omega)
  have n1 := numAt_one s.data.toList 1 (by omega)
  have n4 := numAt_four s.data.toList 4 (by omega)
  have N0 := Lib.hid n0
  have N1 := Lib.hid n1
  have N4 := Lib.hid n4
  have g0 : (0 : Int) < (s.size : Int) := by omega
  have g1 : (1 : Int) < (s.size : Int) := by omega
  have h0 : 0 < s.size := by omega
  have h1 : 1 < s.size := by omega
  have b0 := (s[0]).toNat_lt
  have b1 := (s[1]).toNat_lt
  obtain ⟨p2, hp2⟩ : ∃ p, numAt s.data.toList 2 2 = p := ⟨_, rfl⟩
  have l2 : p2 < 65536 := by rw [← hp2]; exact numAt_lt s.data.toList 2 2
  obtain ⟨p4, hp4⟩ : ∃ p, numAt s.data.toList 4 2 = p := ⟨_, rfl⟩
  have l4 : p4 < 65536 := by rw [← hp4]; exact numAt_lt s.data.toList 4 2
  obtain ⟨p6, hp6⟩ : ∃ p, numAt s.data.toList 6 2 = p := ⟨_, rfl⟩
  have l6 : p6 < 65536 := by rw [← hp6]; exact numAt_lt s.data.toList 6 2
  obtain ⟨p20, hp20⟩ : ∃ p, numAt s.data.toList 20 2 = p := ⟨_, rfl⟩
  have l20 : p20 < 65536 := by rw [← hp20]; exact numAt_lt s.data.toList 20 2
  obtain ⟨p22, hp22⟩ : ∃ p, numAt s.data.toList 22 2 = p := ⟨_, rfl⟩
  have l22 : p22 < 65536 := by rw [← hp22]; exact numAt_lt s.data.toList 22 2
  have HP := Lib.hid (And.intro hp2 (And.intro hp4 (And.intro hp6 (And.intro hp20 hp22))))
  have W2 : Hid (∀ (i : Nat) (w : World), i + 1 < 64 → Calls Tryz.prog 99 #[.string s, .int .i64 i] w fun e w' => e = .returned (.int .i64 (numAt s.data.toList i 2 : Nat)) ∧ ∃ k, w' = w.drewN k) := fun i w hi => word_any s i w (by omega) (by omega)
  have C2 : Hid (∀ u : World, Calls Tryz.prog 99 #[.string s, .int .i64 2] u fun e w' => e = .returned (.int .i64 (p2 : Int)) ∧ ∃ k, w' = u.drewN k) := fun u => by have := W2.out 2 u (by omega); rwa [hp2] at this
  have C4 : Hid (∀ u : World, Calls Tryz.prog 99 #[.string s, .int .i64 4] u fun e w' => e = .returned (.int .i64 (p4 : Int)) ∧ ∃ k, w' = u.drewN k) := fun u => by have := W2.out 4 u (by omega); rwa [hp4] at this
  have C6 : Hid (∀ u : World, Calls Tryz.prog 99 #[.string s, .int .i64 6] u fun e w' => e = .returned (.int .i64 (p6 : Int)) ∧ ∃ k, w' = u.drewN k) := fun u => by have := W2.out 6 u (by omega); rwa [hp6] at this
  have C20 : Hid (∀ u : World, Calls Tryz.prog 99 #[.string s, .int .i64 20] u fun e w' => e = .returned (.int .i64 (p20 : Int)) ∧ ∃ k, w' = u.drewN k) := fun u => by have := W2.out 20 u (by omega); rwa [hp20] at this
  have C22 : Hid (∀ u : World, Calls Tryz.prog 99 #[.string s, .int .i64 22] u fun e w' => e = .returned (.int .i64 (p22 : Int)) ∧ ∃ k, w' = u.drewN k) := fun u => by have := W2.out 22 u (by omega); rwa [hp22] at this
  have s0 : IntKind.i64.wrap (s[0].toNat : Int) = (s[0].toNat : Int) := IntWalk.i64_in _ (by omega)
  have s1 : IntKind.i64.wrap (s[1].toNat : Int) = (s[1].toNat : Int) := IntWalk.i64_in _ (by omega)
  have s2 : IntKind.i64.wrap (65536 * (p6 : Int)) = 65536 * (p6 : Int) := IntWalk.i64_in _ (by omega)
  have s3 : IntKind.i64.wrap ((p4 : Int) + 65536 * (p6 : Int)) = (p4 : Int) + 65536 * (p6 : Int) := IntWalk.i64_in _ (by omega)
  have HZ := Lib.hid h
  have HO : Hid (#[.int .i64 (s[0].toNat : Int), .int .i64 (p2 : Int), .int .i64 (s[1].toNat : Int), .int .i64 ((p4 : Int) + 65536 * (p6 : Int)), .int .i64 0, .int .i64 0, .int .i64 0, .int .i64 0, .int .i64 0, .int .i64 0, .int .i64 (p20 : Int), .int .i64 (p22 : Int)] = inoC (ofL s.data.toList 0)) := by
    show _ = _
    unfold ofL inoC
    rw [n0, n1, n4, hp2, hp4, hp6, hp20, hp22]
    simp only [List.map]
    rfl
  clear n0 n1 n4 N0 N1 N4 hp2 hp4 hp6 hp20 hp22 h hl
  go_enter Tryz.func74, Tryz.ntmps74
  go_wp2_with fail
  generalize hw1 : w.alloc _ = w1
  have B1 : Hid (Below w.heap.size w w1) := hw1 ▸ (Below.refl _ _).alloc (Nat.le_refl _) _
  have G1 : Hid (Blk w1 w.heap.size 35 #[.int .i64 0, .int .i64 0, .int .i64 0, .int .i64 0, .int .i64 0, .int .i64 0, .int .i64 0, .int .i64 0, .int .i64 0, .int .i64 0, .int .i64 0, .int .i64 0]) := hw1 ▸ Blk.new w _ _
  clear hw1
  apply wp_region_free 19 0 0 3 _ (fun X w' => ∃ p, X = .pointer (some ⟨p, 0, none⟩) ∧ w.heap.size < p ∧ Blk w' p 35 #[.int .i64 0, .int .i64 0, .int .i64 0, .int .i64 0, .int .i64 0, .int .i64 0, .int .i64 0, .int .i64 0, .int .i64 0, .int .i64 0, .int .i64 0, .int .i64 0]) (by kernel_rfl) (by kernel_rfl) rfl
  case hΦ =>
    rintro X u u' ⟨p, rfl, hp, hb⟩ hu
    exact ⟨p, rfl, hp, hb.below hu hb.lt⟩
  case W1 =>
    intro wb hwb
    unfold ExtC
    simp only [List.take_succ_cons, List.take_zero, List.drop_succ_cons, List.drop_zero]
    repeat (go_big_quiet_step (first
      | (go_at_call 99; with_reducible exact Ext.call_drew (C2.out _))
      | (go_at_call 99; with_reducible exact Ext.call_drew (C4.out _))
      | (go_at_call 99; with_reducible exact Ext.call_drew (C6.out _))
      | (go_at_call 99; with_reducible exact Ext.call_drew (C20.out _))
      | (go_at_call 99; with_reducible exact Ext.call_drew (C22.out _))))
    exact wpQuiet_nil rfl
  case MK =>
    intro wb hwb
    refine ⟨.pointer (some ⟨wb.heap.size, 0, none⟩), wb.alloc (.cells #[.int .i64 0, .int .i64 0, .int .i64 0, .int .i64 0, .int .i64 0, .int .i64 0, .int .i64 0, .int .i64 0, .int .i64 0, .int .i64 0, .int .i64 0, .int .i64 0] 35), rfl, ⟨_, rfl, ?_, Blk.new wb _ _⟩, (Below.refl _ _).alloc (Nat.le_refl _) _⟩
    exact Nat.lt_of_lt_of_le G1.out.lt hwb.size
  case UM =>
    intro X wb hwb hX
    exact wpQuiet_nil rfl
  case W2 =>
    intro X wb hwb
    exact wpQuiet_nil rfl
  rintro X w2 hb2 ⟨gx, rfl, hgx, hbx⟩
  replace B1 := Lib.hid (B1.out.trans (hb2.mono B1.out.size))
  replace G1 := Lib.hid (G1.out.below hb2 G1.out.lt)
  have GZ := Lib.hid hbx
  clear hb2 hbx s0 s1 s2 s3
  simp only [List.take_succ_cons, List.take_zero, List.drop_succ_cons, List.drop_zero]
  go_wp2_with (first
    | (refine store_blk 35 (.tmp 3) (.tmp 23) gx 35 #[.int .i64 0, .int .i64 0, .int .i64 0, .int .i64 0, .int .i64 0, .int .i64 0, .int .i64 0, .int .i64 0, .int .i64 0, .int .i64 0, .int .i64 0, .int .i64 0] #[.int .i64 (s[0].toNat : Int), .int .i64 (p2 : Int), .int .i64 (s[1].toNat : Int), .int .i64 ((p4 : Int) + 65536 * (p6 : Int)), .int .i64 0, .int .i64 0, .int .i64 0, .int .i64 0, .int .i64 0, .int .i64 0, .int .i64 (p20 : Int), .int .i64 (p22 : Int)] rfl rfl rfl rfl GZ.out rfl (by kernel_rfl) (by simp [Value.oneCell']) ?_; intro w3 hr3 hg3))
  have GX := Lib.hid hr3
  have GR := Lib.hid (G1.out.grown hg3 (by intro e; cases e; omega))
  have BX := Lib.hid (B1.out.grown hg3 B1.out.size (fun j e => by cases e; omega))
  clear hr3 hg3
  rw [HO.out] at GX
  go_loopw [4] (fun i wr => ∃ k : Nat, k ≤ 6 ∧ i = .int .i64 k ∧ Hid (Blk wr gx 35 (inoC (ofL s.data.toList k))) ∧ Hid (Blk wr w.heap.size 35 #[.int .i64 0, .int .i64 0, .int .i64 0, .int .i64 0, .int .i64 0, .int .i64 0, .int .i64 0, .int .i64 0, .int .i64 0, .int .i64 0, .int .i64 0, .int .i64 0]) ∧ Hid (Below w.heap.size w wr)) (fun i _ => 6 - (intOf i).toNat)
  case atStart => exact ⟨0, by omega, rfl, GX, GR, BX⟩
  case round =>
    obtain ⟨k, hk, rfl, GK, RK, BK⟩ := hrel
    by_cases hlt : k < 6
    · have CW := Lib.hid (fun w => W2.out (8 + 2 * k) w (by omega))
      have HU := Lib.hid (ofL_succ s.data.toList k hlt)
      have e1 : ((8 + 2 * k : Nat) : Int) = 8 + 2 * (k : Int) := by omega
      rw [e1] at CW
      generalize numAt s.data.toList (8 + 2 * k) 2 = v at *
      clear e1
      go_wp2_with fail
      refine (CW.out _).mono ?_
      rintro e w' ⟨rfl, q, rfl⟩
      have GK2 : Hid (Blk (wr.drewN q) gx 35 (inoC (ofL s.data.toList k))) := GK.out
      have RK2 : Hid (Blk (wr.drewN q) w.heap.size 35 #[.int .i64 0, .int .i64 0, .int .i64 0, .int .i64 0, .int .i64 0, .int .i64 0, .int .i64 0, .int .i64 0, .int .i64 0, .int .i64 0, .int .i64 0, .int .i64 0]) := RK.out
      have BK2 : Hid (Below w.heap.size w (wr.drewN q)) := below_drewN BK.out q
      generalize wr.drewN q = w5 at *
      have k1 : ∃ y, w5.cell? ⟨gx, 4 + k, none⟩ = some y := ⟨_, GK2.out.cell (4 + k) (Array.getElem?_eq_getElem (by rw [inoC_size, ofL_len]; omega))⟩
      obtain ⟨y, k1⟩ := k1
      have k2 : w5.frozen? ⟨gx, 4 + k, none⟩ = false := GK2.out.frozen _
      have G6 : Hid (Blk (w5.setCell ⟨gx, 4 + k, none⟩ (.int .i64 (v : Int))) gx 35 (inoC (ofL s.data.toList (k + 1)))) := by
        rw [← HU.out, inoC_set]; exact GK2.out.set_ _ _
      have R6 := Lib.hid (RK2.out.far (p := ⟨gx, 4 + k, none⟩) (by show w.heap.size ≠ gx; omega) (.int .i64 (v : Int)))
      have B6 := Lib.hid (BK2.out.setCell (p := ⟨gx, 4 + k, none⟩) (by show w.heap.size ≤ gx; omega) (.int .i64 (v : Int)))
      go_wp2
      go_roundw
      case rel => exact ⟨k + 1, by omega, by go_num, G6, R6, B6⟩
      case measure => simp [intOf]; omega
    · obtain rfl : k = 6 := by omega
      rw [ofL_all] at GK
      go_wp2_with (first
        | (refine load_blk 35 (.tmp 3) gx 35 (inoC (inoR s.data.toList 0)) _ rfl rfl rfl GK.out Tryz.underlying35 rfl (by rw [inoC_size]; kernel_rfl) ?_; go_frame)
        | (refine store_blk 35 (.tmp 2) (.tmp 36) w.heap.size 35 #[.int .i64 0, .int .i64 0, .int .i64 0, .int .i64 0, .int .i64 0, .int .i64 0, .int .i64 0, .int .i64 0, .int .i64 0, .int .i64 0, .int .i64 0, .int .i64 0] (inoC (inoR s.data.toList 0)) rfl rfl rfl rfl RK.out (by rw [inoC_size]; rfl) (by rw [inoC_size]; kernel_rfl) (inoC_one _) ?_; intro w8 hr8 hg8))
      refine bodyPost_ret (results_cell_row rfl _ _ w.heap.size _ _ (0, 0) _ rfl hr8 Tryz.underlying35 rfl (by rw [inoC_size]; kernel_rfl)) rfl ⟨rfl, ?_⟩
      exact BK.out.grown hg8 BK.out.size (fun j e => by cases e; exact Nat.le_refl _)
end Go.Proofs.YtoanladhikdcaaaGreat
