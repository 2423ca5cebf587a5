/-
  What geom.Format does.
-/
import Derived.Test.YtoanladhikdcaaaGreatGeomU
import Derived.RegionTactic
import Derived.BigRegion
namespace Go.Proofs.YtoanladhikdcaaaGreat
open Go.RowKit
set_option linter.unusedVariables false
set_option linter.unusedSimpArgs false
set_option maxRecDepth 100000

def FmtPost (b m : Int) (w : World) (e : Ending) (w' : World) : Prop := Below w.heap.size w w' ∧
  if planE b m = 0 then ∃ v, e = .returned (.tuple #[v, .int .i64 0]) ∧ NewRow (fmtV b.toNat m.toNat) w v w' else e = .returned (.tuple #[.slice none 0 0, .int .i64 (planE b m)])
def zrow (b k : Nat) : List ByteArray := List.replicate k (zerosB 128) ++ List.replicate (b - k) ⟨#[]⟩
theorem zrow_length (b k : Nat) (h : k ≤ b) : (zrow b k).length = b := by simp [zrow]; omega
theorem zrow_set (b k : Nat) (h : k < b) : (zrow b k).set k (zerosB 128) = zrow b (k + 1) := by
  unfold zrow
  rw [List.set_append_right _ _ (by simp)]
  simp only [List.length_replicate, Nat.sub_self]
  rw [show b - k = (b - (k + 1)) + 1 by omega, List.replicate_succ, List.set_cons_zero, List.replicate_succ', List.append_assoc]
  rfl
theorem or_byte (l : List UInt8) (i : Nat) (h : i / 8 < l.length) : bits .or .u8 ((l.getD (i / 8) 0).toNat : Int) (2 ^ (i % 8) % 256) = (((orL l i).getD (i / 8) 0).toNat : Int) := by
  have h1 := two_pow_lt i
  have e : ((2 : Int) ^ (i % 8) % 256) = ((2 ^ (i % 8) : Nat) : Int) := by
    have : ((2 : Int) ^ (i % 8)) = ((2 ^ (i % 8) : Nat) : Int) := by simp
    rw [this]
    generalize (2 : Nat) ^ (i % 8) = q at h1
    omega
  rw [e, u8_or_nat _ _ (UInt8.toNat_lt _) h1]
  unfold orL
  rw [getD_set _ _ _ _ _ h, if_pos rfl, UInt8.toNat_or, toNat_two_pow]
def byteC (l : List UInt8) : Array Value := (l.map fun x => Value.int .u8 (x.toNat : Int)).toArray
theorem or_cells (l : List UInt8) (i : Nat) (h : i / 8 < l.length) : (byteC l).setIfInBounds (i / 8) (.int .u8 (((orL l i).getD (i / 8) 0).toNat : Int)) = byteC (orL l i) := by
  unfold byteC
  rw [List.setIfInBounds_toArray]
  congr 1
  unfold orL
  rw [getD_set _ _ _ _ _ h, if_pos rfl, List.map_set]
theorem byteC_get (l : List UInt8) (i : Nat) (h : i < l.length) : (byteC l)[i]? = some (.int .u8 ((l.getD i 0).toNat : Int)) := by
  unfold byteC
  simp only [List.getElem?_toArray, List.getElem?_map, List.getElem?_eq_getElem h, Option.map_some, List.getD, Option.getD_some]
theorem byteC_zero : Array.replicate 128 (Value.int .u8 0) = byteC (mapN 0) := by
  show Array.replicate 128 _ = ((List.replicate 128 (0 : UInt8)).map _).toArray
  rw [List.map_replicate, List.toArray_replicate]; rfl
set_option maxHeartbeats 4000000 in
theorem format_any (b m : Int) (w : World) : Calls Tryz.prog 24 #[.int .i64 b, .int .i64 m] w (FmtPost b m w) := by
  obtain ⟨i0, q1, q2, q3, q4⟩ := info_parts str_info
  obtain ⟨i1, r1, r2, r3, r4⟩ := info_parts u8_info
  have I0 := Lib.hid (And.intro q1 (And.intro q2 (And.intro q3 q4)))
  have I1 := Lib.hid (And.intro r1 (And.intro r2 (And.intro r3 r4)))
  clear q1 q2 q3 q4 r1 r2 r3 r4
  by_cases hp : planE b m = 0
  case neg =>
    have HP := Lib.hid hp
    obtain ⟨pe, hpe⟩ : ∃ e, planE b m = e := ⟨_, rfl⟩
    have HPE := Lib.hid hpe
    have hne : (pe != 0) = true := by rw [hpe] at hp; simpa using hp
    clear hp hpe
    go_enter Tryz.func24, Tryz.ntmps24
    go_wp2_with fail
    refine (plan_any b m _).mono ?_
    rintro e w1 ⟨rfl, hb1⟩
    unfold planC
    rw [if_neg HP.out, HPE.out]
    unfold geomZ
    have B := Lib.hid hb1
    clear hb1
    have hz := B.out.size
    go_wp2
    go_ret2
    unfold FmtPost
    rw [if_neg HP.out, HPE.out]
    exact ⟨B.out.alloc hz _, rfl⟩
  case pos =>
    obtain ⟨b, rfl⟩ := Int.eq_ofNat_of_zero_le (show 0 ≤ b by have := planE_ok hp; omega)
    obtain ⟨m, rfl⟩ := Int.eq_ofNat_of_zero_le (show 0 ≤ m by have := planE_ok hp; omega)
    have hpl := planE_iff.1 hp
    have HP := Lib.hid hp
    obtain ⟨d, hd⟩ : ∃ d : Nat, dataN m = d := ⟨_, rfl⟩
    have HD := Lib.hid hd
    have HDI : Hid ((3 : Int) + ((m : Int) + 1) / 2 = (d : Int)) := by show _ = _; unfold dataN at hd; omega
    rw [hd] at hpl
    obtain ⟨l1, l2, l3, l4, l5⟩ := hpl
    have l6 : d ≤ 35 := by unfold dataN at hd; omega
    clear hp hd
    go_enter Tryz.func24, Tryz.ntmps24
    go_wp2_with fail
    refine (plan_any b m _).mono ?_
    rintro e w1 ⟨rfl, hb1⟩
    unfold planC geomC
    rw [if_pos HP.out, HP.out, HDI.out]
    have B := Lib.hid hb1
    clear hb1
    have hz := B.out.size
    go_wp2_with (refine make_blk 22 (.tmp 22) (.tmp 22) 9 i0 (.string ⟨#[]⟩) b b b rfl rfl Tryz.underlying22 I0.out.1 I0.out.2.1 I0.out.2.2.1 rfl rfl rfl rfl rfl (by rw [I0.out.2.2.2]; omega) (by unfold maxLen; omega) ?_; intro w2 g2 hg2; have G8 := Lib.hid g2; have G6 := Lib.hid ((Blk.new w1 54 #[.int .i64 b, .int .i64 m, .int .i64 1, .int .i64 2, .int .i64 3, .int .i64 d]).grown hg2 (by simp)); have B2 := Lib.hid ((B.out.alloc hz _).grown hg2 (by simp; omega) (by intro k hk; cases hk)); clear g2 hg2)
    have e8 : (w1.alloc (.cells #[.int .i64 b, .int .i64 m, .int .i64 1, .int .i64 2, .int .i64 3, .int .i64 d] 54)).heap.size = w1.heap.size + 1 := by simp
    rw [e8] at G8
    clear e8
    have hz1 : w.heap.size ≤ w1.heap.size := hz
    go_loopw [26] (fun i wr => ∃ k : Nat, k ≤ b ∧ i = .int .i64 k ∧ Hid (Blk wr (w1.heap.size + 1) 9 ((zrow b k).map .string).toArray) ∧ Hid (Blk wr w1.heap.size 54 #[.int .i64 b, .int .i64 m, .int .i64 1, .int .i64 2, .int .i64 3, .int .i64 d]) ∧ Hid (Below w.heap.size w wr)) (fun i _ => b - (intOf i).toNat)
    case atStart => exact ⟨0, Nat.zero_le _, rfl, by show Blk _ _ _ _; have := G8.out; unfold zrow; simpa using this, G6, B2⟩
    case round =>
      obtain ⟨k, hk, rfl, Y8, Y6, Y⟩ := hrel
      by_cases hlt : k < b
      · go_wp2_with fail
        refine (zeros_any _).mono ?_
        rintro e w3 ⟨rfl, hb3⟩
        have Y8 := Lib.hid (Y8.out.below hb3 Y8.out.lt)
        have Y6 := Lib.hid (Y6.out.below hb3 Y6.out.lt)
        have Y := Lib.hid (Y.out.trans (hb3.mono Y.out.size))
        clear hb3
        have hkt : k < (zrow b k).length := by rw [zrow_length b k hk]; exact hlt
        have hc : ∃ s, w3.cell? ⟨w1.heap.size + 1, k, none⟩ = some (.string s) := ⟨(zrow b k)[k], Y8.out.cell k (by simp only [List.getElem?_toArray, List.getElem?_map, List.getElem?_eq_getElem hkt]; rfl)⟩
        obtain ⟨s, hc⟩ := hc
        have hf := Y8.out.frozen k
        have i1 : (0 : Int) ≤ (k : Int) := by omega
        have i2 : (k : Int) < (b : Int) := by omega
        clear hkt
        go_wp2
        go_roundw
        case rel =>
          refine ⟨k + 1, by omega, by go_num, ?_, Y6.out.far (by simp) _, Y.out.setCell (by show w.heap.size ≤ w1.heap.size + 1; omega) _⟩
          have := Y8.out.set_ k (.string (zerosB 128))
          rw [List.setIfInBounds_toArray, ← List.map_set, zrow_set b k hlt] at this
          exact this
        case measure => simp [intOf]; omega
      · obtain rfl : k = b := by omega
        clear hlt hk
        have x0 : wr.cell? ⟨w1.heap.size, 0, none⟩ = some (.int .i64 k) := Y6.out.cell 0 rfl
        have x1 : wr.cell? ⟨w1.heap.size, 1, none⟩ = some (.int .i64 m) := Y6.out.cell 1 rfl
        have x2 : wr.cell? ⟨w1.heap.size, 2, none⟩ = some (.int .i64 1) := Y6.out.cell 2 rfl
        have x3 : wr.cell? ⟨w1.heap.size, 3, none⟩ = some (.int .i64 2) := Y6.out.cell 3 rfl
        have x4 : wr.cell? ⟨w1.heap.size, 4, none⟩ = some (.int .i64 3) := Y6.out.cell 4 rfl
        have x5 : wr.cell? ⟨w1.heap.size, 5, none⟩ = some (.int .i64 d) := Y6.out.cell 5 rfl
        go_wp2_with fail
        refine (first_any k m 1 2 3 d _ (by omega) (by omega)).mono ?_
        rintro e w3 ⟨rfl, hb3⟩
        have Y8 := Lib.hid (Y8.out.below hb3 Y8.out.lt)
        have Y6 := Lib.hid (Y6.out.below hb3 Y6.out.lt)
        have Y := Lib.hid (Y.out.trans (hb3.mono Y.out.size))
        clear hb3 x0 x1 x2 x3 x4 x5
        have hkt : 0 < (zrow k k).length := by rw [zrow_length k k (Nat.le_refl _)]; omega
        have hc : ∃ s, w3.cell? ⟨w1.heap.size + 1, 0, none⟩ = some (.string s) := ⟨(zrow k k)[0], Y8.out.cell 0 (by simp only [List.getElem?_toArray, List.getElem?_map, List.getElem?_eq_getElem hkt]; rfl)⟩
        obtain ⟨s, hc⟩ := hc
        have hf := Y8.out.frozen 0
        have i2 : (0 : Int) < (k : Int) := by omega
        have i3 : 0 < k := by omega
        clear hkt
        go_upto_region 11 with fail
        obtain ⟨w4, hw4⟩ : ∃ w4, w3.setCell ⟨w1.heap.size + 1, 0, none⟩ (.string (headB k m)) = w4 := ⟨_, rfl⟩
        rw [hw4]
        have X8 : Hid (Blk w4 (w1.heap.size + 1) 9 (((zrow k k).set 0 (headB k m)).map .string).toArray) := by
          have := Y8.out.set_ 0 (.string (headB k m))
          rw [List.setIfInBounds_toArray, ← List.map_set, hw4] at this
          exact this
        have X6 : Hid (Blk w4 w1.heap.size 54 #[.int .i64 k, .int .i64 m, .int .i64 1, .int .i64 2, .int .i64 3, .int .i64 d]) := hw4 ▸ Y6.out.far (by simp) _
        have X : Hid (Below w.heap.size w w4) := hw4 ▸ Y.out.setCell (by show w.heap.size ≤ w1.heap.size + 1; omega) _
        clear hw4 hc hf i2 Y8 Y6 Y
        have hx8 := X8.out.lt
        go_wp2_with (refine make_blk 58 (.const (.int .i64 128)) (.const (.int .i64 128)) 5 i1 (.int .u8 0) 128 128 128 rfl rfl Tryz.underlying58 I1.out.1 I1.out.2.1 I1.out.2.2.1 rfl rfl rfl rfl rfl (by rw [I1.out.2.2.2]; decide) (by decide) ?_; intro w5 g5 hg5; have T := Lib.hid g5; have X8 := Lib.hid (X8.out.grown hg5 (by simp)); have X6 := Lib.hid (X6.out.grown hg5 (by simp)); have X := Lib.hid (X.out.grown hg5 X.out.size (by intro k hk; cases hk)); have x5 : w5.cell? ⟨w1.heap.size, 5, none⟩ = some (.int .i64 d) := X6.out.cell 5 rfl; clear g5 hg5)
        rw [byteC_zero] at T
        go_loopw [41] (fun i wr => ∃ j : Nat, j ≤ d ∧ i = .int .i64 j ∧ Hid (Blk wr w4.heap.size 5 (byteC (mapN j))) ∧ Hid (Blk wr (w1.heap.size + 1) 9 (((zrow k k).set 0 (headB k m)).map .string).toArray) ∧ Hid (Below w.heap.size w wr)) (fun i _ => d - (intOf i).toNat)
        case atStart => exact ⟨0, Nat.zero_le _, rfl, T, X8, X⟩
        case round =>
          obtain ⟨j, hj, rfl, T, X8, X⟩ := hrel
          have hxz := X.out.size
          by_cases hlt : j < d
          · have hjl : j / 8 < (mapN j).length := by rw [mapN_length]; omega
            have HT := Lib.hid (or_byte (mapN j) j hjl)
            have HC2 := Lib.hid (or_cells (mapN j) j hjl)
            have k1 := T.out.cell (j / 8) (byteC_get (mapN j) (j / 8) hjl)
            have k2 := T.out.frozen (j / 8)
            have k3 : (j : Int) / 8 < 128 := by omega
            have k4 : IntKind.i64.wrap ((j : Int) / 8) = (j : Int) / 8 := IntWalk.i64_in _ (by omega)
            have k5 : IntKind.i64.wrap ((j : Int) % 8) = (j : Int) % 8 := IntWalk.i64_in _ (by omega)
            have k6 : (0 : Int) ≤ (j : Int) / 8 := by omega
            have k7 : ((j : Int) / 8).toNat = j / 8 := by omega
            have k8 : (0 : Int) ≤ (j : Int) % 8 := by omega
            have k9 : ((j : Int) % 8).toNat = j % 8 := by omega
            generalize hby : (mapN j).getD (j / 8) 0 = by0 at k1 HT
            go_upto_region 15 with fail
            go_region
            rw [HT.out]
            generalize hw6 : World.drew _ = w6
            have T6 : Hid (Blk w6 w4.heap.size 5 (byteC (mapN (j + 1)))) := by
              show Blk _ _ _ _
              rw [mapN_succ, ← HC2.out, ← hw6]; exact (T.out.set_ (j / 8) _).drew
            have X86 : Hid (Blk w6 (w1.heap.size + 1) 9 (((zrow k k).set 0 (headB k m)).map .string).toArray) := hw6 ▸ (X8.out.far (by simp; omega) _).drew
            have X6' : Hid (Below w.heap.size w w6) := hw6 ▸ (X.out.setCell (by show w.heap.size ≤ w4.heap.size; omega) _).drew
            clear hw6 k1 k2 k3 k4 k5 k6 k7 k8 k9 hby HT HC2
            go_wp2
            go_roundw
            case rel => exact ⟨j + 1, by omega, by go_num, T6, X86, X6'⟩
            case measure => simp [intOf]; omega
          · obtain rfl : j = d := by omega
            clear hlt hj
            have hcv := conv_blk (P := Tryz.prog) (st := mapB j) 128 (by rw [mapB_list]; exact T.out) (mapB_size j) 128 Tryz.underlying58 Tryz.underlying5 Tryz.underlying9
            have hlen : ((zrow k k).set 0 (headB k m)).length = k := by rw [List.length_set, zrow_length k k (Nat.le_refl _)]
            have hc : ∃ s, wr.cell? ⟨w1.heap.size + 1, 2, none⟩ = some (.string s) := ⟨((zrow k k).set 0 (headB k m))[2]'(by omega), X8.out.cell 2 (by simp only [List.getElem?_toArray, List.getElem?_map]; rw [List.getElem?_eq_getElem (by omega)]; rfl)⟩
            obtain ⟨s, hc⟩ := hc
            have hf := X8.out.frozen 2
            have i2 : (2 : Int) < (k : Int) := by omega
            clear hlen
            go_wp2
            go_ret2
            unfold FmtPost
            rw [if_pos HP.out]
            refine ⟨X.out.setCell (by show w.heap.size ≤ w1.heap.size + 1; omega) _, _, rfl, w1.heap.size + 1, by rw [Int.toNat_natCast, fmtV_length]; rfl, by omega, ?_⟩
            have := X8.out.set_ 2 (.string (mapB j))
            rw [List.setIfInBounds_toArray, ← List.map_set] at this
            have e : fmtV k m = ((zrow k k).set 0 (headB k m)).set 2 (mapB j) := by unfold fmtV zrow; rw [HD.out]; simp
            rw [Int.toNat_natCast, Int.toNat_natCast, e]; exact this
end Go.Proofs.YtoanladhikdcaaaGreat
