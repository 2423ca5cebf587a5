/-
  ExtentCuts: the walk.
-/
import Derived.Test.YtjmafegckfijbaaLawExtPl
import Derived.Test.YtjmafegckfijbaaLaidW
import Derived.BigQuiet
import Derived.RegionTactic
import Derived.BigRegion
namespace Go.Proofs.Ytjmafegckfijbaa
open Go.RowKit
set_option linter.unusedVariables false
set_option linter.unusedSimpArgs false
set_option maxRecDepth 100000
theorem RowAt.int3 {w : World} {B : Nat} {A : Option Addr} (h : RowAt w B A [.int .i64 1, .int .i64 2, .int .i64 3]) : ∃ b o, A = some ⟨b, o, none⟩ ∧ b < B ∧ w.cell? ⟨b, o, none⟩ = some (.int .i64 1) ∧ w.cell? ⟨b, o + 1, none⟩ = some (.int .i64 2) ∧ w.cell? ⟨b, o + 2, none⟩ = some (.int .i64 3) := by
  obtain ⟨b, o, hA, hb, hc⟩ := h.at_ (by decide)
  exact ⟨b, o, hA, hb, hc 0 _ rfl, hc 1 _ rfl, hc 2 _ rfl⟩
theorem repl_str (z : Nat) : strOfNums (List.replicate z 0) = zerosB z := by
  unfold strOfNums zerosB
  rw [List.map_replicate]
  rfl
/-- make([]byte, z), made a string -/
theorem made_zeros {wm : World} {B z : Nat} {g : Nat} (h : wm.ownsRow B 5 1 (.slice (some ⟨g, 0, none⟩) z z) z (madeCells (Value.int .u8 0).cells (z * 1)).toList) :
    (convert 62 9 (.slice (some ⟨g, 0, none⟩) z z)).run Try.prog wm = .ok (.string (zerosB z)) wm := by
  have hb := own_blk h
  have := run_convert_bytes_arg (P := Try.prog) wm 62 5 Try.underlying62 Try.underlying5 g 0 z z (List.replicate z 0) (by simp) (fun i hi => by
    rw [Nat.zero_add]
    refine hb.cell i ?_
    rw [List.getElem?_toArray, List.getD_eq_getElem?_getD, List.getElem?_replicate, if_pos hi, Array.getElem?_toList]
    rw [Array.getElem?_eq_getElem (by rw [size_madeCells]; omega)]
    simp [madeCells, Nat.mod_one, Value.cells]) 9 Try.underlying9
  rw [this, repl_str]
theorem cut_str (s : ByteArray) (size : Nat) : s.extract 0 (min size s.size) ++ zerosB (size - s.size) = ⟨(cutL size s.data.toList).toArray⟩ := by
  apply WideShapes.bytes_inj
  have e1 := Lib.extract_data s 0 (min size s.size)
  have e2 : s.data.toList.length = s.size := by rw [Array.length_toList]; rfl
  unfold cutL
  simp only [ByteArray.data_append, Array.toList_append, e1, List.drop_zero, Nat.sub_zero, zerosB_list, e2]
  congr 1
  by_cases h : size ≤ s.size
  · rw [Nat.min_eq_left h]
  · rw [Nat.min_eq_right (by omega), List.take_of_length_le (by omega), List.take_of_length_le (by omega)]
set_option maxHeartbeats 8000000 in
theorem law_cuts (A : Option Addr) (c : Nat) (l : List ActV) (p q : Nat) (w : World) (hp : p < 65536) (hq : q < 65536) (hl : l.length ≤ maxLen) (hd : ∀ a ∈ l, ActOk a ∧ a.data.size ≤ 140737488355328) (h : ActsAt w w.heap.size A l) :
    Calls Try.prog 15 #[.slice A l.length c, .agg #[.int .u16 p, .int .u16 q]] w fun e w' => e = .returned (.bool true) ∧ Below w.heap.size w w' := by
  obtain ⟨i0, q1, q2, q3, q4⟩ := info_parts u8_info
  have I0 := Lib.hid (And.intro q1 (And.intro q2 (And.intro q3 q4)))
  clear q1 q2 q3 q4
  have B0 := Lib.hid ((Below.refl w.heap.size w).alloc (Nat.le_refl _) (.cells #[.int .u16 (p : Int), .int .u16 (q : Int)] 73))
  have G0 := Lib.hid (Blk.new w 73 #[.int .u16 (p : Int), .int .u16 (q : Int)])
  have H0 := Lib.hid ((h.below B0.out).mono B0.out.size)
  have CG := Lib.hid (fun w h => lgreat_any A c l w hl h)
  have CL := Lib.hid (fun w h => laid_any A c l w hl hd h)
  unfold LaidPost at CL
  have HS := Lib.hid (laidV_laid l)
  generalize laidV l = V at *
  clear h hl hd
  obtain ⟨size, hsz⟩ : ∃ size, p % 8961 = size := ⟨_, rfl⟩
  obtain ⟨more, hmr⟩ : ∃ more, q % 8961 = more := ⟨_, rfl⟩
  have a1 : IntKind.i64.wrap (p : Int) = (p : Int) := IntWalk.i64_in _ (by omega)
  have a2 : IntKind.i64.wrap (q : Int) = (q : Int) := IntWalk.i64_in _ (by omega)
  have a3 : (p : Int).tmod 8961 = (size : Int) := by rw [← hsz]; rfl
  have a4 : (q : Int).tmod 8961 = (more : Int) := by rw [← hmr]; rfl
  have a5 : IntKind.i64.wrap (size : Int) = (size : Int) := IntWalk.i64_in _ (by omega)
  have a6 : IntKind.i64.wrap (more : Int) = (more : Int) := IntWalk.i64_in _ (by omega)
  have a7 : (p : Int) % 8961 = (size : Int) := by omega
  have a8 : (q : Int) % 8961 = (more : Int) := by omega
  have m1 : size ≤ 8960 := by omega
  have m2 : more ≤ 8960 := by omega
  have PL := cuts_plain HS.out m1 m2
  have CC1 := Lib.hid (fun A c w hr => by have := cut_any A c V 2 size w (by rw [HS.out.len]; decide) hr; rwa [HS.out.len, PL.1] at this)
  have CC2 := Lib.hid (fun A c w hr => by have := cut_any A c (cutO V 2 size).1 2 more w (by rw [PL.2.2.1.len]; decide) hr; rwa [PL.2.2.1.len, PL.2.1] at this)
  have CW := Lib.hid (fun A c (W : List ByteArray) (n : Nat) w (h40 : W.length = 40) hr => by have := whole19_any A c W n w (by rw [h40]; decide) hr; rwa [h40] at this)
  obtain ⟨_, _, h1, h2, e1, e2, e3, e4⟩ := PL
  generalize (cutO V 2 size).1 = W at *
  generalize (cutO W 2 more).1 = X at *
  have HL1 := Lib.hid h1.len
  have HL2 := Lib.hid h2.len
  have HL0 := Lib.hid HS.out.len
  have E1 := Lib.hid e1
  have E2 := Lib.hid e2
  have E3 := Lib.hid e3
  have E4 := Lib.hid e4
  clear h1 h2 e1 e2 e3 e4 hsz hmr hp hq
  go_enter Try.func15, Try.ntmps15
  go_wp2_with fail
  generalize World.alloc _ _ = w0 at *
  refine (CG.out _ H0.out).mono ?_
  rintro e w1 ⟨⟨b, rfl⟩, hb1⟩
  have B1 := Lib.hid (B0.out.trans (hb1.mono B0.out.size))
  have G1 := Lib.hid (G0.out.below hb1 G0.out.lt)
  have H1 := Lib.hid ((H0.out.below hb1).mono hb1.size)
  clear hb1 B0 G0 H0 CG
  cases b with
  | true =>
    go_wp2_with fail
    refine (fixed19_any _).mono ?_
    rintro e w2 ⟨rfl, hb2⟩
    have B2 := Lib.hid (B1.out.trans (hb2.mono B1.out.size))
    clear hb2
    go_wp2
    go_ret
    exact ⟨rfl, B2.out⟩
  | false =>
    go_wp2_with fail
    refine (CL.out _ H1.out).mono ?_
    rintro e w2 ⟨⟨A2, c2, A3, c3, rfl, hr2, hr3⟩, hb2⟩
    have B2 := Lib.hid (B1.out.trans (hb2.mono B1.out.size))
    have G2 := Lib.hid (G1.out.below hb2 G1.out.lt)
    have R2 := Lib.hid hr2
    obtain ⟨bn, on, rfl, hbn, n1, n2, n3⟩ := hr3.int3
    have HN : Hid (bn < w2.heap.size) := hbn
    have u0 : ∀ u : Ext w2, u.val.cell? ⟨w.heap.size, 0, none⟩ = some (.int .u16 (p : Int)) := fun u => u.cell (G2.out.cell 0 rfl)
    have u1 : ∀ u : Ext w2, u.val.cell? ⟨w.heap.size, 1, none⟩ = some (.int .u16 (q : Int)) := fun u => u.cell (G2.out.cell 1 rfl)
    have N1 : Hid (∀ W, Below w2.heap.size w2 W → W.cell? ⟨bn, on, none⟩ = some (.int .i64 1)) := fun W hb => (hb.cell (p := ⟨bn, _, none⟩) hbn).trans n1
    have N2 : Hid (∀ W, Below w2.heap.size w2 W → W.cell? ⟨bn, on + 1, none⟩ = some (.int .i64 2)) := fun W hb => (hb.cell (p := ⟨bn, _, none⟩) hbn).trans n2
    have N3 : Hid (∀ W, Below w2.heap.size w2 W → W.cell? ⟨bn, on + 2, none⟩ = some (.int .i64 3)) := fun W hb => (hb.cell (p := ⟨bn, _, none⟩) hbn).trans n3
    clear hb2 hr2 hr3 n1 n2 n3 hbn B1 G1 H1 CL
    go_wp2
    refine wp_region_ext (by kernel_rfl) (by kernel_rfl) ?_
    repeat (go_big_quiet_step (fail))
    refine wpQuiet_nil ?_
    rintro _ ⟨u, rfl⟩
    have D := Lib.hid u.below
    have R3 := Lib.hid (R2.out.ext u)
    have k2 := N2.out _ D.out
    clear u0 u1 R2 G2
    generalize u.val = w3 at *
    go_wp2_with fail
    refine (CC1.out _ _ _ R3.out).mono ?_
    rintro e w4 ⟨⟨v4, rfl, hn4⟩, hb4⟩
    obtain ⟨A4, c4, rfl, hr4⟩ := hn4.read40 HL1.out
    have R4 := Lib.hid hr4
    have RV4 := Lib.hid ((R3.out.below hb4).mono hb4.size)
    have D4 := Lib.hid (D.out.trans (hb4.mono D.out.size))
    clear hr4 hn4 hb4 k2 D R3 CC1
    have k2 := N2.out _ D4.out
    go_wp2_with fail
    refine (CC2.out _ _ _ R4.out).mono ?_
    rintro e w5 ⟨⟨v5, rfl, hn5⟩, hb5⟩
    obtain ⟨A5, c5, rfl, hr5⟩ := hn5.read40 HL2.out
    have RX5 := Lib.hid hr5
    have RW5 := Lib.hid ((R4.out.below hb5).mono hb5.size)
    have RV5 := Lib.hid ((RV4.out.below hb5).mono hb5.size)
    have D5 := Lib.hid (D4.out.trans (hb5.mono D4.out.size))
    clear hr5 hn5 hb5 k2 D4 R4 RV4 CC2
    have k2 := N2.out _ D5.out
    go_wp2_with fail
    refine (CW.out _ _ V 2 _ HL0.out RV5.out).mono ?_
    rintro e w6 ⟨rfl, hb6⟩
    have RX6 := Lib.hid ((RX5.out.below hb6).mono hb6.size)
    have RW6 := Lib.hid ((RW5.out.below hb6).mono hb6.size)
    have RV6 := Lib.hid ((RV5.out.below hb6).mono hb6.size)
    have D6 := Lib.hid (D5.out.trans (hb6.mono D5.out.size))
    clear hb6 k2 D5 RX5 RW5 RV5
    obtain ⟨s0, hs0⟩ : ∃ s0 : ByteArray, (⟨(wholeX V 2).toArray⟩ : ByteArray) = s0 := ⟨_, rfl⟩
    rw [hs0]
    have hz0 : s0.size = sizeX (getR V ((2 : Nat) : Int)) := by rw [← hs0]; show (wholeX V 2).toArray.size = _; rw [List.size_toArray, whole_len HS.out.snd mem2]
    have hz1 := sizeX_le (getR V ((2 : Nat) : Int))
    rw [← hz0] at hz1
    have ht0 : s0.data.toList = wholeX V 2 := by rw [← hs0]
    obtain ⟨s1, hs1⟩ : ∃ s1 : ByteArray, s0.extract 0 (min size s0.size) ++ zerosB (size - s0.size) = s1 := ⟨_, rfl⟩
    have ht1 : (⟨(wholeX W 2).toArray⟩ : ByteArray) = s1 := by rw [← hs1, cut_str, ht0, E1.out]
    have hz2 : s1.size = size := by rw [← ht1]; show (wholeX W 2).toArray.size = _; rw [List.size_toArray, E1.out, cutL_len]
    have ht2 : s1.data.toList = cutL size (wholeX V 2) := by rw [← ht1, ← E1.out]
    obtain ⟨s2, hs2⟩ : ∃ s2 : ByteArray, s1.extract 0 (min more s1.size) ++ zerosB (more - s1.size) = s2 := ⟨_, rfl⟩
    have ht3 : (⟨(wholeX X 2).toArray⟩ : ByteArray) = s2 := by rw [← hs2, cut_str, ht2, E2.out]
    have CA := Lib.hid (fun w h => CW.out A4 c4 W 2 w HL1.out h)
    rw [ht1] at CA
    have CB := Lib.hid (fun w h => CW.out A5 c5 X 2 w HL2.out h)
    rw [ht3] at CB
    have CX1 := Lib.hid (fun w h => CW.out A5 c5 X 1 w HL2.out h)
    have CX3 := Lib.hid (fun w h => CW.out A5 c5 X 3 w HL2.out h)
    have CV1 := Lib.hid (fun w h => CW.out A2 c2 V 1 w HL0.out h)
    have CV3 := Lib.hid (fun w h => CW.out A2 c2 V 3 w HL0.out h)
    rw [E3.out] at CX1
    rw [E4.out] at CX3
    obtain ⟨s3, hs3⟩ : ∃ s3 : ByteArray, (⟨(wholeX V 1).toArray⟩ : ByteArray) = s3 := ⟨_, rfl⟩
    obtain ⟨s4, hs4⟩ : ∃ s4 : ByteArray, (⟨(wholeX V 3).toArray⟩ : ByteArray) = s4 := ⟨_, rfl⟩
    rw [hs3] at CX1 CV1
    rw [hs4] at CX3 CV3
    clear hz0 hs0 ht0 ht1 ht2 ht3 hs3 hs4 CW
    obtain ⟨k, hk⟩ : ∃ k, min size s0.size = k := ⟨_, rfl⟩
    obtain ⟨z, hz⟩ : ∃ z, size - s0.size = z := ⟨_, rfl⟩
    have b1 : IntKind.i64.wrap ((size : Int) - (s0.size : Int)) = (size : Int) - (s0.size : Int) := IntWalk.i64_in _ (by omega)
    have b2 : max ((size : Int) - (s0.size : Int)) 0 = (z : Int) := by omega
    have b3 : min (size : Int) (s0.size : Int) = (k : Int) := by omega
    have b4 : (0 : Int) ≤ (k : Int) := by omega
    have b5 : (k : Int) ≤ (s0.size : Int) := by omega
    obtain ⟨wm, hm, hown, hgm⟩ := run_make_full (P := Try.prog) w6.drew w6.heap.size 62 5 i0 (.int .u8 0) 1 Try.underlying62 I0.out.1 I0.out.2.1 I0.out.2.2.1 .i64 .i64 z (by rw [I0.out.2.2.2]; omega) (by unfold maxLen; omega) (Nat.le_refl _)
    have cvt : (convert 62 9 (.slice (some ⟨w6.heap.size, 0, none⟩) z z)).run Try.prog wm = .ok (.string (zerosB z)) wm := made_zeros hown
    have e1 : (s0.extract 0 k).size ≤ 8960 := by rw [ByteArray.size_extract]; omega
    have ad1 := fun (w : World) => run_string_add_sum (P := Try.prog) (w := w) (s0.extract 0 k) (zerosB z) (by rw [zerosB_size]; omega)
    rw [hk, hz] at hs1
    have HK := Lib.hid hk
    have HZ := Lib.hid hz
    have HS1 := Lib.hid hs1
    have HS2 := Lib.hid hs2
    have HZ2 := Lib.hid hz2
    have GM := Lib.hid hgm
    clear hk hz e1 hs1 hs2 hz2 hown hgm
    go_wp2
    go_region
    rw [HS1.out]
    have BM : Hid (Below w6.heap.size w6 wm) := (Below.refl _ _).drew.grown GM.out (Nat.le_refl _) (fun k e => by cases e)
    replace RX6 := Lib.hid ((RX6.out.below BM.out).mono BM.out.size)
    replace RW6 := Lib.hid ((RW6.out.below BM.out).mono BM.out.size)
    replace RV6 := Lib.hid ((RV6.out.below BM.out).mono BM.out.size)
    replace D6 := Lib.hid (D6.out.trans (BM.out.mono D6.out.size))
    clear hm cvt ad1 b1 b2 b3 b4 b5 GM BM HS1 HK HZ
    obtain ⟨k, hk⟩ : ∃ k, min more s1.size = k := ⟨_, rfl⟩
    obtain ⟨z, hz⟩ : ∃ z, more - s1.size = z := ⟨_, rfl⟩
    have hz1 : s1.size ≤ 8960 := by rw [HZ2.out]; exact m1
    have b1 : IntKind.i64.wrap ((more : Int) - (s1.size : Int)) = (more : Int) - (s1.size : Int) := IntWalk.i64_in _ (by omega)
    have b2 : max ((more : Int) - (s1.size : Int)) 0 = (z : Int) := by omega
    have b3 : min (more : Int) (s1.size : Int) = (k : Int) := by omega
    have b4 : (0 : Int) ≤ (k : Int) := by omega
    have b5 : (k : Int) ≤ (s1.size : Int) := by omega
    obtain ⟨wn, hm, hown, hgm⟩ := run_make_full (P := Try.prog) wm.drew wm.heap.size 62 5 i0 (.int .u8 0) 1 Try.underlying62 I0.out.1 I0.out.2.1 I0.out.2.2.1 .i64 .i64 z (by rw [I0.out.2.2.2]; omega) (by unfold maxLen; omega) (Nat.le_refl _)
    have cvt : (convert 62 9 (.slice (some ⟨wm.heap.size, 0, none⟩) z z)).run Try.prog wn = .ok (.string (zerosB z)) wn := made_zeros hown
    have e1 : (s1.extract 0 k).size ≤ 8960 := by rw [ByteArray.size_extract]; omega
    have ad1 := fun (w : World) => run_string_add_sum (P := Try.prog) (w := w) (s1.extract 0 k) (zerosB z) (by rw [zerosB_size]; omega)
    have hs2 := HS2.out
    rw [hk, hz] at hs2
    replace HS2 := Lib.hid hs2
    have GM := Lib.hid hgm
    clear hk hz e1 hs2 hown hgm I0 hz1
    go_wp2
    go_region
    rw [HS2.out]
    have BM : Hid (Below wm.heap.size wm wn) := (Below.refl _ _).drew.grown GM.out (Nat.le_refl _) (fun k e => by cases e)
    replace RX6 := Lib.hid ((RX6.out.below BM.out).mono BM.out.size)
    replace RW6 := Lib.hid ((RW6.out.below BM.out).mono BM.out.size)
    replace RV6 := Lib.hid ((RV6.out.below BM.out).mono BM.out.size)
    replace D6 := Lib.hid (D6.out.trans (BM.out.mono D6.out.size))
    clear hm cvt ad1 b1 b2 b3 b4 b5 GM BM HS2
    have BW := Lib.hid (B2.out.trans (D6.out.mono B2.out.size))
    have k1 : ∀ u : Ext wn, u.val.cell? ⟨bn, on, none⟩ = some (.int .i64 1) := fun u => N1.out _ (D6.out.trans (u.below.mono D6.out.size))
    have k2 : ∀ u : Ext wn, u.val.cell? ⟨bn, on + 1, none⟩ = some (.int .i64 2) := fun u => N2.out _ (D6.out.trans (u.below.mono D6.out.size))
    have k3 : ∀ u : Ext wn, u.val.cell? ⟨bn, on + 2, none⟩ = some (.int .i64 3) := fun u => N3.out _ (D6.out.trans (u.below.mono D6.out.size))
    have Q1 : Hid (∀ u : Ext wn, Calls Try.prog 50 #[.slice A4 40 c4, .int .i64 2] u.val fun e w' => e = .returned (.string s1) ∧ Below u.val.heap.size u.val w') := fun u => CA.out _ (RW6.out.ext u)
    have Q2 : Hid (∀ u : Ext wn, Calls Try.prog 50 #[.slice A5 40 c5, .int .i64 2] u.val fun e w' => e = .returned (.string s2) ∧ Below u.val.heap.size u.val w') := fun u => CB.out _ (RX6.out.ext u)
    have Q3 : Hid (∀ u : Ext wn, Calls Try.prog 50 #[.slice A5 40 c5, .int .i64 1] u.val fun e w' => e = .returned (.string s3) ∧ Below u.val.heap.size u.val w') := fun u => CX1.out _ (RX6.out.ext u)
    have Q4 : Hid (∀ u : Ext wn, Calls Try.prog 50 #[.slice A2 40 c2, .int .i64 1] u.val fun e w' => e = .returned (.string s3) ∧ Below u.val.heap.size u.val w') := fun u => CV1.out _ (RV6.out.ext u)
    have Q5 : Hid (∀ u : Ext wn, Calls Try.prog 50 #[.slice A5 40 c5, .int .i64 3] u.val fun e w' => e = .returned (.string s4) ∧ Below u.val.heap.size u.val w') := fun u => CX3.out _ (RX6.out.ext u)
    have Q6 : Hid (∀ u : Ext wn, Calls Try.prog 50 #[.slice A2 40 c2, .int .i64 3] u.val fun e w' => e = .returned (.string s4) ∧ Below u.val.heap.size u.val w') := fun u => CV3.out _ (RV6.out.ext u)
    clear CA CB CX1 CX3 CV1 CV3 N1 N2 N3 E1 E2 E3 E4
    go_wp2
    refine wp_region_ext (by kernel_rfl) (by kernel_rfl) ?_
    repeat (go_big_quiet_step (first
      | (go_at_call 17; with_reducible exact Ext.call (fixed19_any _))
      | (go_at_call 50; with_reducible exact Ext.call (Q1.out _))
      | (go_at_call 50; with_reducible exact Ext.call (Q2.out _))
      | (go_at_call 50; with_reducible exact Ext.call (Q3.out _))
      | (go_at_call 50; with_reducible exact Ext.call (Q4.out _))
      | (go_at_call 50; with_reducible exact Ext.call (Q5.out _))
      | (go_at_call 50; with_reducible exact Ext.call (Q6.out _))))
    refine wpQuiet_nil ?_
    rintro _ ⟨u, rfl⟩
    go_wp2
    go_ret
    exact ⟨by simp, BW.out.trans (u.below.mono BW.out.size)⟩
end Go.Proofs.Ytjmafegckfijbaa
