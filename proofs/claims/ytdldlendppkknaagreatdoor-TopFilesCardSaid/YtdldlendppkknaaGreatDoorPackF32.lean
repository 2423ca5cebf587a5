/-
  Contracts and plain laws: LawFiles.
-/
import Derived.BigQuiet
import Derived.Test.YtdldlendppkknaaGreatDoorPackF17
import Derived.Test.YtdldlendppkknaaGreatDoorPackF31
namespace Go.Proofs.YtdldlendppkknaaGreatDoor
open Go.RowKit
set_option linter.unusedVariables false
set_option linter.unusedSimpArgs false
set_option maxRecDepth 100000
theorem great_facts {l : List DeedV} (h : greatB l = false) (hn : ∀ a ∈ l, -9223372036854775808 ≤ a.n ∧ a.n ≤ 9223372036854775807) : l.length ≤ 24 ∧ ∀ a ∈ l, DeedOk a := by
 unfold greatB at h
 rw [Bool.or_eq_false_iff] at h
 obtain ⟨h1, h2⟩ := h
 rw [List.any_eq_false] at h1
 refine ⟨by have := of_decide_eq_false h2; omega, fun a ha => ?_⟩
 have h3 := h1 a ha
 unfold greatD at h3
 rw [decide_eq_true_iff] at h3
 exact ⟨hn a ha, by omega, by omega, by omega⟩
theorem allO_live {V : List ByteArray} {m : Nat} (hv : IsVol V m) : ∀ n ∈ allO V, LiveT V m n := fun n hn => by
 unfold allO at hn
 rw [ofR_some.2 hv] at hn
 exact live_iff.2 hn
theorem dataS (s : ByteArray) : s.data.toList.length = s.size := by rw [Array.length_toList]; rfl
set_option maxHeartbeats 16000000 in
theorem law_files (A : Option Addr) (c : Nat) (l : List DeedV) (x y p : Nat) (d nm vl : ByteArray) (w : World) (hx : x < 256) (hy : y < 256) (hp : p < 65536) (hl : l.length ≤ 9223372036854775807) (hn : ∀ a ∈ l, -9223372036854775808 ≤ a.n ∧ a.n ≤ 9223372036854775807)
  (CS : ∀ w', Below w.heap.size w w' → Calls Tryz.prog 8 #[] w' fun e w2 => e = .returned (.bool true) ∧ Below w'.heap.size w' w2) (h : RowAt w w.heap.size A (deedsC l)) :
  Calls Tryz.prog 3 #[.int .u8 x, .int .u8 y, .slice A l.length c, .int .u16 p, .string d, .string nm, .string vl] w fun e w' => e = .returned (.bool true) ∧ Below w.heap.size w w' := by
 have HR := Lib.hid h
 have CS := Lib.hid CS
 obtain ⟨hp0, hr0⟩ := plan_of x y
 obtain ⟨_, s2, s3, _⟩ := start_ok hp0 hr0
 have CV := Lib.hid (fun w => volume_any x y w hx hy)
 have CG := Lib.hid (fun w h => great_any A c l w hl h)
 have HGF := Lib.hid (fun h => great_facts (l := l) h hn)
 have hb59 : 20 + x % 40 ≤ 59 := by omega
 obtain ⟨at_, hat⟩ : ∃ at_, p % 3000 = at_ := ⟨_, rfl⟩
 have a1 : IntKind.i64.wrap (p : Int) = (p : Int) := IntWalk.i64_in _ (by omega)
 have a2 : (p : Int).tmod 3000 = (at_ : Int) := by rw [← hat]; rfl
 have a3 : IntKind.i64.wrap (at_ : Int) = (at_ : Int) := IntWalk.i64_in _ (by omega)
 have a4 : (p : Int) % 3000 = (at_ : Int) := by omega
 have hat3 : at_ < 3000 := by omega
 generalize startV (20 + x % 40) (4 + y % 12) = V0 at *
 generalize 20 + x % 40 = b at *
 generalize 4 + y % 12 = m at *
 have HF0 := Lib.hid s2
 have HL0 := Lib.hid s3
 have HB59 := Lib.hid hb59
 have HL := Lib.hid hl
 clear h hp0 hr0 s2 s3 hx hy hn hb59 hat hl
 go_enter Tryz.func3, Tryz.ntmps3
 go_wp2_with fail
 refine (CV.out _).mono ?_
 rintro e w1 ⟨⟨v1, rfl, hown⟩, hb1⟩
 obtain ⟨A1, c1, rfl, hrow⟩ := OwnRow.read hown
 rw [HL0.out]
 have R1 := Lib.hid hrow
 have B1 := Lib.hid hb1
 clear hown hb1 hrow CV
 go_wp2_with fail
 refine (CG.out _ (row_keep HR.out B1.out B1.out.size)).mono ?_
 rintro e w2 ⟨rfl, hb2⟩
 have B2 := Lib.hid (B1.out.trans (hb2.mono B1.out.size))
 have R2 := Lib.hid (row_keep R1.out hb2 hb2.size)
 clear hb2 CG R1 B1
 generalize greatB l = bg at *
 cases bg with
 | true =>
  go_wp2_with fail
  refine (CS.out _ B2.out).mono ?_
  rintro e w3 ⟨rfl, hb3⟩
  go_wp2
  go_ret
  exact ⟨rfl, B2.out.trans (hb3.mono B2.out.size)⟩
 | false =>
  by_cases h1 : 300 < d.size
  ·have e1 : (300 : Int) < (d.size : Int) := by omega
   go_wp2_with fail
   refine (CS.out _ B2.out).mono ?_
   rintro e w3 ⟨rfl, hb3⟩
   go_wp2
   go_ret
   exact ⟨rfl, B2.out.trans (hb3.mono B2.out.size)⟩
  have e1 : ¬ (300 : Int) < (d.size : Int) := by omega
  have e1' : decide ((300 : Int) < (d.size : Int)) = false := decide_eq_false e1
  by_cases h2 : 100 < nm.size
  ·have e2 : (100 : Int) < (nm.size : Int) := by omega
   have e2' : decide ((100 : Int) < (nm.size : Int)) = true := decide_eq_true e2
   go_wp2_with fail
   refine (CS.out _ B2.out).mono ?_
   rintro e w3 ⟨rfl, hb3⟩
   go_wp2
   go_ret
   exact ⟨rfl, B2.out.trans (hb3.mono B2.out.size)⟩
  have e2 : ¬ (100 : Int) < (nm.size : Int) := by omega
  have e2' : decide ((100 : Int) < (nm.size : Int)) = false := decide_eq_false e2
  by_cases h3 : 200 < vl.size
  ·have e3 : (200 : Int) < (vl.size : Int) := by omega
   have e3' : decide ((200 : Int) < (vl.size : Int)) = true := decide_eq_true e3
   go_wp2_with fail
   refine (CS.out _ B2.out).mono ?_
   rintro e w3 ⟨rfl, hb3⟩
   go_wp2
   go_ret
   exact ⟨rfl, B2.out.trans (hb3.mono B2.out.size)⟩
  have e3 : ¬ (200 : Int) < (vl.size : Int) := by omega
  have e3' : decide ((200 : Int) < (vl.size : Int)) = false := decide_eq_false e3
  obtain ⟨hl24, hok⟩ := HGF.out rfl
  have HOK := Lib.hid hok
  have HSZ : Hid (d.size ≤ 300 ∧ nm.size ≤ 100 ∧ vl.size ≤ 200) := ⟨by omega, by omega, by omega⟩
  clear hok HGF h1 h2 h3
  go_wp2
  clear e1 e1' e2 e2' e3 e3'
  go_loopw [15, 18, 71] (fun v _ i wr => ∃ (k : Nat) (V : List ByteArray) (A2 : Option Addr) (c2 : Nat), k ≤ l.length ∧ i = .int .i64 (k : Int) ∧ v = .slice A2 b c2 ∧ Hid (FsT V m) ∧ Hid (V.length = b) ∧ Hid (RowAt wr wr.heap.size A2 (V.map .string)) ∧ Hid (Below w.heap.size w wr)) (fun _ _ i _ => l.length - (intOf i).toNat)
  case atStart => exact ⟨0, V0, A1, c1, Nat.zero_le _, rfl, rfl, HF0, HL0, R2, B2⟩
  case round =>
   clear R2 B2 HF0 HL0
   obtain ⟨k, V, A2, c2, hk, rfl, rfl, HF, HLV, RV, B⟩ := hrel
   by_cases hlt : k < l.length
   ·obtain ⟨bA, oA, rfl, hbA, hrA⟩ := deed_at (RowAt.below HR.out B.out) hlt
    have CA : Hid (∀ w3, RowAt w3 w3.heap.size A2 (V.map .string) → Calls Tryz.prog 9 #[.slice A2 b c2, .agg (deedC l[k])] w3 (ActPost (actO V l[k]) w3)) := fun w3 h => by
     have h5 := HB59.out
     have h6 := HLV.out
     have := act_any A2 c2 V m l[k] w3 (by omega) HF.out.dir (HOK.out _ (List.getElem_mem hlt)) h
     rwa [HLV.out] at this
    have HK := Lib.hid (act_keep HF.out l[k])
    generalize l[k] = dd at *
    generalize actO V dd = r at *
    obtain ⟨r1, r2⟩ := r
    dsimp only at HK
    obtain ⟨kd, n, p1, q1, d1, o⟩ := dd
    have HR1 : Hid (wr.rangeAt bA (oA + k * 6) [.int .i64 kd, .int .i64 n, .string p1, .string q1, .string d1, .int .i64 o]) := hrA
    have B4 := Lib.hid (B.out.alloc B.out.size (.cells #[.int .i64 kd, .int .i64 n, .string p1, .string q1, .string d1, .int .i64 o] 30))
    have RV4 := Lib.hid (row_keep RV.out ((Below.refl wr.heap.size wr).alloc (Nat.le_refl _) (.cells #[.int .i64 kd, .int .i64 n, .string p1, .string q1, .string d1, .int .i64 o] 30)) (by simp))
    have i2 : (k : Int) < (l.length : Int) := by omega
    have i3 : (0 : Int) ≤ (k : Int) := by omega
    have ws : IntKind.i64.wrap ((k : Int) + 1) = (k : Int) + 1 := IntWalk.i64_in _ (by have := HL.out; omega)
    clear hrA
    go_wp2_with (refine wpList_load_mid rfl 30 (.tmp 73) rfl bA (oA + k * 6) rfl _ _ HR1.out Tryz.underlying30 rfl (by kernel_rfl) ?_; go_frame)
    refine (CA.out _ RV4.out).mono ?_
    rintro e w4 ⟨⟨A4, c4, he, hr4⟩, hb4⟩
    dsimp only at he hr4
    rw [HK.out.2, HLV.out] at he
    subst he
    have R4 := Lib.hid hr4
    have B5 := Lib.hid (B4.out.trans (hb4.mono B4.out.size))
    clear hr4 hb4 CA RV4 B4
    go_wp2
    go_roundw
    case rel => exact ⟨k + 1, r1, A4, c4, by omega, by go_num, rfl, HK.out.1, HK.out.2.trans HLV.out, R4, B5⟩
    case measure => simp [intOf]; omega
   ·clear HR HOK
    obtain rfl : k = l.length := by omega
    have HV6 : Hid (V.length ≤ 1000000) := by have := HB59.out; have := HLV.out; show _ ≤ _; omega
    have CP : Hid (∀ w3, RowAt w3 w3.heap.size A2 (V.map .string) → Calls Tryz.prog 10 #[.slice A2 b c2, .string ⟨#[47, 105, 110, 105, 116]⟩] w3 fun e w' => e = .returned (.tuple #[.int .i64 (pathO V initP.data.toList).1, .int .i64 (pathO V initP.data.toList).2]) ∧ Below w3.heap.size w3 w') := fun w3 h => by
     have := path_any A2 c2 V initP w3 HV6.out h
     rwa [HLV.out] at this
    have HPT := Lib.hid (fun h => HF.out.path (p := initP.data.toList) h)
    generalize pathO V initP.data.toList = pp at *
    obtain ⟨z, ze⟩ := pp
    dsimp only at CP HPT
    go_wp2_with fail
    refine (CP.out _ RV.out).mono ?_
    rintro e w3 ⟨rfl, hb3⟩
    have B3 := Lib.hid (B.out.trans (hb3.mono B.out.size))
    have R3 := Lib.hid (row_keep RV.out hb3 hb3.size)
    clear hb3 CP B RV
    by_cases hze : ze = 0
    case neg =>
     have hze' : (ze != 0) = true := by simpa using hze
     go_wp2_with fail
     refine (CS.out _ B3.out).mono ?_
     rintro e w4 ⟨rfl, hb4⟩
     go_wp2
     go_ret
     exact ⟨rfl, B3.out.trans (hb4.mono B3.out.size)⟩
    subst hze
    obtain ⟨n, rfl, hn, _⟩ := HPT.out rfl
    have HN := Lib.hid hn
    have HRF : Hid (readF V (n : Int) 0 8960 = if kindR V n ≠ 1 then ([], 11) else (wholeT V m n, 0)) := readF_whole HF.out.vol hn.1 hn.2.1
    have HKG : Hid ((getR V (n : Int)).getD 0 0 = kindR V n) := kind_getT HF.out.vol hn.1 hn.2.1
    have HKK := Lib.hid (HF.out.dir.kind n hn)
    have CR : Hid (∀ w3, RowAt w3 w3.heap.size A2 (V.map .string) → Calls Tryz.prog 11 #[.slice A2 b c2, .int .i64 (n : Int), .int .i64 0, .int .i64 8960] w3 (ReadPost (readF V (n : Int) 0 8960) w3)) := fun w3 h => by
     have := readF_any A2 c2 V (n : Int) 0 8960 w3 HV6.out h
     rwa [HLV.out] at this
    have CG : Hid (∀ w3, RowAt w3 w3.heap.size A2 (V.map .string) → Calls Tryz.prog 12 #[.slice A2 b c2, .int .i64 (n : Int)] w3 fun e w' => e = .returned (.tuple #[.agg (inoC (getR V (n : Int))), .int .i64 (inoE V (n : Int))]) ∧ Below w3.heap.size w3 w') := fun w3 h => by
     have := get_ino A2 c2 V (n : Int) w3 HV6.out h
     rwa [HLV.out] at this
    obtain ⟨a0, a1, a2, a3, a4, a5, a6, a7, a8, a9, a10, a11, hg⟩ := len12 (getR_len V (n : Int))
    have HK0 : Hid (a0 = kindR V n) := by have := HKG.out; rw [hg] at this; exact this
    have HWT := Lib.hid (fun (d : List UInt8) (off : Nat) hk he => HF.out.write_whole (off := off) (d := d) hn hk he)
    rw [hg] at CG
    unfold inoC at CG
    simp only [List.map_cons, List.map_nil] at CG
    generalize inoE V (n : Int) = ie at CG
    rw [HRF.out] at CR
    unfold ReadPost at CR
    clear hg hn HPT HKG HRF
    generalize hkn : kindR V n = kn at *
    clear hkn
    rcases HKK.out with rfl | rfl
    ·have h0 : a0 = 1 := HK0.out
     subst h0
     rw [if_neg (by decide)] at CR
     dsimp only at CR
     have hlo : (wholeT V m n).length ≤ 8960 := by rw [wholeT_len]; exact sizeX_le _
     have HW := Lib.hid (fun he => HWT.out d.data.toList at_ rfl he)
     have CW : Hid (∀ w3, RowAt w3 w3.heap.size A2 (V.map .string) → Calls Tryz.prog 13 #[.slice A2 b c2, .int .i64 (n : Int), .int .i64 (at_ : Int), .string d] w3 (RowCode (writeF V (n : Int) (at_ : Int) d.data.toList).1 (writeF V (n : Int) (at_ : Int) d.data.toList).2 w3)) := fun w3 h => by
      have h5 := HSZ.out
      have := writeF_any A2 c2 V (n : Int) (at_ : Int) d w3 HV6.out (by omega) (by omega) h
      rwa [HLV.out] at this
     generalize writeF V (n : Int) (at_ : Int) d.data.toList = r at *
     obtain ⟨W, g⟩ := r
     unfold RowCode at CW
     dsimp only at CW HW
     clear HWT HK0 HKK
     go_wp2_with fail
     refine (CR.out _ R3.out).mono ?_
     rintro e w4 ⟨rfl, hb4⟩
     have B4 := Lib.hid (B3.out.trans (hb4.mono B3.out.size))
     have R4 := Lib.hid (row_keep R3.out hb4 hb4.size)
     clear hb4 CR B3 R3
     go_wp2_with fail
     refine (CG.out _ R4.out).mono ?_
     rintro e w5 ⟨rfl, hb5⟩
     have B5 := Lib.hid (B4.out.trans (hb5.mono B4.out.size))
     have R5 := Lib.hid (row_keep R4.out hb5 hb5.size)
     clear hb5 CG B4 R4
     obtain ⟨w6, hw6⟩ : ∃ w6, w5.alloc (.cells #[.int .i64 1, .int .i64 a1, .int .i64 a2, .int .i64 a3, .int .i64 a4, .int .i64 a5, .int .i64 a6, .int .i64 a7, .int .i64 a8, .int .i64 a9, .int .i64 a10, .int .i64 a11] 39) = w6 := ⟨_, rfl⟩
     have B6 : Hid (Below w.heap.size w w6) := hw6 ▸ B5.out.alloc B5.out.size _
     have R6 : Hid (RowAt w6 w6.heap.size A2 (V.map .string)) := hw6 ▸ row_keep R5.out ((Below.refl _ _).alloc (Nat.le_refl _) _) (by simp)
     have X6 : w6.cell? ⟨w5.heap.size, 0, none⟩ = some (.int .i64 1) := by rw [← hw6]; exact (Blk.new w5 _ _).cell 0 rfl
     go_wp2_with fail
     refine (CW.out _ R6.out).mono ?_
     rintro e w7 ⟨⟨v7, rfl, hn7⟩, hb7⟩
     have NN7 := Lib.hid hn7
     have B7 := Lib.hid (B6.out.trans (hb7.mono B6.out.size))
     have R7 := Lib.hid (row_keep R6.out hb7 hb7.size)
     clear hn7 hb7 CW B6 R6 X6 R5 B5 hw6
     by_cases hg : g = 0
     case neg =>
      have hg' : (g != 0) = true := by simpa using hg
      obtain ⟨A8, c8, rfl, hr8⟩ := NN7.out.read
      clear hr8
      go_wp2_with fail
      refine (CS.out _ B7.out).mono ?_
      rintro e w8 ⟨rfl, hb8⟩
      go_wp2
      go_ret
      exact ⟨rfl, B7.out.trans (hb8.mono B7.out.size)⟩
     subst hg
     have hwt := HW.out rfl
     have HWF := Lib.hid hwt.tree
     have HWL : Hid (W.length = b) := hwt.len.trans HLV.out
     have HSM := Lib.hid hwt.small
     have HWH := Lib.hid hwt.here
     have HOT := Lib.hid hwt.other
     have HW6 : Hid (W.length ≤ 1000000) := by have := HB59.out; have := HWL.out; show _ ≤ _; omega
     obtain ⟨A8, c8, rfl, hr8⟩ := NN7.out.read
     rw [HWL.out]
     have RW7 := Lib.hid hr8
     have HRW : Hid (readF W (n : Int) 0 8960 = (wrL at_ d.data.toList (wholeT V m n), 0)) := by
      show _ = _
      rw [readF_whole hwt.tree.vol hwt.here.1 hwt.here.2.1, hwt.kind, if_neg (by decide), hwt.whole]
     have CRW : Hid (∀ (X : List ByteArray) (k : Nat) A c w3, X.length = b → RowAt w3 w3.heap.size A (X.map .string) → Calls Tryz.prog 11 #[.slice A b c, .int .i64 (k : Int), .int .i64 0, .int .i64 8960] w3 (ReadPost (readF X (k : Int) 0 8960) w3)) := fun X k A c w3 hX h => by
      have h5 := HB59.out
      have := readF_any A c X (k : Int) 0 8960 w3 (by omega) h
      rwa [hX] at this
     have C1 := CRW.out W n A8 c8 w7 HWL.out RW7.out
     rw [HRW.out] at C1
     unfold ReadPost at C1
     have C1 := Lib.hid C1
     clear hr8 NN7 HW hwt
     go_wp2_with fail
     refine C1.out.mono ?_
     rintro e w8 ⟨rfl, hb8⟩
     have B8 := Lib.hid (B7.out.trans (hb8.mono B7.out.size))
     have R8 := Lib.hid (row_keep R7.out hb8 hb8.size)
     have RW8 := Lib.hid (row_keep RW7.out hb8 hb8.size)
     clear hb8 C1 R7 RW7 B7
     obtain ⟨s0, hs0⟩ : ∃ s0 : ByteArray, (⟨(wholeT V m n).toArray⟩ : ByteArray) = s0 := ⟨_, rfl⟩
     have ht0 : s0.data.toList = wholeT V m n := by rw [← hs0]
     have hs0l : s0.data.toList.length = s0.size := dataS s0
     rw [← ht0, hs0l] at hlo
     rw [← ht0] at HRW
     rw [hs0, ← ht0]
     clear hs0 ht0
     obtain ⟨s1, hs1⟩ : ∃ s1 : ByteArray, (⟨(wrL at_ d.data.toList s0.data.toList).toArray⟩ : ByteArray) = s1 := ⟨_, rfl⟩
     obtain ⟨cap, w9, hcv, hbr, hb9, hsz9⟩ := BytesRow.of_convert (P := Tryz.prog) w8 9 44 5 s0 Tryz.underlying9 Tryz.underlying44 Tryz.underlying5 (by unfold maxLen; omega)
     have BR := Lib.hid hbr
     have HB9 := Lib.hid hb9
     have HZ9 := Lib.hid hsz9
     have HS0 := Lib.hid hs0l
     have HZ1 := Lib.hid hlo
     have HS1 := Lib.hid hs1
     obtain ⟨i0, q1, q2, q3, q4⟩ := info_parts u8_info
     have I0 := Lib.hid (And.intro q1 (And.intro q2 (And.intro q3 q4)))
     obtain ⟨n1, hn1⟩ : ∃ n1, at_ + d.size = n1 := ⟨_, rfl⟩
     have HN1 := Lib.hid hn1
     have HN9 : Hid (n1 ≤ 8960) := by have := HSM.out; have := dataS d; show _ ≤ _; omega
     have a5 : IntKind.i64.wrap ((at_ : Int) + (d.size : Int)) = (n1 : Int) := by
      have h5 := HN9.out
      have : IntKind.i64.wrap ((at_ : Int) + (d.size : Int)) = (at_ : Int) + (d.size : Int) := IntWalk.i64_in _ (by omega)
      rw [this]; omega
     rw [hs1]
     clear hbr hb9 hsz9 hs0l hlo q1 q2 q3 q4 hn1 hs1
     go_wp2_with fail
     go_loopw [30] (fun v wr => ∃ (j g cap : Nat) (L : List UInt8), v = .slice (some ⟨g, 0, none⟩) L.length cap ∧ Hid (L = s0.data.toList ++ List.replicate j 0) ∧ Hid (BytesRow wr w8.heap.size g cap L) ∧ Hid (j = 0 ∨ 0 < d.size ∧ L.length ≤ n1) ∧ Hid (Below w8.heap.size w9 wr)) (fun v _ => match v with | .slice _ n _ => n1 - n | _ => 0)
     case atStart =>
      exact ⟨0, _, cap, s0.data.toList, by rw [HS0.out], Lib.hid (by simp), BR, Lib.hid (.inl rfl), Lib.hid (Below.refl _ _)⟩
     case round =>
      clear BR
      obtain ⟨j, g, capj, L, rfl, HL, BRj, HJ, BB⟩ := hrel
      by_cases hcont : 0 < d.size ∧ L.length < n1
      ·have hde : (d.toList == []) = false := by
        have : d.toList ≠ [] := fun e => by
         have h5 := congrArg List.length e
         rw [Lib.toList_data, dataS] at h5
         have h6 : d.size = 0 := h5
         omega
        simpa using this
       have hde2 : d.toList.isEmpty = false := by simpa using hde
       have z2 : (L.length : Int) < (n1 : Int) := by omega
       have hn9 := HN9.out
       have hlm : L.length + 1 ≤ 140737488355328 := by omega
       have BRa := Lib.hid (BRj.out.below ((Below.refl _ _).alloc (Nat.le_refl _) (.cells #[.int .u8 0] 5)))
       have HC : Hid ((wr.alloc (.cells #[.int .u8 0] 5)).cell? ⟨wr.heap.size, 0, none⟩ = some (.int .u8 ((0 : UInt8).toNat : Int))) := (Blk.new wr _ _).cell 0 rfl
       have HWz : Hid (w8.heap.size ≤ (wr.alloc (.cells #[.int .u8 0] 5)).heap.size) := by
        have h1 := BB.out.size
        have h2 := HZ9.out
        show _ ≤ _
        simp
        omega
       clear hn9
       go_wp2_with (at_builtin; refine wpList_bytes_push _ rfl (.tmp 151) (.tmp 152) 44 rfl 5 i0 Tryz.underlying44 I0.out.1 I0.out.2.1 I0.out.2.2.1 I0.out.2.2.2 w8.heap.size g capj L rfl BRa.out ⟨wr.heap.size, 0, none⟩ 1 0 rfl HC.out hlm HWz.out ?_; intro g9 cap9 w10 own hb10)
       have BR10 := Lib.hid own
       have HB10 := Lib.hid hb10
       clear own hb10
       go_roundw
       case rel =>
        refine ⟨j + 1, g9, cap9, L ++ [0], by rw [List.length_append]; rfl, Lib.hid ?_, BR10, Lib.hid (.inr ⟨hcont.1, ?_⟩), Lib.hid ?_⟩
        ·rw [HL.out, List.append_assoc]
         congr 1
         exact (List.replicate_succ' (n := j) (a := (0 : UInt8))).symm
        ·rw [List.length_append]; show L.length + 1 ≤ n1; omega
        ·exact (BB.out.trans (((Below.refl _ _).alloc (Nat.le_refl _) _).mono (by have := HZ9.out; have := BB.out.size; omega))).trans HB10.out
       case measure => simp; omega
      ·have hx : L.length = s0.size + j := by rw [HL.out, List.length_append, List.length_replicate, HS0.out]
       obtain ⟨k, hk⟩ : ∃ k, min at_ L.length = k := ⟨_, rfl⟩
       have hkl : k ≤ L.length := by omega
       have hks : k + d.size ≤ L.length := by have := HN1.out; omega
       obtain ⟨L2, hL2⟩ : ∃ L2, L.take k ++ d.data.toList ++ L.drop (k + d.size) = L2 := ⟨_, rfl⟩
       have hrow : L2 = wrL at_ d.data.toList s0.data.toList := by
        have hsl : d.data.toList.length = d.size := dataS d
        have h1 := HN1.out
        have h2 := HS0.out
        have h3 := HJ.out
        have hd0 : d.data.toList = [] ↔ d.size = 0 := by rw [← hsl, List.length_eq_zero_iff]
        rw [← hL2, HL.out, ← hsl]
        refine reads_row (by omega) (fun hd => ?_) (fun hd => ?_)
        ·have : d.size ≠ 0 := fun e => hd (hd0.2 e)
         omega
        ·have := hd0.1 hd
         omega
       obtain ⟨hcp, hbr⟩ := BytesRow.copy (P := Tryz.prog) BRj.out 44 9 3 5 k d Tryz.underlying44 (by intro w; kernel_rfl) hks
       rw [hL2] at hbr
       have BRc := Lib.hid hbr
       have BBc := Lib.hid (BB.out.trans (below_set BRj.out.base (d.data.toList.map fun x => Value.int .u8 (x.toNat : Int)) k (Below.refl w8.heap.size wr)))
       have hcp0 : k = capj → d.size = 0 → (Builtin.copy_ #[44, 9] 3 #[.slice (some ⟨g, 0, none⟩) (L.length - k) 0, .string d]).run Tryz.prog wr = .ok (goInt d.size) (wr.setCells g k (d.data.toList.map fun x => Value.int .u8 (x.toNat : Int))) := by
        intro h1 h2
        have hsl : d.data.toList = [] := by
         have : d.data.toList.length = d.size := dataS d
         rw [h2] at this; exact List.length_eq_zero_iff.1 this
        have := run_copy_string (P := Tryz.prog) wr 44 9 3 5 g 0 (L.length - k) 0 d Tryz.underlying44 (by intro w; kernel_rfl) (by omega) (fun j hj => by omega) (fun j hj => by omega)
        rw [this, hsl]; rfl
       have hL2l : L2.length = L.length := by
        rw [← hL2, List.length_append, List.length_append, List.length_take, List.length_drop, dataS]; omega
       have hle := BRj.out.le
       generalize hw7 : wr.setCells g k (d.data.toList.map fun x => Value.int .u8 (x.toNat : Int)) = w10 at *
       have b1 : min (at_ : Int) (L.length : Int) = (k : Int) := by omega
       have b2 : (0 : Int) ≤ (k : Int) := by omega
       have b3 : (k : Int) ≤ (L.length : Int) := by omega
       have hD7 : Below w8.heap.size w8 w10 := HB9.out.trans BBc.out
       have R10 := Lib.hid (row_keep R8.out hD7 hD7.size)
       have RW10 := Lib.hid (row_keep RW8.out hD7 hD7.size)
       have B10 := Lib.hid (B8.out.trans (hD7.mono B8.out.size))
       have hcv9 := BytesRow.back (P := Tryz.prog) BRc.out 44 9 5 Tryz.underlying44 Tryz.underlying5 Tryz.underlying9
       rw [hL2l, hrow, HS1.out] at hcv9
       have hemp : d.toList = [] ↔ d.size = 0 := by rw [Lib.toList_data, ← dataS d, List.length_eq_zero_iff]
       have hde0 : d.size = 0 → (d.toList == []) = true := fun h => by simpa using hemp.2 h
       have hde1 : 0 < d.size → (d.toList == []) = false := fun h => by
        have : d.toList ≠ [] := fun e => by have := hemp.1 e; omega
        simpa using this
       have hcs : ((d.toList == []) = true ∧ ¬ k = capj) ∨ ((d.toList == []) = false ∧ ¬ (L.length : Int) < (n1 : Int) ∧ ¬ k = capj) ∨ ((d.toList == []) = true ∧ k = capj ∧ d.size = 0) := by
        by_cases h0 : d.size = 0
        ·by_cases hkc : k = capj
         ·exact .inr (.inr ⟨hde0 h0, hkc, h0⟩)
         ·exact .inl ⟨hde0 h0, hkc⟩
        ·exact .inr (.inl ⟨hde1 (by omega), by omega, by omega⟩)
       have CAL : Hid (∀ w3, RowAt w3 w3.heap.size A2 (V.map .string) → Calls Tryz.prog 14 #[.slice A2 b c2] w3 fun e w' => (∃ v, e = .returned v ∧ OwnNums (allO V) w3 v w') ∧ Below w3.heap.size w3 w') := fun w3 h => by
        have := all_ino A2 c2 V w3 HV6.out h
        rwa [HLV.out] at this
       have HAL := Lib.hid (allO_live HF.out.vol)
       have HNL := allO_len V
       clear hde0 hde1 hemp hD7 hw7 hbr hx hk hL2 hrow HL HJ hcont hks hkl BRj BB HB9 BBc BRc hL2l hle R8 RW8 B8 HS0 HZ1 HZ9 HN1 HN9 I0
       rcases hcs with ⟨z1, z3⟩ | ⟨z1, z2, z3⟩ | ⟨z1, z3, z4⟩
       rotate_left 2
       have hcp1 := hcp0 z3 z4
       clear hcp hcp0 z4
       subst z3
       rotate_left 1
       all_goals
        try clear hcp0
        go_wp2_with fail
        refine (CAL.out _ R10.out).mono ?_
        rintro e w11 ⟨⟨v, rfl, hown⟩, hb11⟩
        obtain ⟨A9, cc, rfl, hrow⟩ := hown.read
        have N11 := Lib.hid hrow
        have R11 := Lib.hid (row_keep R10.out hb11 hb11.size)
        have RW11 := Lib.hid (row_keep RW10.out hb11 hb11.size)
        have B11 := Lib.hid (B10.out.trans (hb11.mono B10.out.size))
        clear hb11 hown hrow CAL R10 RW10 B10 hcv9 z1 b1 b2 b3
        try clear hcp
        try clear hcp1
        try clear z2
        try clear z3
        generalize allO V = ns at *
        go_wp2
        go_loopw [32, 33, 34, 35, 36, 173] (fun _ _ _ _ _ i wr => ∃ k : Nat, k ≤ ns.length ∧ i = .int .i64 (k : Int) ∧ Hid (RowAt wr wr.heap.size A9 (numsC ns)) ∧ Hid (RowAt wr wr.heap.size A2 (V.map .string)) ∧ Hid (RowAt wr wr.heap.size A8 (W.map .string)) ∧ Hid (Below w.heap.size w wr)) (fun _ _ _ _ _ i _ => ns.length - (intOf i).toNat)
        case atStart => exact ⟨0, Nat.zero_le _, rfl, N11, R11, RW11, B11⟩
        case round =>
         clear N11 R11 RW11 B11
         obtain ⟨k, hk, rfl, NK, RK, RWK, BK⟩ := hrel
         by_cases hlt : k < ns.length
         ·obtain ⟨bn, on, rfl, hbn, hcn⟩ := RowAt.at_ NK.out (by unfold numsC; rw [List.length_map]; omega)
          have cn : wr.cell? ⟨bn, on + k, none⟩ = some (.int .i64 ((ns[k] : Nat) : Int)) := hcn k _ (by unfold numsC; simp [hlt])
          have hlv := HAL.out _ (List.getElem_mem hlt)
          generalize ns[k] = q at *
          have CV := CRW.out V q A2 c2 wr HLV.out RK.out
          have CWq := Lib.hid (fun w3 h => CRW.out W q A8 c8 w3 HWL.out h)
          have i2 : (k : Int) < (ns.length : Int) := by omega
          have i3 : (0 : Int) ≤ (k : Int) := by omega
          have ws : IntKind.i64.wrap ((k : Int) + 1) = (k : Int) + 1 := IntWalk.i64_in _ (by omega)
          have HEQ : Hid (q ≠ n → readF W (q : Int) 0 8960 = readF V (q : Int) 0 8960) := fun hne => HOT.out q hlv hne
          generalize readF V (q : Int) 0 8960 = rv at *
          generalize readF W (q : Int) 0 8960 = rw_ at *
          obtain ⟨rv1, rv2⟩ := rv
          obtain ⟨rw1, rw2⟩ := rw_
          unfold ReadPost at CV CWq
          dsimp only at CV CWq
          have CVh := Lib.hid CV
          clear hcn hlv CV
          go_wp2_with fail
          refine CVh.out.mono ?_
          rintro e w12 ⟨rfl, hb12⟩
          have B12 := Lib.hid (BK.out.trans (hb12.mono BK.out.size))
          have R12 := Lib.hid (row_keep RK.out hb12 hb12.size)
          have RW12 := Lib.hid (row_keep RWK.out hb12 hb12.size)
          have N12 := Lib.hid (row_keep NK.out hb12 hb12.size)
          clear hb12 CVh BK RK RWK NK cn
          go_wp2_with fail
          refine (CWq.out _ RW12.out).mono ?_
          rintro e w13 ⟨rfl, hb13⟩
          have B13 := Lib.hid (B12.out.trans (hb13.mono B12.out.size))
          have R13 := Lib.hid (row_keep R12.out hb13 hb13.size)
          have RW13 := Lib.hid (row_keep RW12.out hb13 hb13.size)
          have N13 := Lib.hid (row_keep N12.out hb13 hb13.size)
          clear hb13 CWq B12 R12 RW12 N12
          by_cases hqn : q = n
          ·subst hqn
           clear HEQ
           go_wp2
           go_roundw
           case rel => exact ⟨k + 1, by omega, by go_num, N13, R13, RW13, B13⟩
           case measure => simp [intOf]; omega
          ·obtain ⟨h7, h8⟩ := Prod.mk.inj (HEQ.out hqn)
           subst h7
           subst h8
           clear HEQ
           have hqn' : ((q : Int) != (n : Int)) = true := by simpa using (by omega : ¬ (q : Int) = (n : Int))
           go_wp2
           go_roundw
           case rel => exact ⟨k + 1, by omega, by go_num, N13, R13, RW13, B13⟩
           case measure => simp [intOf]; omega
         ·clear NK HAL HOT HNL
          obtain rfl : k = ns.length := by omega
          have CSA : Hid (∀ w3, RowAt w3 w3.heap.size A8 (W.map .string) → Calls Tryz.prog 15 #[.slice A8 b c8, .int .i64 (n : Int), .string nm, .string vl] w3 (RowCode (setF W (n : Int) (attL W (n : Int)) nm vl).1 (setF W (n : Int) (attL W (n : Int)) nm vl).2 w3)) := fun w3 h => by
           have h5 := HSZ.out
           obtain ⟨h6, h7, h8⟩ := attL_ok W (n : Int)
           have := setattr_any A8 c8 W (n : Int) (attL W (n : Int)) nm vl w3 HW6.out (by omega) h6 h7 h8 (fun a b => HWF.out.dir.attAt a b) h
           rwa [HWL.out] at this
          have HAF := Lib.hid (fun he => HWF.out.attr_file (nm := nm) (v := vl) HWH.out he)
          rw [HRW.out] at HAF
          generalize setF W (n : Int) (attL W (n : Int)) nm vl = r at *
          obtain ⟨X, xe⟩ := r
          unfold RowCode at CSA
          dsimp only at CSA HAF
          go_wp2_with fail
          refine (CSA.out _ RWK.out).mono ?_
          rintro e w12 ⟨⟨v, rfl, hown⟩, hb12⟩
          have ON := Lib.hid hown
          have B12 := Lib.hid (BK.out.trans (hb12.mono BK.out.size))
          clear hown hb12 CSA BK RK RWK
          by_cases hxe : xe = 0
          case neg =>
           have hxe' : (xe != 0) = true := by simpa using hxe
           obtain ⟨A10, c10, rfl, hr10⟩ := ON.out.read
           clear hr10
           go_wp2_with fail
           refine (CS.out _ B12.out).mono ?_
           rintro e w13 ⟨rfl, hb13⟩
           go_wp2
           go_ret
           exact ⟨rfl, B12.out.trans (hb13.mono B12.out.size)⟩
          subst hxe
          obtain ⟨f1, f2, f3, f4, f5⟩ := HAF.out rfl
          obtain ⟨A10, c10, rfl, hr10⟩ := ON.out.read
          have hXb : X.length = b := f2.trans HWL.out
          rw [hXb]
          have R12 := Lib.hid hr10
          have HXL : Hid (X.length = b) := hXb
          have CAG : Hid (∀ w3, RowAt w3 w3.heap.size A10 (X.map .string) → Calls Tryz.prog 16 #[.slice A10 b c10, .int .i64 (n : Int), .string nm] w3 fun e w' => e = .returned (.tuple #[.string vl, .int .i64 0]) ∧ Below w3.heap.size w3 w') := fun w3 h => by
           have h5 := HB59.out
           have h6 := (attAt_ok f4).2.2
           have := aget_any A10 c10 X (n : Int) (putA (attL W (n : Int)) nm vl) nm w3 (by omega) (by omega) (fun _ _ => f4) h
           rw [f5] at this
           rwa [hXb] at this
          have CRX : Hid (∀ w3, RowAt w3 w3.heap.size A10 (X.map .string) → Calls Tryz.prog 11 #[.slice A10 b c10, .int .i64 (n : Int), .int .i64 0, .int .i64 8960] w3 fun e w' => e = .returned (.tuple #[.string s1, .int .i64 0]) ∧ Below w3.heap.size w3 w') := fun w3 h => by
           have := CRW.out X n A10 c10 w3 hXb h
           rw [f3] at this
           unfold ReadPost at this
           rwa [HS1.out] at this
          clear f1 f2 f3 f4 f5 hr10 ON HAF hXb
          go_wp2_with fail
          refine (CAG.out _ R12.out).mono ?_
          rintro e w13 ⟨rfl, hb13⟩
          have B13 := Lib.hid (B12.out.trans (hb13.mono B12.out.size))
          have R13 := Lib.hid (row_keep R12.out hb13 hb13.size)
          clear hb13 CAG B12 R12
          go_wp2_with fail
          refine (CRX.out _ R13.out).mono ?_
          rintro e w14 ⟨rfl, hb14⟩
          have B14 := Lib.hid (B13.out.trans (hb14.mono B13.out.size))
          clear hb14 CRX B13 R13
          go_wp2_with fail
          refine (CS.out _ B14.out).mono ?_
          rintro e w15 ⟨rfl, hb15⟩
          go_wp2
          go_ret
          exact ⟨rfl, B14.out.trans (hb15.mono B14.out.size)⟩
    ·have h0 : a0 = 2 := HK0.out
     subst h0
     rw [if_pos (by decide)] at CR
     dsimp only at CR
     go_wp2_with fail
     refine (CR.out _ R3.out).mono ?_
     rintro e w4 ⟨rfl, hb4⟩
     have B4 := Lib.hid (B3.out.trans (hb4.mono B3.out.size))
     have R4 := Lib.hid (row_keep R3.out hb4 hb4.size)
     clear hb4 CR B3 R3
     go_wp2_with fail
     refine (CG.out _ R4.out).mono ?_
     rintro e w5 ⟨rfl, hb5⟩
     have B5 := Lib.hid (B4.out.trans (hb5.mono B4.out.size))
     clear hb5 CG B4 R4
     go_wp2_with fail
     refine (CS.out _ (B5.out.alloc B5.out.size _)).mono ?_
     rintro e w6 ⟨rfl, hb6⟩
     go_wp2
     go_ret
     exact ⟨rfl, (B5.out.alloc B5.out.size _).trans (hb6.mono (by have := B5.out.size; simp; omega))⟩
end Go.Proofs.YtdldlendppkknaaGreatDoor
