/-
  What the method shorten of an open file does.
-/
import Derived.Test.YtoanladhikdcaaaExtW
namespace Go.Proofs.Ytoanladhikdcaaa
open Go.RowKit
set_option linter.unusedVariables false
set_option linter.unusedSimpArgs false
set_option maxRecDepth 100000
theorem giveV_zero (V : List ByteArray) (m : Nat) : giveV V m 0 = V := by
  unfold giveV
  rw [datB_zero, if_neg (by simp)]
section
variable {B : Nat} {g m n : Nat} {V : List ByteArray} {l : List Nat}
/-- give, by what at has told -/
theorem dropK_eq (kp : Kp) (m k : Nat) (V : List ByteArray) (l : List Nat) : dropK kp m k (V, l) = nameG kp (giveV V m (atX V m l k)) m l k 0 := rfl
set_option maxHeartbeats 8000000 in
theorem shorten_any (size : Nat) (w : World) (hs : size < 8960) (h : FileX B w g m n V l) :
    Calls Try.prog 79 #[.pointer (some ⟨g, 0, none⟩), .int .i64 size] w fun e w' => e = .returned (.int .i64 0) ∧ FileX B w' g m n (shortG (putK n) m size (V, l)).1 (shortG (putK n) m size (V, l)).2 ∧ Below B w w' := by
  have FX := Lib.hid h
  have hz := h.base
  have HOK : Hid (∀ j, needN size + j ≤ 70 → OkS V.length m (dropN (putK n) m (needN size) (V, l) j)) := fun j hj => dropN_ok (putK_ok h.ok.2.1 h.ok.2.2) h.ok.1 j hj
  have hn70 := needN_le (n := size) (by omega)
  have HK0 : Hid (((size : Int) + 128 - 1) / 128 = ((needN size : Nat) : Int)) := by show _ = _; unfold needN; omega
  have HSH : Hid (shortG (putK n) m size (V, l) = tailZ m size (dropI (putK n) m size (dropN (putK n) m (needN size) (V, l) (70 - needN size)))) := rfl
  have hq : size / 128 < 70 := by omega
  generalize needN size = k0 at *
  clear h
  have h1 : IntKind.i64.wrap ((size : Int) + 128) = (size : Int) + 128 := IntWalk.i64_in _ (by omega)
  have h2 : IntKind.i64.wrap ((size : Int) + 128 - 1) = (size : Int) + 128 - 1 := IntWalk.i64_in _ (by omega)
  go_enter Try.func79, Try.ntmps79
  go_wp2
  go_loopw [5] (fun i wr => ∃ (j : Nat), k0 + j ≤ 70 ∧ i = .int .i64 ((k0 + j : Nat) : Int) ∧ Hid (FileX B wr g m n (dropN (putK n) m k0 (V, l) j).1 (dropN (putK n) m k0 (V, l) j).2) ∧ Hid (Below B w wr)) (fun i _ => 70 - (intOf i).toNat)
  case atStart => exact ⟨0, by omega, by rw [HK0.out]; rfl, FX, Below.refl _ _⟩
  case round =>
    obtain ⟨j, hj, rfl, HF, HB⟩ := hrel
    have HS : Hid (dropN (putK n) m k0 (V, l) (j + 1) = nameG (putK n) (giveV (dropN (putK n) m k0 (V, l) j).1 m (atX (dropN (putK n) m k0 (V, l) j).1 m (dropN (putK n) m k0 (V, l) j).2 (k0 + j))) m (dropN (putK n) m k0 (V, l) j).2 (k0 + j) 0) := rfl
    by_cases hlt : k0 + j < 70
    · have HJ : Hid (k0 + (j + 1) ≤ 70) := by show _ ≤ _; omega
      have HQ : Hid (∀ q, k0 + j = q → k0 + (j + 1) = q + 1) := fun q hq => by omega
      have hlj := hlt
      obtain ⟨V1, l1, hs1⟩ : ∃ V1 l1, dropN (putK n) m k0 (V, l) j = (V1, l1) := ⟨_, _, rfl⟩
      rw [hs1] at HF HS
      dsimp only at HF HS
      clear hs1
      obtain ⟨q, hq1⟩ : ∃ q, k0 + j = q := ⟨_, rfl⟩
      have HQ1 := Lib.hid hq1
      rw [hq1] at hlj HS ⊢
      have HQS := Lib.hid (HQ.out q hq1)
      clear HQ hlt hj hq1
      have CA := Lib.hid (at_any q wr hlj HF.out)
      by_cases h0 : atX V1 m l1 q = 0
      · rw [h0] at HS CA
        rw [giveV_zero] at HS
        clear h0
        go_wp2_with fail
        refine CA.out.mono ?_
        rintro e w1 ⟨rfl, hb1⟩
        have H1 := Lib.hid (HF.out.below hb1)
        have B1 := Lib.hid (HB.out.trans (hb1.mono HF.out.base))
        clear hb1 CA HF HB
        unfold atI
        rw [if_pos rfl]
        go_wp2_with fail
        refine (name_any q 0 w1 hlj (by omega) H1.out).mono ?_
        rintro e w3 ⟨rfl, hf, hb3⟩
        rw [← HS.out] at hf
        have H3 := Lib.hid hf
        have B3 := Lib.hid (B1.out.trans hb3)
        clear hf hb3 H1 B1 HS
        go_wp2
        go_roundw
        case rel => exact ⟨j + 1, HJ.out, by rw [HQS.out]; go_num, H3, B3⟩
        case measure => simp [intOf]; omega
      · have hne : (((atX V1 m l1 q : Nat) : Int) != -1) = true := by simp
        have HA : Hid (atI (atX V1 m l1 q) = (atX V1 m l1 q : Nat)) := by show _ = _; unfold atI; rw [if_neg h0]
        rw [HA.out] at CA
        clear h0 HA
        generalize atX V1 m l1 q = a at *
        go_wp2_with fail
        refine CA.out.mono ?_
        rintro e w1 ⟨rfl, hb1⟩
        have H1 := Lib.hid (HF.out.below hb1)
        have B1 := Lib.hid (HB.out.trans (hb1.mono HF.out.base))
        clear hb1 CA HF HB
        go_wp2_with fail
        refine (give_file a w1 H1.out.base H1.out).mono ?_
        rintro e w2 ⟨rfl, hf, hb2⟩
        have H2 := Lib.hid hf
        have B2 := Lib.hid (B1.out.trans hb2)
        clear hf hb2 H1 B1
        go_wp2_with fail
        refine (name_any q 0 w2 hlj (by omega) H2.out).mono ?_
        rintro e w3 ⟨rfl, hf, hb3⟩
        rw [← HS.out] at hf
        have H3 := Lib.hid hf
        have B3 := Lib.hid (B2.out.trans hb3)
        clear hf hb3 H2 B2 HS
        go_wp2
        go_roundw
        case rel => exact ⟨j + 1, HJ.out, by rw [HQS.out]; go_num, H3, B3⟩
        case measure => simp [intOf]; omega
    · obtain rfl : j = 70 - k0 := by omega
      obtain ⟨V1, l1, hs1⟩ : ∃ V1 l1, dropN (putK n) m k0 (V, l) (70 - k0) = (V1, l1) := ⟨_, _, rfl⟩
      rw [hs1] at HF HSH
      dsimp only at HF
      clear hs1 HS HOK
      by_cases h768 : size ≤ 768
      · have HDI : Hid (dropI (putK n) m size (V1, l1) = (putV (giveV V1 m (l1.getD 10 0)) n (l1.set 10 0), l1.set 10 0)) := by show _ = _; unfold dropI; rw [if_pos h768]; rfl
        rw [HDI.out] at HSH
        have j1 : (size : Int) ≤ 768 := by omega
        have c18 : wr.cell? ⟨g, 18, none⟩ = some (.int .i64 ((l1.getD 10 0 : Nat) : Int)) := by
          obtain ⟨gv, c, h⟩ := HF.out
          exact h.ino 10 (by omega)
        clear HDI h768
        generalize l1.getD 10 0 = i at *
        go_wp2_with fail
        refine (give_file i wr HF.out.base HF.out).mono ?_
        rintro e w3 ⟨rfl, hf, hb3⟩
        have B3 := Lib.hid (HB.out.trans hb3)
        obtain ⟨gv, c, hF⟩ := hf
        have c18b : w3.cell? ⟨g, 18, none⟩ = some (.int .i64 ((l1.getD 10 0 : Nat) : Int)) := hF.ino 10 (by omega)
        have c18f : w3.frozen? ⟨g, 18, none⟩ = false := hF.blk.frozen _
        have HP4 : Hid (FileX B (w3.setCell ⟨g, 18, none⟩ (.int .i64 ((0 : Nat) : Int))) g m n (giveV V1 m i) (l1.set 10 0)) := ⟨gv, c, hF.put 10 0 (hF.fit.ind (by omega))⟩
        have B4 : Hid (Below B w (w3.setCell ⟨g, 18, none⟩ (.int .i64 ((0 : Nat) : Int)))) := B3.out.setCell hF.low _
        clear hb3 hF HF HB B3 c18
        generalize l1.getD 10 0 = i2 at *
        go_wp2_with fail
        refine (keep_any _ HP4.out.base HP4.out).mono ?_
        rintro e w5 ⟨rfl, hf, hb5⟩
        have HX := Lib.hid hf
        have BX := Lib.hid (B4.out.trans hb5)
        clear hf hb5 HP4 B4 c18b c18f
        generalize putV (giveV V1 m i) n (l1.set 10 0) = V2 at *
        generalize l1.set 10 0 = l2 at *
        have HT : Hid (tailZ m size (V2, l2) = if size % 128 ≠ 0 ∧ atX V2 m l2 (size / 128) ≠ 0 then (layX V2 (atX V2 m l2 (size / 128)) (size % 128) (List.replicate (128 - size % 128) 0), l2) else (V2, l2)) := rfl
        by_cases hp : size % 128 = 0
        · rw [if_neg (by simp [hp])] at HT
          rw [HT.out] at HSH
          have k1 : (size : Int) % 128 = 0 := by omega
          clear HT hp
          go_wp2
          go_ret
          rw [HSH.out]
          exact ⟨rfl, HX.out, BX.out⟩
        · obtain ⟨pp, hpp⟩ : ∃ pp, size % 128 = pp := ⟨_, rfl⟩
          obtain ⟨q, hqq⟩ : ∃ q, size / 128 = q := ⟨_, rfl⟩
          rw [hpp, hqq] at HT
          rw [hqq] at hq
          rw [hpp] at hp
          have k1 : (size : Int) % 128 = (pp : Int) := by omega
          have k2 : (size : Int) / 128 = (q : Int) := by omega
          have k3 : ¬ pp = 0 := hp
          have k4 : pp < 128 := by omega
          clear hpp hqq hp
          have CA : Hid (∀ w, FileX B w g m n V2 l2 → Calls Try.prog 83 #[.pointer (some ⟨g, 0, none⟩), .int .i64 q] w fun e w' => e = .returned (.int .i64 (atI (atX V2 m l2 q))) ∧ Below w.heap.size w w') := fun w h => at_any q w hq h
          by_cases h0 : atX V2 m l2 q = 0
          · rw [if_neg (by simp [h0])] at HT
            rw [HT.out] at HSH
            rw [h0] at CA
            clear h0 HT
            go_wp2_with fail
            refine (CA.out _ HX.out).mono ?_
            rintro e w8 ⟨rfl, hb8⟩
            have H8 := Lib.hid (HX.out.below hb8)
            have B8 := Lib.hid (BX.out.trans (hb8.mono HX.out.base))
            clear hb8 CA HX BX
            unfold atI
            rw [if_pos rfl]
            go_wp2
            go_ret
            rw [HSH.out]
            exact ⟨rfl, H8.out, B8.out⟩
          · rw [if_pos ⟨k3, h0⟩] at HT
            rw [HT.out] at HSH
            have HD : Hid (datB V2 m (atX V2 m l2 q) = true) := atX_dat h0
            have hne : (((atX V2 m l2 q : Nat) : Int) != -1) = true := by simp
            have HA : Hid (atI (atX V2 m l2 q) = (atX V2 m l2 q : Nat)) := by show _ = _; unfold atI; rw [if_neg h0]
            rw [HA.out] at CA
            clear h0 HT HA
            generalize atX V2 m l2 q = a at *
            obtain ⟨z, hz⟩ : ∃ z, 128 - pp = z := ⟨_, rfl⟩
            rw [hz] at HSH
            have k5 : (128 : Int) - (pp : Int) = (z : Int) := by omega
            have k6 : z ≤ 128 := by omega
            have HZ : Hid (zerosB z = (⟨(Lib.repeatL (⟨#[0]⟩ : ByteArray).data.toList z).toArray⟩ : ByteArray)) := (repeat_zero z).symm
            have HP : Hid (pp + (zerosB z).size ≤ 128) := by show _ ≤ _; rw [zerosB_size]; omega
            have HL := Lib.hid (zerosB_list z)
            have CR : Hid (∀ w, Calls Try.prog 71 #[.string ⟨#[0]⟩, .int .i64 z] w fun e w' => e = .returned (.string (zerosB z)) ∧ Below w.heap.size w w') := fun w => by
              rw [HZ.out]
              exact Try.strings_Repeat ⟨#[0]⟩ z w (by omega) (by show 1 * z ≤ _; omega)
            rw [← HL.out] at HSH
            generalize zerosB z = zb at *
            clear hz HZ HL
            go_wp2_with fail
            refine (CA.out _ HX.out).mono ?_
            rintro e w8 ⟨rfl, hb8⟩
            have H8 := Lib.hid (HX.out.below hb8)
            have B8 := Lib.hid (BX.out.trans (hb8.mono HX.out.base))
            clear hb8 CA HX BX
            go_wp2_with fail
            refine (CR.out _).mono ?_
            rintro e w9 ⟨rfl, hb9⟩
            have H9 := Lib.hid (H8.out.below hb9)
            have B9 := Lib.hid (B8.out.trans (hb9.mono H8.out.base))
            clear hb9 CR H8 B8
            go_wp2_with fail
            refine (lay_any a pp zb w9 H9.out.base HD.out HP.out H9.out).mono ?_
            rintro e w10 ⟨rfl, hf, hb10⟩
            have H10 := Lib.hid hf
            have B10 := Lib.hid (B9.out.trans hb10)
            clear hf hb10 H9 B9
            go_wp2
            go_ret
            rw [HSH.out]
            exact ⟨rfl, H10.out, B10.out⟩
      · have HDI : Hid (dropI (putK n) m size (V1, l1) = (V1, l1)) := by show _ = _; unfold dropI; rw [if_neg h768]
        rw [HDI.out] at HSH
        have j1 : ¬ (size : Int) ≤ 768 := by omega
        have HX := HF
        have BX := HB
        clear HDI h768 HF HB
        have HT : Hid (tailZ m size (V1, l1) = if size % 128 ≠ 0 ∧ atX V1 m l1 (size / 128) ≠ 0 then (layX V1 (atX V1 m l1 (size / 128)) (size % 128) (List.replicate (128 - size % 128) 0), l1) else (V1, l1)) := rfl
        by_cases hp : size % 128 = 0
        · rw [if_neg (by simp [hp])] at HT
          rw [HT.out] at HSH
          have k1 : (size : Int) % 128 = 0 := by omega
          clear HT hp
          go_wp2
          go_ret
          rw [HSH.out]
          exact ⟨rfl, HX.out, BX.out⟩
        · obtain ⟨pp, hpp⟩ : ∃ pp, size % 128 = pp := ⟨_, rfl⟩
          obtain ⟨q, hqq⟩ : ∃ q, size / 128 = q := ⟨_, rfl⟩
          rw [hpp, hqq] at HT
          rw [hqq] at hq
          rw [hpp] at hp
          have k1 : (size : Int) % 128 = (pp : Int) := by omega
          have k2 : (size : Int) / 128 = (q : Int) := by omega
          have k3 : ¬ pp = 0 := hp
          have k4 : pp < 128 := by omega
          clear hpp hqq hp
          have CA : Hid (∀ w, FileX B w g m n V1 l1 → Calls Try.prog 83 #[.pointer (some ⟨g, 0, none⟩), .int .i64 q] w fun e w' => e = .returned (.int .i64 (atI (atX V1 m l1 q))) ∧ Below w.heap.size w w') := fun w h => at_any q w hq h
          by_cases h0 : atX V1 m l1 q = 0
          · rw [if_neg (by simp [h0])] at HT
            rw [HT.out] at HSH
            rw [h0] at CA
            clear h0 HT
            go_wp2_with fail
            refine (CA.out _ HX.out).mono ?_
            rintro e w8 ⟨rfl, hb8⟩
            have H8 := Lib.hid (HX.out.below hb8)
            have B8 := Lib.hid (BX.out.trans (hb8.mono HX.out.base))
            clear hb8 CA HX BX
            unfold atI
            rw [if_pos rfl]
            go_wp2
            go_ret
            rw [HSH.out]
            exact ⟨rfl, H8.out, B8.out⟩
          · rw [if_pos ⟨k3, h0⟩] at HT
            rw [HT.out] at HSH
            have HD : Hid (datB V1 m (atX V1 m l1 q) = true) := atX_dat h0
            have hne : (((atX V1 m l1 q : Nat) : Int) != -1) = true := by simp
            have HA : Hid (atI (atX V1 m l1 q) = (atX V1 m l1 q : Nat)) := by show _ = _; unfold atI; rw [if_neg h0]
            rw [HA.out] at CA
            clear h0 HT HA
            generalize atX V1 m l1 q = a at *
            obtain ⟨z, hz⟩ : ∃ z, 128 - pp = z := ⟨_, rfl⟩
            rw [hz] at HSH
            have k5 : (128 : Int) - (pp : Int) = (z : Int) := by omega
            have k6 : z ≤ 128 := by omega
            have HZ : Hid (zerosB z = (⟨(Lib.repeatL (⟨#[0]⟩ : ByteArray).data.toList z).toArray⟩ : ByteArray)) := (repeat_zero z).symm
            have HP : Hid (pp + (zerosB z).size ≤ 128) := by show _ ≤ _; rw [zerosB_size]; omega
            have HL := Lib.hid (zerosB_list z)
            have CR : Hid (∀ w, Calls Try.prog 71 #[.string ⟨#[0]⟩, .int .i64 z] w fun e w' => e = .returned (.string (zerosB z)) ∧ Below w.heap.size w w') := fun w => by
              rw [HZ.out]
              exact Try.strings_Repeat ⟨#[0]⟩ z w (by omega) (by show 1 * z ≤ _; omega)
            rw [← HL.out] at HSH
            generalize zerosB z = zb at *
            clear hz HZ HL
            go_wp2_with fail
            refine (CA.out _ HX.out).mono ?_
            rintro e w8 ⟨rfl, hb8⟩
            have H8 := Lib.hid (HX.out.below hb8)
            have B8 := Lib.hid (BX.out.trans (hb8.mono HX.out.base))
            clear hb8 CA HX BX
            go_wp2_with fail
            refine (CR.out _).mono ?_
            rintro e w9 ⟨rfl, hb9⟩
            have H9 := Lib.hid (H8.out.below hb9)
            have B9 := Lib.hid (B8.out.trans (hb9.mono H8.out.base))
            clear hb9 CR H8 B8
            go_wp2_with fail
            refine (lay_any a pp zb w9 H9.out.base HD.out HP.out H9.out).mono ?_
            rintro e w10 ⟨rfl, hf, hb10⟩
            have H10 := Lib.hid hf
            have B10 := Lib.hid (B9.out.trans hb10)
            clear hf hb10 H9 B9
            go_wp2
            go_ret
            rw [HSH.out]
            exact ⟨rfl, H10.out, B10.out⟩
end
end Go.Proofs.Ytoanladhikdcaaa
