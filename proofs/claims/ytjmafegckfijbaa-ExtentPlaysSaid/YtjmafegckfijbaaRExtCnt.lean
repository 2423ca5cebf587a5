/-
  What the document's Count of layer 19 tells.
-/
import Derived.Test.YtjmafegckfijbaaRExtA
namespace Go.Proofs.Ytjmafegckfijbaa
open Go.RowKit
set_option linter.unusedVariables false
set_option linter.unusedSimpArgs false
set_option maxRecDepth 100000
theorem ino_info12 {l : List Nat} (h : l.length = 12) : (Try.prog.info? 45).map (·.size) = some (inoC l).size := by rw [inoC_size, h]; kernel_rfl
theorem inoC_at {l : List Nat} (h : l.length = 12) (i : Nat) (hi : i < 12) : (inoC l)[i]? = some (.int .i64 ((l.getD i 0 : Nat) : Int)) := by
  unfold inoC
  have : i < l.length := by omega
  simp [this]
theorem getR_fit {xs : List ByteArray} {m k : Nat} (hv : IsVol xs m) (h1 : 1 ≤ k) (h2 : k ≤ m) : FitN (getR xs (k : Int)) := by
  rw [getR_vol hv h1 h2]; exact inoR_fit _ _
set_option maxHeartbeats 4000000 in
theorem rcount_any (A : Option Addr) (c : Nat) (xs : List ByteArray) (n : Int) (w : World) (hx : xs.length ≤ 1000000) (h : RowAt w w.heap.size A (xs.map .string)) :
    Calls Try.prog 23 #[.slice A xs.length c, .int .i64 n] w fun e w' => e = .returned (.int .i64 (countO xs n : Nat)) ∧ Below w.heap.size w w' := by
  have HR := Lib.hid h
  have CG := Lib.hid (rget_ino A c xs n w hx h)
  clear h
  by_cases h0 : inoE xs n = 0
  · obtain ⟨m, k, hv, rfl, hk1, hk2, hk3⟩ := inoE_ok h0
    have hfit := getR_fit hv hk1 hk2
    have HW0 : Hid (countO xs (k : Int) = countX xs m (getR xs (k : Int))) := by
      show _ = _
      unfold countO
      rw [if_neg (by rw [h0]; simp), mO_vol hv]
    rw [h0] at CG
    generalize getR xs (k : Int) = l at *
    have HZ : Hid ((inoC l).size = 12) := by show _ = _; rw [inoC_size, hfit.1]
    have HI := Lib.hid (ino_info12 hfit.1)
    have CD := Lib.hid (fun w h => rdata_any A c xs m w hv h)
    have CA := Lib.hid (fun k hk w h => rat_any A c xs m k l w hv hfit hk h)
    have CGD := Lib.hid (fun (b : Nat) (w : World) => rgood_any A c xs m b w hx)
    have HC : Hid (countX xs m l = manyX xs m l 70 + (if datB xs m (l.getD 10 0) = true then 1 else 0) + (if datB xs m (l.getD 11 0) = true then 1 else 0)) := rfl
    have HG : Hid (∀ b, goodN xs m b = if datB xs m b = true then b else 0) := fun b => rfl
    have HP : Hid (∀ b, datB xs m b = true → 3 ≤ b) := fun b hb => datB_pos hb
    have c10 := inoC_at hfit.1 10 (by omega)
    have c11 := inoC_at hfit.1 11 (by omega)
    have HM := Lib.hid (fun k => manyX_succ xs m l k)
    have HML := Lib.hid (fun k => manyX_le xs m l k)
    generalize l.getD 10 0 = i10 at *
    generalize l.getD 11 0 = i11 at *
    generalize dataN m = d at *
    clear h0 hk3 hfit hv
    go_enter Try.func23, Try.ntmps23
    go_wp2_with fail
    refine CG.out.mono ?_
    rintro e w1 ⟨rfl, hb1⟩
    have B1 := Lib.hid hb1
    have hz1 := hb1.size
    clear hb1 CG
    go_wp2_with (refine store_blk 45 (.tmp 5) (.tmp 14) w1.heap.size 45 (inoC (List.replicate 12 0)) (inoC l) rfl rfl rfl rfl (Blk.new w1 _ _) (by rw [HZ.out]; rfl) HI.out (inoC_one _) ?_; intro w2 hr2 hg2)
    have G2 := Lib.hid hr2
    have B2 : Hid (Below w.heap.size w w2) := (B1.out.alloc hz1 _).grown hg2 (by simp; omega) (fun k e => by cases e; exact hz1)
    have R2 := Lib.hid ((HR.out.below B2.out).mono B2.out.size)
    clear hr2 hg2 B1
    generalize w1.heap.size = gi at *
    refine (CD.out _ R2.out).mono ?_
    rintro e w3 ⟨rfl, hb3⟩
    have G3 := Lib.hid (G2.out.below hb3 G2.out.lt)
    have B3 := Lib.hid (B2.out.trans (hb3.mono B2.out.size))
    clear hb3 G2 B2 R2 CD
    go_wp2
    go_loopw [7, 9] (fun cv i wr => ∃ k : Nat, k ≤ 70 ∧ i = .int .i64 k ∧ cv = .int .i64 (manyX xs m l k : Nat) ∧ Hid (Blk wr gi 45 (inoC l)) ∧ Hid (Below w.heap.size w wr)) (fun _ i _ => 70 - (intOf i).toNat)
    case atStart => exact ⟨0, by omega, rfl, rfl, G3, B3⟩
    case round =>
      clear G3 B3
      obtain ⟨k, hk, rfl, rfl, G, B⟩ := hrel
      by_cases hlt : k < 70
      · have k1 : (k : Int) < 70 := by omega
        have R := Lib.hid ((HR.out.below B.out).mono B.out.size)
        have HMK := Lib.hid (HM.out k)
        have hml := HML.out k
        have CAk := Lib.hid (CA.out k hlt _ R.out)
        generalize manyX xs m l k = mk at *
        generalize atX xs m l k = at_ at *
        go_wp2_with (refine load_blk 45 (.tmp 5) gi 45 (inoC l) _ rfl rfl rfl G.out Try.underlying45 rfl HI.out ?_; go_frame)
        refine CAk.out.mono ?_
        rintro e w4 ⟨rfl, hb4⟩
        have G4 := Lib.hid (G.out.below hb4 G.out.lt)
        have B4 := Lib.hid (B.out.trans (hb4.mono B.out.size))
        clear hb4 CAk G B
        by_cases ha : 0 < at_
        · have ha1 : (0 : Int) < (at_ : Int) := by omega
          have HE : Hid (manyX xs m l (k + 1) = mk + 1) := by show _ = _; rw [HMK.out, if_pos (by simp; omega)]
          go_wp2
          go_roundw
          case rel => exact ⟨k + 1, by omega, by go_num, by rw [HE.out]; go_num, G4, B4⟩
          case measure => simp [intOf]; omega
        · have ha1 : ¬ (0 : Int) < (at_ : Int) := by omega
          have HE : Hid (manyX xs m l (k + 1) = mk) := by show _ = _; rw [HMK.out, if_neg (by simp; omega)]; rfl
          go_wp2
          go_roundw
          case rel => exact ⟨k + 1, by omega, by go_num, by rw [HE.out], G4, B4⟩
          case measure => simp [intOf]; omega
      · obtain rfl : k = 70 := by omega
        have hml := HML.out 70
        have d10 := G.out.cell 10 c10
        have d11 := G.out.cell 11 c11
        have HG10 := Lib.hid (HG.out i10)
        have HG11 := Lib.hid (HG.out i11)
        have HP10 := Lib.hid (HP.out i10)
        have HP11 := Lib.hid (HP.out i11)
        generalize hb10 : datB xs m i10 = b10 at *
        generalize hb11 : datB xs m i11 = b11 at *
        generalize hg10 : goodN xs m i10 = g10 at *
        generalize hg11 : goodN xs m i11 = g11 at *
        generalize manyX xs m l 70 = mk at *
        have C10 := Lib.hid (fun w => CGD.out i10 w)
        have C11 := Lib.hid (fun w => CGD.out i11 w)
        rw [hg10] at C10
        rw [hg11] at C11
        clear hb10 hb11 hg10 hg11 CGD
        cases b10 with
        | false =>
          have z10 : g10 = 0 := HG10.out
          subst z10
          cases b11 with
          | false =>
            have z11 : g11 = 0 := HG11.out
            subst z11
            go_wp2_with fail
            refine (C10.out _).mono ?_
            rintro e w' ⟨rfl, rfl⟩
            go_wp2_with fail
            refine (C11.out _).mono ?_
            rintro e w' ⟨rfl, rfl⟩
            go_wp2
            go_ret
            exact ⟨ret_int (by rw [HW0.out, HC.out]; simp), B.out⟩
          | true =>
            have z11 : g11 = i11 := HG11.out
            have p11 := HP11.out rfl
            subst z11
            have q11 : (0 : Int) < (g11 : Int) := by omega
            go_wp2_with fail
            refine (C10.out _).mono ?_
            rintro e w' ⟨rfl, rfl⟩
            go_wp2_with fail
            refine (C11.out _).mono ?_
            rintro e w' ⟨rfl, rfl⟩
            go_wp2
            go_ret
            exact ⟨ret_int (by rw [HW0.out, HC.out]; simp), B.out⟩
        | true =>
          have z10 : g10 = i10 := HG10.out
          have p10 := HP10.out rfl
          subst z10
          have q10 : (0 : Int) < (g10 : Int) := by omega
          cases b11 with
          | false =>
            have z11 : g11 = 0 := HG11.out
            subst z11
            go_wp2_with fail
            refine (C10.out _).mono ?_
            rintro e w' ⟨rfl, rfl⟩
            go_wp2_with fail
            refine (C11.out _).mono ?_
            rintro e w' ⟨rfl, rfl⟩
            go_wp2
            go_ret
            exact ⟨ret_int (by rw [HW0.out, HC.out]; simp), B.out⟩
          | true =>
            have z11 : g11 = i11 := HG11.out
            have p11 := HP11.out rfl
            subst z11
            have q11 : (0 : Int) < (g11 : Int) := by omega
            go_wp2_with fail
            refine (C10.out _).mono ?_
            rintro e w' ⟨rfl, rfl⟩
            go_wp2_with fail
            refine (C11.out _).mono ?_
            rintro e w' ⟨rfl, rfl⟩
            go_wp2
            go_ret
            exact ⟨ret_int (by rw [HW0.out, HC.out]; simp), B.out⟩
  · have HW0 : Hid (countO xs n = 0) := by show _ = _; unfold countO; rw [if_pos h0]
    have HGZ : Hid (getR xs n = List.replicate 12 0) := by show _ = _; unfold getR; rw [if_neg h0]
    rw [HGZ.out] at CG
    have hn0 : (inoE xs n != 0) = true := by simpa using h0
    generalize inoE xs n = ie at *
    clear h0
    go_enter Try.func23, Try.ntmps23
    go_wp2_with fail
    refine CG.out.mono ?_
    rintro e w1 ⟨rfl, hb1⟩
    have B1 := Lib.hid hb1
    have hz1 := hb1.size
    clear hb1 CG
    go_wp2_with (refine store_blk 45 (.tmp 5) (.tmp 14) w1.heap.size 45 (inoC (List.replicate 12 0)) (inoC (List.replicate 12 0)) rfl rfl rfl rfl (Blk.new w1 _ _) rfl (by kernel_rfl) (inoC_one _) ?_; intro w2 hr2 hg2)
    have B2 : Hid (Below w.heap.size w w2) := (B1.out.alloc hz1 _).grown hg2 (by simp; omega) (fun k e => by cases e; exact hz1)
    go_ret
    exact ⟨ret_int (by rw [HW0.out]; rfl), B2.out⟩
end Go.Proofs.Ytjmafegckfijbaa
