/-
  ExtentRoom: the walk.
-/
import Derived.Test.YtjmafegckfijbaaLawExtRo
import Derived.Test.YtjmafegckfijbaaLaidW
import Derived.Maps.OwnOps
import Derived.BigQuiet
namespace Go.Proofs.Ytjmafegckfijbaa
open Go.RowKit Go.Maps
set_option linter.unusedVariables false
set_option linter.unusedSimpArgs false
set_option maxRecDepth 100000
theorem RowAt.int3o {w : World} {B : Nat} {A : Option Addr} (h : RowAt w B A [.int .i64 1, .int .i64 2, .int .i64 3]) : ∃ b o, A = some ⟨b, o, none⟩ ∧ b < B ∧ ∀ i, i < 3 → w.cell? ⟨b, o + i, none⟩ = some (.int .i64 ((i + 1 : Nat) : Int)) := by
  obtain ⟨b, o, hA, hb, hc⟩ := h.at_ (by decide)
  refine ⟨b, o, hA, hb, fun i hi => ?_⟩
  have key : i = 0 ∨ i = 1 ∨ i = 2 := by omega
  rcases key with rfl | rfl | rfl
  · exact hc 0 _ rfl
  · exact hc 1 _ rfl
  · exact hc 2 _ rfl
theorem lawMet : Keyed Try.prog 3 := int_keyed Try.underlying3
theorem zeroMet (w : World) : (zeroValue 3).run Try.prog w = .ok (.int .i64 0) w := by kernel_rfl
/-- a row of one's own that is not the block g -/
def RowFar (w : World) (g : Nat) (A : Option Addr) (xs : List Value) : Prop := xs = [] ∨ ∃ b o, A = some ⟨b, o, none⟩ ∧ b < w.heap.size ∧ b ≠ g ∧ ∀ i v, xs[i]? = some v → w.cell? ⟨b, o + i, none⟩ = some v
theorem RowFar.below {w w' : World} {g : Nat} {A : Option Addr} {xs : List Value} (h : RowFar w g A xs) (hb : Below w.heap.size w w') : RowFar w' g A xs := by
  rcases h with h | ⟨b, o, hA, hl, hg, hc⟩
  · exact .inl h
  · exact .inr ⟨b, o, hA, Nat.lt_of_lt_of_le hl hb.size, hg, fun i v hv => (hb.cell (p := ⟨b, o + i, none⟩) hl).trans (hc i v hv)⟩
theorem RowFar.grown {w w' : World} {g : Nat} {A : Option Addr} {xs : List Value} (h : RowFar w g A xs) (hb : w.grownBy w' (some g)) : RowFar w' g A xs := by
  rcases h with h | ⟨b, o, hA, hl, hg, hc⟩
  · exact .inl h
  · exact .inr ⟨b, o, hA, Nat.lt_of_lt_of_le hl hb.size, hg, fun i v hv => (World.cell?_of_block (hb.block b hl (by simpa using hg))).trans (hc i v hv)⟩
theorem map_below {w w' : World} {g N : Nat} {D : DataW Unit} (h : w.ownsMap Try.prog 3 (plainElem (H := Unit) Try.prog 3) g N D) (hb : Below w.heap.size w w') : w'.ownsMap Try.prog 3 (plainElem (H := Unit) Try.prog 3) g N D :=
  h.kept (row := none) ⟨hb.os, hb.tape, hb.output, hb.size, fun k hk _ => hb.block k hk⟩ (by simp)
theorem rm_room : roomR (fmtV 40 4) ≤ 40 := Nat.le_of_ble_eq_true (by kernel_rfl)
set_option maxHeartbeats 8000000 in
theorem law_room (A : Option Addr) (c : Nat) (l : List ActV) (w : World) (hl : l.length ≤ maxLen) (hd : ∀ a ∈ l, ActOk a ∧ a.data.size ≤ 140737488355328) (h : ActsAt w w.heap.size A l) :
    Calls Try.prog 13 #[.slice A l.length c] w fun e w' => e = .returned (.bool true) ∧ Below w.heap.size w w' := by
  have H0 := Lib.hid h
  have CG := Lib.hid (lgreat_any A c l w hl h)
  have CL := Lib.hid (fun w h => laid_any A c l w hl hd h)
  unfold LaidPost at CL
  have CF : Hid (∀ w, Calls Try.prog 48 #[.int .i64 40, .int .i64 4] w fun e w' => (∃ A c, e = .returned (.tuple #[.slice A 40 c, .int .i64 0]) ∧ RowAt w' w'.heap.size A ((fmtV 40 4).map .string)) ∧ Below w.heap.size w w') := fun w => (format_any 40 4 w).mono fun e w' h => by
    unfold FmtPost at h
    rw [if_pos (show planE 40 4 = 0 by decide)] at h
    obtain ⟨hb, v, rfl, hn⟩ := h
    obtain ⟨A1, c1, rfl, hr1⟩ := (hn.own (by rw [show Int.toNat 40 = 40 from rfl, show Int.toNat 4 = 4 from rfl, fmtV_length]; decide)).own40 (fmtV_length _ _) (Nat.le_refl _)
    exact ⟨⟨A1, c1, rfl, RowAt.of_own hr1⟩, hb⟩
  have HS := Lib.hid (laidV_laid l)
  generalize laidV l = V at *
  have HL0 := Lib.hid HS.out.len
  clear h hd hl
  have hmm := @run_makeMap Try.prog
  go_enter Try.func13, Try.ntmps13
  go_wp2_with fail
  refine CG.out.mono ?_
  rintro e w1 ⟨⟨bg, rfl⟩, hb1⟩
  have B1 := Lib.hid hb1
  have H1 := Lib.hid ((H0.out.below hb1).mono hb1.size)
  clear hb1 CG
  cases bg with
  | true =>
    go_wp2_with fail
    refine (fixed19_any _).mono ?_
    rintro e w2 ⟨rfl, hb2⟩
    have B2 := Lib.hid (B1.out.trans (hb2.mono B1.out.size))
    clear hb2
    go_wp2
    go_ret
    exact ⟨rfl, B2.out⟩
  | false =>
    go_wp2_with fail
    refine (CF.out _).mono ?_
    rintro e w2 ⟨⟨As, cs, rfl, hrs⟩, hb2⟩
    have B2 := Lib.hid (B1.out.trans (hb2.mono B1.out.size))
    have RS := Lib.hid hrs
    have H2 := Lib.hid ((H1.out.below hb2).mono hb2.size)
    clear hb2 hrs B1 H1 CF
    go_wp2_with fail
    refine (CL.out _ H2.out).mono ?_
    rintro e w3 ⟨⟨A2, c2, A3, c3, rfl, hr2, hr3⟩, hb3⟩
    have B3 := Lib.hid (B2.out.trans (hb3.mono B2.out.size))
    have RS3 := Lib.hid ((RS.out.below hb3).mono hb3.size)
    have R3 := Lib.hid hr2
    obtain ⟨bn, on, rfl, hbn, hcn⟩ := hr3.int3o
    have HN : Hid (∀ W, Below w3.heap.size w3 W → ∀ i, i < 3 → W.cell? ⟨bn, on + i, none⟩ = some (.int .i64 ((i + 1 : Nat) : Int))) := fun W hb i hi => (hb.cell (p := ⟨bn, _, none⟩) hbn).trans (hcn i hi)
    clear hb3 hr2 hr3 hbn hcn B2 H2 CL RS
    have CR := Lib.hid (fun A c (X : List ByteArray) w (h40 : X.length = 40) hr => by have := room_any A c X w (by rw [h40]; decide) hr; rwa [h40] at this)
    have CC := Lib.hid (fun A c (X : List ByteArray) (n : Nat) w (h40 : X.length = 40) hr => by have := count_any A c X (n : Int) w (by rw [h40]; decide) hr; rwa [h40] at this)
    have CB := Lib.hid (fun A c (n : Nat) w hr => by have := blocks_any A c V (n : Int) w (by rw [HL0.out]; decide) hr; rwa [HL0.out] at this)
    have CU := Lib.hid (fun A c (b : Nat) w hr => by have := used_any A c V (b : Int) w (by rw [HL0.out]; decide) hr; rwa [HL0.out] at this)
    have CT := Lib.hid (fun A c (X : List ByteArray) (n : Nat) w (h40 : X.length = 40) hr => by have := cut_any A c X (n : Int) 0 w (by rw [h40]; decide) hr; rwa [h40] at this)
    have HSUM := Lib.hid (sumQ_room HS.out)
    have hrm := rm_room
    go_wp2_with fail
    refine (CR.out _ _ V _ HL0.out R3.out).mono ?_
    rintro e w4 ⟨rfl, hb4⟩
    have D4 := Lib.hid hb4
    have RS4 := Lib.hid ((RS3.out.below hb4).mono hb4.size)
    have RV4 := Lib.hid ((R3.out.below hb4).mono hb4.size)
    clear hb4 RS3 R3
    have HM0 : Hid ((w4.alloc (.map #[] 0)).ownsMap Try.prog 3 (plainElem (H := Unit) Try.prog 3) w4.heap.size 0 (.map [])) := World.ownsMap_made _ _ _ _
    have BM0 : Hid (Below w4.heap.size w4 (w4.alloc (.map #[] 0))) := (Below.refl _ _).alloc (Nat.le_refl _) _
    obtain ⟨rv, hrv⟩ : ∃ rv, roomR V = rv := ⟨_, rfl⟩
    have HRV := Lib.hid hrv
    have hrv40 : rv ≤ 40 := by have := HSUM.out; omega
    rw [hrv]
    clear hrv
    go_wp2
    go_loopw [7, 37] (fun v i wr => ∃ (k N : Nat) (D : DataW Unit), k ≤ 3 ∧ i = .int .i64 (k : Int) ∧ v = .int .i64 ((rv + sumQ V k : Nat) : Int) ∧ Hid (N ≤ 70 * k) ∧ Hid (MetOk V k 0 D) ∧ Hid (wr.ownsMap Try.prog 3 (plainElem (H := Unit) Try.prog 3) w4.heap.size N D) ∧ Hid (Below w4.heap.size w4 wr)) (fun _ i _ => 3 - (intOf i).toNat)
    case atStart => exact ⟨0, 0, .map [], by omega, rfl, rfl, Lib.hid (Nat.le_refl _), Lib.hid (MetOk.start V), HM0, BM0⟩
    case round =>
      clear HM0 BM0
      obtain ⟨k, N, D, hk, rfl, rfl, HNN, HMO, HM, BM⟩ := hrel
      by_cases hlt : k < 3
      · have i2 : (k : Int) < 3 := by omega
        have hmem : k + 1 ∈ filesF := filesF_mem.2 (by omega)
        have q1 := HN.out wr (D4.out.trans (BM.out.mono D4.out.size)) k hlt
        have hle := sumQ_le HS.out (show k + 1 ≤ 3 by omega)
        have hsuc := sumQ_succ V k
        have hsum := HSUM.out
        have HRV' := HRV.out
        obtain ⟨n, hn⟩ : ∃ n, k + 1 = n := ⟨_, rfl⟩
        rw [hn] at q1 hle hsuc hmem
        obtain ⟨ct, hct⟩ : ∃ ct, countO V (n : Int) = ct := ⟨_, rfl⟩
        obtain ⟨cf, hcf⟩ : ∃ cf, sumQ V k = cf := ⟨_, rfl⟩
        rw [hct, hcf] at hsuc
        have w1 : IntKind.i64.wrap ((rv : Int) + (cf : Int) + (ct : Int)) = (rv : Int) + (cf : Int) + (ct : Int) := IntWalk.i64_in _ (by omega)
        have HW : Hid (rv + sumQ V (k + 1) = rv + cf + ct) := by show _ = _; rw [hn]; omega
        have CCn := Lib.hid (fun w hr => CC.out A2 c2 V n w HL0.out hr)
        rw [hct] at CCn
        have HKN := Lib.hid hn
        have HMEM := Lib.hid hmem
        have RVr := Lib.hid ((RV4.out.below BM.out).mono BM.out.size)
        rw [hcf]
        clear hle hsuc hsum HRV' hct hcf hn hmem
        go_wp2_with fail
        refine (CCn.out _ RVr.out).mono ?_
        rintro e w5 ⟨rfl, hb5⟩
        have RV5 := Lib.hid ((RVr.out.below hb5).mono hb5.size)
        have BM5 := Lib.hid (BM.out.trans (hb5.mono BM.out.size))
        have HM5 : Hid (w5.ownsMap Try.prog 3 (plainElem (H := Unit) Try.prog 3) w4.heap.size N D) := HM.out.kept (row := none) ⟨hb5.os, hb5.tape, hb5.output, hb5.size, fun k hk _ => hb5.block k hk⟩ (by simp)
        clear hb5 RVr BM HM CCn q1
        go_wp2_with fail
        refine (CB.out _ _ n _ RV5.out).mono ?_
        rintro e w6 ⟨⟨v6, rfl, hn6⟩, hb6⟩
        obtain ⟨nb, hnb⟩ : ∃ nb, needN (sizeX (getR V (n : Int))) = nb := ⟨_, rfl⟩
        have hnb70 : nb ≤ 70 := by
          have := sizeX_le (getR V (n : Int))
          rw [← hnb]; unfold needN; omega
        have EB : blocksO V (n : Int) = (List.range nb).map fun k => atI (blkF V n k) := by
          rw [blocksO_vol HS.out.snd HMEM.out, hnb]; rfl
        have EBl : (blocksO V (n : Int)).length = nb := by rw [EB, List.length_map, List.length_range]
        obtain ⟨A6, c6, hv6, hr6⟩ := OwnInts.read hn6
        have hfar : RowFar w6 w4.heap.size A6 (intsC (blocksO V (n : Int))) := by
          rcases Nat.eq_zero_or_pos (intsC (blocksO V (n : Int))).length with h0 | h0
          · exact .inl (List.eq_nil_of_length_eq_zero h0)
          · obtain ⟨b, o, hA, hl, hc⟩ := hr6.at_ h0
            refine .inr ⟨b, o, hA, hl, fun e => ?_, hc⟩
            have h1 := own_row hn6 b (by rw [hv6, hA]; rfl)
            have h2 := HM5.out.lt
            omega
        subst hv6
        rw [EBl]
        have EC : Hid (∀ j, j < nb → (intsC (blocksO V (n : Int)))[j]? = some (.int .i64 (atI (blkF V n j)))) := fun j hj => by
          rw [EB]
          unfold intsC
          simp [hj]
        have ECl : Hid ((intsC (blocksO V (n : Int))).length = nb) := by show _ = _; unfold intsC; rw [List.length_map, EBl]
        generalize intsC (blocksO V (n : Int)) = bl at *
        have HF6 := Lib.hid hfar
        have RV6 := Lib.hid ((RV5.out.below hb6).mono hb6.size)
        have BM6 := Lib.hid (BM5.out.trans (hb6.mono BM5.out.size))
        have HM6 := Lib.hid (map_below HM5.out hb6)
        clear hn6 hb6 hnb EB EBl hr6 hfar RV5 BM5 HM5
        go_wp2
        go_loopw [50] (fun i wr => ∃ (j N' : Nat) (D' : DataW Unit), j ≤ nb ∧ i = .int .i64 (j : Int) ∧ Hid (N' ≤ 70 * k + j) ∧ Hid (MetOk V k j D') ∧ Hid (wr.ownsMap Try.prog 3 (plainElem (H := Unit) Try.prog 3) w4.heap.size N' D') ∧ Hid (RowFar wr w4.heap.size A6 bl) ∧ Hid (Below w4.heap.size w4 wr)) (fun i _ => nb - (intOf i).toNat)
        case atStart => exact ⟨0, N, D, by omega, rfl, HNN, HMO, HM6, HF6, BM6⟩
        case round =>
          clear HNN HMO HM6 HF6 BM6 RV6
          obtain ⟨j, N', D', hj, rfl, HNN, HMO, HM, HF, BM⟩ := hrel
          by_cases hlt2 : j < nb
          · have i3 : (j : Int) < (nb : Int) := by omega
            obtain ⟨b6, o6, rfl, hl6, hg6, hc6⟩ : ∃ b o, A6 = some ⟨b, o, none⟩ ∧ b < wr.heap.size ∧ b ≠ w4.heap.size ∧ ∀ i v, bl[i]? = some v → wr.cell? ⟨b, o + i, none⟩ = some v := by
              rcases HF.out with h | h
              · exfalso
                have := ECl.out
                rw [h] at this
                simp at this; omega
              · exact h
            have q6 := hc6 j _ (EC.out j hlt2)
            clear hl6 hg6 hc6
            by_cases h0 : blkF V n j = 0
            · have hz : ¬ (0 : Int) ≤ atI (blkF V n j) := by rw [h0]; decide
              generalize atI (blkF V n j) = z at *
              have HN2 : Hid (N' ≤ 70 * k + (j + 1)) := by have := HNN.out; show _ ≤ _; omega
              have HO2 := Lib.hid HMO.out.up
              clear HNN HMO
              go_wp2
              go_roundw
              case rel => exact ⟨j + 1, N', D', by omega, by go_num, HN2, HO2, HM, HF, BM⟩
              case measure => simp [intOf]; omega
            · obtain ⟨b0, hb0⟩ : ∃ b0, blkF V n j = b0 := ⟨_, rfl⟩
              have hmem := HMEM.out
              have hkn := HKN.out
              have HUS := Lib.hid (blkF_used HS.out hmem (show j < 70 by omega) h0)
              have hns := seenB_new (i := k) (j := j) HS.out (by rw [hkn]; exact hmem) (by omega) (by rw [hkn]; exact h0)
              have hput := HMO.out.put (i := k) (j := j) (by rw [hkn]; exact hmem) (by omega)
              rw [hkn] at hns hput
              have hzr := HMO.out.2 _ hns
              rw [hb0] at hzr hput HUS
              have hblt : b0 < 40 := by
                have h1 := HUS.out
                unfold usedR at h1
                rw [ofR_some.2 HS.out.snd.vol] at h1
                have h2 := (Bool.and_eq_true_iff.1 h1).1
                have h3 := of_decide_eq_true h2
                have h4 := HL0.out
                omega
              have hz : atI (blkF V n j) = (b0 : Int) := by rw [hb0]; unfold atI; rw [if_neg (by rw [← hb0]; exact h0)]
              rw [hz] at q6
              have hz1 : (0 : Int) ≤ (b0 : Int) := by omega
              have HZR := Lib.hid hzr
              have HPUT := Lib.hid hput
              have HWF : Hid ((Lit.int .i64 (b0 : Int)).wf = true) := WalkArith.wf_i64 (by omega)
              have HKEY := Lib.hid (keyOf_int_mk (P := Try.prog) Try.underlying3 HWF.out)
              have HNM : Hid (N' < maxLen) := by have := HNN.out; show _ < _; unfold maxLen; omega
              have HMAP : Hid (IsMap D') := HMO.out.1
              have HKL : Hid (WideAt.IsKeyLit (Lit.int .i64 (b0 : Int))) := trivial
              clear h0 hb0 hmem hkn hns hput hzr hz HMO
              go_wp2_with (first
                | (at_lookup; refine wpList_lookup_own_int _ rfl _ _ 71 rfl 3 3 .i64 lawMet Try.underlying71 Try.underlying3 (zeroMet _) w4.heap.size N' _ rfl HM.out _ _ rfl HKEY.out ?_; intro cc hat hwc; obtain rfl := key_zero hat HZR.out; clear hat hwc)
                | (at_mapUpdate; refine wpList_mapUpdate_own _ rfl _ _ _ 71 rfl 3 3 lawMet Try.underlying71 _ w4.heap.size N' _ rfl HM.out HNM.out _ _ _ rfl rfl HKEY.out _ [] (plainElem_int Try.underlying3 (by first | rfl | exact wrap64_wf _)) ?_; intro w8 hown8 hgrow8)
                | (at_lookup; refine wpList_lookup_own_int _ rfl _ _ 71 rfl 3 3 .i64 lawMet Try.underlying71 Try.underlying3 (zeroMet _) w4.heap.size (N' + 1) _ rfl hown8 _ _ rfl HKEY.out ?_; intro c8 hat8 hwc8; obtain rfl := key_zero hat8 (atKey_put_same HMAP.out HKL.out _ _); clear hat8 hwc8))
              have hge8 : wr.heap.size ≤ w8.heap.size := hgrow8.size
              have BM8 := Lib.hid (BM.out.grown hgrow8 BM.out.size (fun j hj => by cases hj; exact Nat.le_refl _))
              have HF8 := Lib.hid (HF.out.grown hgrow8)
              have HM8 := Lib.hid hown8
              clear hown8 hgrow8 hge8 HM HF BM
              refine (CU.out _ _ b0 _ ((RV4.out.below BM8.out).mono BM8.out.size)).mono ?_
              rintro e w9 ⟨rfl, hb9⟩
              rw [HUS.out]
              have BM9 := Lib.hid (BM8.out.trans (hb9.mono BM8.out.size))
              have HF9 := Lib.hid (HF8.out.below hb9)
              have HM9 := Lib.hid (map_below HM8.out hb9)
              have HN2 : Hid (N' + 1 ≤ 70 * k + (j + 1)) := by have := HNN.out; show _ ≤ _; omega
              clear hb9 BM8 HF8 HM8 HNN
              go_wp2
              go_roundw
              case rel => exact ⟨j + 1, N' + 1, _, by omega, by go_num, HN2, HPUT, HM9, HF9, BM9⟩
              case measure => simp [intOf]; omega
          · have hjn : j = nb := by omega
            have HN2 : Hid (N' ≤ 70 * (k + 1)) := by have := HNN.out; show _ ≤ _; omega
            have HO2 := Lib.hid HMO.out.next
            clear HNN HMO
            go_wp2
            go_roundw
            case rel => exact ⟨k + 1, N', D', by omega, by go_num, by rw [HW.out]; go_num, HN2, HO2, HM, BM⟩
            case measure => simp [intOf]; omega
      · obtain rfl : k = 3 := by omega
        have hsum : rv + sumQ V 3 = roomR (fmtV 40 4) := by have h1 := HSUM.out; have h2 := HRV.out; omega
        rw [hsum]
        obtain ⟨rf, hrf⟩ : ∃ rf, roomR (fmtV 40 4) = rf := ⟨_, rfl⟩
        have HRF := Lib.hid hrf
        rw [hrf]
        have D5 := Lib.hid (D4.out.trans (BM.out.mono D4.out.size))
        have RS5 := Lib.hid ((RS4.out.below BM.out).mono BM.out.size)
        have RV5 := Lib.hid ((RV4.out.below BM.out).mono BM.out.size)
        have HL := Lib.hid (fun i hi => ((cutQ_all HS.out i hi).1.len : (cutQ V i).length = 40))
        have CT3 := Lib.hid (fun A c k w (hk : k < 3) hr => by
          have := CT.out A c (cutQ V k) (k + 1) w (HL.out k (by omega)) hr
          rw [(cutQ_step HS.out hk).1, show (cutO (cutQ V k) ((k + 1 : Nat) : Int) 0).1 = cutQ V (k + 1) from rfl] at this
          exact this)
        have CC3 := Lib.hid (fun A c k w (hk : k < 3) hr => by
          have := CC.out A c (cutQ V (k + 1)) (k + 1) w (HL.out (k + 1) (by omega)) hr
          rw [(cutQ_step HS.out hk).2] at this
          exact this)
        have CR3 := Lib.hid (fun A c w hr => by
          have := CR.out A c (cutQ V 3) w (HL.out 3 (by omega)) hr
          rw [cutQ_room HS.out, hrf] at this
          exact this)
        have CR0 := Lib.hid (fun A c w hr => by
          have := CR.out A c (fmtV 40 4) w (fmtV_length _ _) hr
          rw [hrf] at this
          exact this)
        clear hsum hrf hrm hrv40 HNN HMO HM BM CR CC CB CU CT D4 RS4 RV4 HRV HSUM
        generalize wr = w5 at *
        rw [show ((3 : Nat) : Int) = 3 from rfl]
        go_wp2
        go_loopw [5, 74] (fun v i wr => ∃ (k : Nat) (AV : Option Addr) (cv : Nat), k ≤ 3 ∧ i = .int .i64 (k : Int) ∧ v = .slice AV 40 cv ∧ Hid (RowAt wr wr.heap.size AV ((cutQ V k).map .string)) ∧ Hid (Below w5.heap.size w5 wr)) (fun _ i _ => 3 - (intOf i).toNat)
        case atStart => exact ⟨0, A2, c2, by omega, rfl, rfl, RV5, Lib.hid (Below.refl _ _)⟩
        case round =>
          clear RV5
          obtain ⟨k, AV, cv, hk, rfl, rfl, RV, B⟩ := hrel
          by_cases hlt : k < 3
          · have i2 : (k : Int) < 3 := by omega
            have q1 := HN.out wr (D5.out.trans (B.out.mono D5.out.size)) k hlt
            have CTk := Lib.hid (fun w hr => CT3.out AV cv k w hlt hr)
            have CCk := Lib.hid (fun A c w hr => CC3.out A c k w hlt hr)
            have HLk := Lib.hid (HL.out (k + 1) (by omega))
            obtain ⟨n, hn⟩ : ∃ n, k + 1 = n := ⟨_, rfl⟩
            have HKN := Lib.hid hn
            rw [hn] at q1 CTk CCk HLk
            clear hn
            go_wp2_with fail
            refine (CTk.out _ RV.out).mono ?_
            rintro e w6 ⟨⟨v6, rfl, hn6⟩, hb6⟩
            obtain ⟨A6, c6, rfl, hr6⟩ := hn6.read40 HLk.out
            have R6 := Lib.hid hr6
            have B6 := Lib.hid (B.out.trans (hb6.mono B.out.size))
            clear hn6 hb6 hr6 RV B q1 CTk
            go_wp2_with fail
            refine (CCk.out _ _ _ R6.out).mono ?_
            rintro e w7 ⟨rfl, hb7⟩
            have R7 : Hid (RowAt w7 w7.heap.size A6 ((cutQ V (k + 1)).map .string)) := by
              have := HKN.out
              rw [this]
              exact (R6.out.below hb7).mono hb7.size
            have B7 := Lib.hid (B6.out.trans (hb7.mono B6.out.size))
            have HKN' : Hid (((k + 1 : Nat) : Int) = (n : Int)) := by show _ = _; rw [HKN.out]
            clear hb7 R6 B6 CCk
            go_wp2
            go_roundw
            case rel => exact ⟨k + 1, A6, c6, by omega, by go_num, rfl, R7, B7⟩
            case measure => simp [intOf]; omega
          · obtain rfl : k = 3 := by omega
            have D6 := Lib.hid (D5.out.trans (B.out.mono D5.out.size))
            have RS6 := Lib.hid ((RS5.out.below B.out).mono B.out.size)
            clear B CT3 CC3 D5 RS5
            go_wp2_with fail
            refine (fixed19_any _).mono ?_
            rintro e w6 ⟨rfl, hb6⟩
            have D7 := Lib.hid (D6.out.trans (hb6.mono D6.out.size))
            have RS7 := Lib.hid ((RS6.out.below hb6).mono hb6.size)
            have RV7 := Lib.hid ((RV.out.below hb6).mono hb6.size)
            clear hb6 D6 RS6 RV
            go_wp2_with fail
            refine (CR0.out _ _ _ RS7.out).mono ?_
            rintro e w7 ⟨rfl, hb7⟩
            have D8 := Lib.hid (D7.out.trans (hb7.mono D7.out.size))
            have RS8 := Lib.hid ((RS7.out.below hb7).mono hb7.size)
            have RV8 := Lib.hid ((RV7.out.below hb7).mono hb7.size)
            clear hb7 D7 RS7 RV7
            go_wp2_with fail
            refine (CR3.out _ _ _ RV8.out).mono ?_
            rintro e w8 ⟨rfl, hb8⟩
            have D9 := Lib.hid (D8.out.trans (hb8.mono D8.out.size))
            have RS9 := Lib.hid ((RS8.out.below hb8).mono hb8.size)
            clear hb8 D8 RS8 RV8
            go_wp2_with fail
            refine (CR0.out _ _ _ RS9.out).mono ?_
            rintro e w9 ⟨rfl, hb9⟩
            have D10 := Lib.hid (D9.out.trans (hb9.mono D9.out.size))
            clear hb9 D9 RS9
            go_wp2
            go_ret
            exact ⟨by simp, B3.out.trans (D10.out.mono B3.out.size)⟩
end Go.Proofs.Ytjmafegckfijbaa
