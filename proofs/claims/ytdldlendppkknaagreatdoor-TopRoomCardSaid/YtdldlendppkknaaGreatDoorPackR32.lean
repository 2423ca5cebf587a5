/-
  Contracts and plain laws: LawRoom.
-/
import Derived.BigQuiet
import Derived.Test.YtdldlendppkknaaGreatDoorPackR26
import Derived.Test.YtdldlendppkknaaGreatDoorPackR31
namespace Go.Proofs.YtdldlendppkknaaGreatDoor
open Go.RowKit
set_option linter.unusedVariables false
set_option linter.unusedSimpArgs false
set_option maxRecDepth 100000
theorem great_facts {l : List DeedV} (h : greatB l = false) (hn : ∀ a ∈ l, -9223372036854775808 ≤ a.n ∧ a.n ≤ 9223372036854775807) : l.length ≤ 24 ∧ ∀ a ∈ l, DeedOk a := by
 unfold greatB at h
 rw [Bool.or_eq_false_iff] at h
 obtain ⟨h1, h2⟩ := h
 rw [List.any_eq_false] at h1
 refine ⟨by have := of_decide_eq_false h2; omega, fun a ha => ?_⟩
 have h3 := h1 a ha
 unfold greatD at h3
 rw [decide_eq_true_iff] at h3
 exact ⟨hn a ha, by omega, by omega, by omega⟩
set_option maxHeartbeats 16000000 in
theorem law_room (A : Option Addr) (c : Nat) (l : List DeedV) (x y : Nat) (w : World) (hx : x < 256) (hy : y < 256) (hl : l.length ≤ 9223372036854775807) (hn : ∀ a ∈ l, -9223372036854775808 ≤ a.n ∧ a.n ≤ 9223372036854775807)
  (CS : ∀ w', Below w.heap.size w w' → Calls Tryz.prog 8 #[] w' fun e w2 => e = .returned (.bool true) ∧ Below w'.heap.size w' w2) (h : RowAt w w.heap.size A (deedsC l)) :
  Calls Tryz.prog 4 #[.int .u8 x, .int .u8 y, .slice A l.length c] w fun e w' => e = .returned (.bool true) ∧ Below w.heap.size w w' := by
 have HR := Lib.hid h
 have CS := Lib.hid CS
 obtain ⟨hp0, hr0⟩ := plan_of x y
 obtain ⟨_, _, s3, _⟩ := start_ok hp0 hr0
 have s2 := start_root hp0 hr0
 have CV := Lib.hid (fun w => volume_any x y w hx hy)
 have CG := Lib.hid (fun w h => great_any A c l w hl h)
 have HGF := Lib.hid (fun h => great_facts (l := l) h hn)
 have hb59 : 20 + x % 40 ≤ 59 := by omega
 generalize startV (20 + x % 40) (4 + y % 12) = V0 at *
 generalize 20 + x % 40 = b at *
 generalize 4 + y % 12 = m at *
 have HF0 := Lib.hid s2
 have HL0 := Lib.hid s3
 have HB59 := Lib.hid hb59
 have HL := Lib.hid hl
 clear h hp0 hr0 s2 s3 hx hy hn hb59 hl
 go_enter Tryz.func4, Tryz.ntmps4
 go_wp2_with fail
 refine (CV.out _).mono ?_
 rintro e w1 ⟨⟨v1, rfl, hown⟩, hb1⟩
 obtain ⟨A1, c1, rfl, hrow⟩ := OwnRow.read hown
 rw [HL0.out]
 have R1 := Lib.hid hrow
 have B1 := Lib.hid hb1
 clear hown hb1 hrow CV
 go_wp2_with fail
 refine (CG.out _ (row_keep HR.out B1.out B1.out.size)).mono ?_
 rintro e w2 ⟨rfl, hb2⟩
 have B2 := Lib.hid (B1.out.trans (hb2.mono B1.out.size))
 have R2 := Lib.hid (row_keep R1.out hb2 hb2.size)
 clear hb2 CG R1 B1
 generalize greatB l = bg at *
 cases bg with
 | true =>
  go_wp2_with fail
  refine (CS.out _ B2.out).mono ?_
  rintro e w3 ⟨rfl, hb3⟩
  go_wp2
  go_ret
  exact ⟨rfl, B2.out.trans (hb3.mono B2.out.size)⟩
 | false =>
  obtain ⟨hl24, hok⟩ := HGF.out rfl
  have HOK := Lib.hid hok
  clear hok HGF
  go_wp2
  go_loopw [7, 35] (fun v i wr => ∃ (k : Nat) (V : List ByteArray) (A2 : Option Addr) (c2 : Nat), k ≤ l.length ∧ i = .int .i64 (k : Int) ∧ v = .slice A2 b c2 ∧ Hid (RootT V m) ∧ Hid (V.length = b) ∧ Hid (RowAt wr wr.heap.size A2 (V.map .string)) ∧ Hid (Below w.heap.size w wr)) (fun _ i _ => l.length - (intOf i).toNat)
  case atStart => exact ⟨0, V0, A1, c1, Nat.zero_le _, rfl, rfl, HF0, HL0, R2, B2⟩
  case round =>
   clear R2 B2 HF0 HL0
   obtain ⟨k, V, A2, c2, hk, rfl, rfl, HF, HLV, RV, B⟩ := hrel
   by_cases hlt : k < l.length
   ·obtain ⟨bA, oA, rfl, hbA, hrA⟩ := deed_at (RowAt.below HR.out B.out) hlt
    have CA : Hid (∀ w3, RowAt w3 w3.heap.size A2 (V.map .string) → Calls Tryz.prog 9 #[.slice A2 b c2, .agg (deedC l[k])] w3 (ActPost (actO V l[k]) w3)) := fun w3 h => by
     have h5 := HB59.out
     have h6 := HLV.out
     have := act_any A2 c2 V m l[k] w3 (by omega) HF.out.tree.dir (HOK.out _ (List.getElem_mem hlt)) h
     rwa [HLV.out] at this
    have HK := Lib.hid (And.intro (act_root HF.out l[k]) (act_keep HF.out.tree l[k]).2)
    generalize l[k] = dd at *
    generalize actO V dd = r at *
    obtain ⟨r1, r2⟩ := r
    dsimp only at HK
    obtain ⟨kd, n, p1, q1, d1, o⟩ := dd
    have HR1 : Hid (wr.rangeAt bA (oA + k * 6) [.int .i64 kd, .int .i64 n, .string p1, .string q1, .string d1, .int .i64 o]) := hrA
    have B4 := Lib.hid (B.out.alloc B.out.size (.cells #[.int .i64 kd, .int .i64 n, .string p1, .string q1, .string d1, .int .i64 o] 30))
    have RV4 := Lib.hid (row_keep RV.out ((Below.refl wr.heap.size wr).alloc (Nat.le_refl _) (.cells #[.int .i64 kd, .int .i64 n, .string p1, .string q1, .string d1, .int .i64 o] 30)) (by simp))
    have i2 : (k : Int) < (l.length : Int) := by omega
    have i3 : (0 : Int) ≤ (k : Int) := by omega
    have ws : IntKind.i64.wrap ((k : Int) + 1) = (k : Int) + 1 := IntWalk.i64_in _ (by have := HL.out; omega)
    clear hrA
    go_wp2_with (refine wpList_load_mid rfl 30 (.tmp 37) rfl bA (oA + k * 6) rfl _ _ HR1.out Tryz.underlying30 rfl (by kernel_rfl) ?_; go_frame)
    refine (CA.out _ RV4.out).mono ?_
    rintro e w4 ⟨⟨A4, c4, he, hr4⟩, hb4⟩
    dsimp only at he hr4
    rw [HK.out.2, HLV.out] at he
    subst he
    have R4 := Lib.hid hr4
    have B5 := Lib.hid (B4.out.trans (hb4.mono B4.out.size))
    clear hr4 hb4 CA RV4 B4
    go_wp2
    go_roundw
    case rel => exact ⟨k + 1, r1, A4, c4, by omega, by go_num, rfl, HK.out.1, HK.out.2.trans HLV.out, R4, B5⟩
    case measure => simp [intOf]; omega
   ·clear HR HOK HL
    obtain rfl : k = l.length := by omega
    clear hk hlt hl24
    have hinv := HF.out.tree.dir.inv
    have hvl := HF.out.vol.len
    have HV6 : Hid (V.length ≤ 1000000) := by show _ ≤ _; omega
    have HSUM := Lib.hid (room_all hinv)
    have HSL := Lib.hid (fun k => sumN_le hinv k)
    have CO : Hid (∀ A c w3 (X : List ByteArray), RootT X m → X.length = b → RowAt w3 w3.heap.size A (X.map .string) → Calls Tryz.prog 17 #[.slice A b c] w3 fun e w' => e = .returned (.tuple #[.agg #[.int .i64 (b : Int), .int .i64 (m : Int), .int .i64 1, .int .i64 2, .int .i64 3, .int .i64 (dataN m : Nat)], .int .i64 0]) ∧ Below w3.heap.size w3 w') := fun A c w3 X hX hXb h => by
     have h5 := HB59.out
     have := of_any A c X w3 (by omega) h
     unfold OfPost at this
     rw [ofR_some.2 hX.vol, hXb] at this
     exact this
    have CRM : Hid (∀ A c w3 (X : List ByteArray), X.length = b → RowAt w3 w3.heap.size A (X.map .string) → Calls Tryz.prog 18 #[.slice A b c] w3 fun e w' => e = .returned (.int .i64 (roomR X : Nat)) ∧ Below w3.heap.size w3 w') := fun A c w3 X hXb h => by
     have h5 := HB59.out
     have := room_any A c X w3 (by omega) h
     rwa [hXb] at this
    have CAL : Hid (∀ A c w3 (X : List ByteArray), X.length = b → RowAt w3 w3.heap.size A (X.map .string) → Calls Tryz.prog 14 #[.slice A b c] w3 fun e w' => (∃ v, e = .returned v ∧ OwnNums (allO X) w3 v w') ∧ Below w3.heap.size w3 w') := fun A c w3 X hXb h => by
     have h5 := HB59.out
     have := all_ino A c X w3 (by omega) h
     rwa [hXb] at this
    have CCN : Hid (∀ A c w3 (X : List ByteArray) (n : Int), X.length = b → RowAt w3 w3.heap.size A (X.map .string) → Calls Tryz.prog 19 #[.slice A b c, .int .i64 n] w3 fun e w' => e = .returned (.int .i64 (countO X n : Nat)) ∧ Below w3.heap.size w3 w') := fun A c w3 X n hXb h => by
     have h5 := HB59.out
     have := count_any A c X n w3 (by omega) h
     rwa [hXb] at this
    have HBE : Hid (V.length = b) := HLV.out
    have HNL64 : Hid ((allO V).length ≤ 64) := allO_len V
    clear hinv hvl
    go_wp2_with fail
    refine (CO.out _ _ _ V HF.out HLV.out RV.out).mono ?_
    rintro e w3 ⟨rfl, hb3⟩
    have G4 := Lib.hid (Blk.new w3 51 #[.int .i64 (b : Int), .int .i64 (m : Int), .int .i64 1, .int .i64 2, .int .i64 3, .int .i64 ((dataN m : Nat) : Int)])
    have B4 := Lib.hid ((B.out.trans (hb3.mono B.out.size)).alloc (B.out.trans (hb3.mono B.out.size)).size (.cells #[.int .i64 (b : Int), .int .i64 (m : Int), .int .i64 1, .int .i64 2, .int .i64 3, .int .i64 ((dataN m : Nat) : Int)] 51))
    have R4 := Lib.hid (row_keep (row_keep RV.out hb3 hb3.size) ((Below.refl _ _).alloc (Nat.le_refl _) (.cells #[.int .i64 (b : Int), .int .i64 (m : Int), .int .i64 1, .int .i64 2, .int .i64 3, .int .i64 ((dataN m : Nat) : Int)] 51)) (by simp))
    generalize hgg : w3.heap.size = gg at *
    generalize hw4 : w3.alloc (.cells #[.int .i64 (b : Int), .int .i64 (m : Int), .int .i64 1, .int .i64 2, .int .i64 3, .int .i64 ((dataN m : Nat) : Int)] 51) = w4 at *
    clear hb3 RV B
    go_wp2_with fail
    refine (CRM.out _ _ _ V HLV.out R4.out).mono ?_
    rintro e w5 ⟨rfl, hb5⟩
    have B5 := Lib.hid (B4.out.trans (hb5.mono B4.out.size))
    have R5 := Lib.hid (row_keep R4.out hb5 hb5.size)
    have G5 := Lib.hid (G4.out.below hb5 G4.out.lt)
    clear hb5 B4 R4 G4 hw4 hgg
    go_wp2_with fail
    refine (CAL.out _ _ _ V HLV.out R5.out).mono ?_
    rintro e w6 ⟨⟨v6, rfl, hn6⟩, hb6⟩
    obtain ⟨A6, c6, rfl, hr6⟩ := hn6.read
    have B6 := Lib.hid (B5.out.trans (hb6.mono B5.out.size))
    have R6 := Lib.hid (row_keep R5.out hb6 hb6.size)
    have G6 := Lib.hid (G5.out.below hb6 G5.out.lt)
    have N6 := Lib.hid hr6
    have HDL : Hid (dataN m < b) := by
     have := HF.out.vol.len
     rw [HLV.out] at this
     exact this.2.2.2.2.1
    have HN0 : Hid (sumN V ([] : List Nat) = roomR V) := by show _ = _; unfold sumN; simp
    have HNS := Lib.hid (fun ns n => sumN_snoc V ns n)
    have CWK : Hid (∀ A c w3 (X : List ByteArray), RootT X m → X.length = b → RowAt w3 w3.heap.size A (X.map .string) → Calls Tryz.prog 20 #[.slice A b c] w3 fun e w' => (∃ ps v, e = .returned v ∧ w'.ownsRow w3.heap.size 9 1 v ps.length (ps.map .string) ∧ (∀ s ∈ ps, s.size ≤ 200) ∧ ps.length ≤ 18200 ∧ (ps = [] → entD X 1 = [])) ∧ Below w3.heap.size w3 w') := fun A c w3 X hX hXb h => by
     have h5 := HB59.out
     have := walk_any A c X m hX.tree (by omega) w3 h
     rwa [hXb] at this
    rw [HLV.out] at HSUM
    clear hb6 hr6 hn6 B5 R5 G5
    generalize allO V = ns at *
    rw [← HN0.out]
    go_wp2
    go_loopw [13, 56] (fun nv i wr => ∃ k : Nat, k ≤ ns.length ∧ i = .int .i64 (k : Int) ∧ nv = .int .i64 ((sumN V (ns.take k) : Nat) : Int) ∧ Hid (RowAt wr wr.heap.size A6 (numsC ns)) ∧ Hid (RowAt wr wr.heap.size A2 (V.map .string)) ∧ Hid (Blk wr gg 51 #[.int .i64 (b : Int), .int .i64 (m : Int), .int .i64 1, .int .i64 2, .int .i64 3, .int .i64 ((dataN m : Nat) : Int)]) ∧ Hid (Below w.heap.size w wr)) (fun _ i _ => ns.length - (intOf i).toNat)
    case atStart => exact ⟨0, Nat.zero_le _, rfl, rfl, N6, R6, G6, B6⟩
    case round =>
     clear N6 R6 G6 B6
     obtain ⟨k, hk, rfl, rfl, NK, RK, GK, BK⟩ := hrel
     by_cases hlt : k < ns.length
     ·obtain ⟨bn, on, rfl, hbn, hcn⟩ := RowAt.at_ NK.out (by unfold numsC; rw [List.length_map]; omega)
      have cn : wr.cell? ⟨bn, on + k, none⟩ = some (.int .i64 ((ns[k] : Nat) : Int)) := hcn k _ (by unfold numsC; simp [hlt])
      have hs1 : sumN V (ns.take (k + 1)) = sumN V (ns.take k) + countO V ((ns[k] : Nat) : Int) := by rw [List.take_succ_eq_append_getElem hlt, HNS.out]
      have hs2 := HSL.out (k + 1)
      have CC := CCN.out (some ⟨bn, on, none⟩) c2 wr V ((ns[k] : Nat) : Int)
      have CC : Hid (Calls Tryz.prog 19 #[.slice A2 b c2, .int .i64 ((ns[k] : Nat) : Int)] wr fun e w' => e = .returned (.int .i64 (countO V ((ns[k] : Nat) : Int) : Nat)) ∧ Below wr.heap.size wr w') := CCN.out _ _ _ V _ HLV.out RK.out
      generalize ns[k] = q at *
      generalize countO V (q : Int) = cq at *
      have i2 : (k : Int) < (ns.length : Int) := by omega
      have i3 : (0 : Int) ≤ (k : Int) := by omega
      have ws : IntKind.i64.wrap ((k : Int) + 1) = (k : Int) + 1 := IntWalk.i64_in _ (by have := HNL64.out; omega)
      obtain ⟨sk, hsk⟩ : ∃ sk, sumN V (ns.take k) = sk := ⟨_, rfl⟩
      rw [hsk] at hs1 ⊢
      have wa : IntKind.i64.wrap ((sk : Int) + (cq : Int)) = ((sumN V (ns.take (k + 1)) : Nat) : Int) := by
       rw [hs1, show (sk : Int) + (cq : Int) = ((sk + cq : Nat) : Int) by omega]; exact IntWalk.i64_in _ (by omega)
      have HS1 := Lib.hid hs1
      clear hcn hs2 hsk hs1
      go_wp2_with fail
      refine CC.out.mono ?_
      rintro e w7 ⟨rfl, hb7⟩
      have B7 := Lib.hid (BK.out.trans (hb7.mono BK.out.size))
      have R7 := Lib.hid (row_keep RK.out hb7 hb7.size)
      have N7 := Lib.hid (row_keep NK.out hb7 hb7.size)
      have G7 := Lib.hid (GK.out.below hb7 GK.out.lt)
      clear hb7 CC BK RK NK GK cn
      go_wp2
      go_roundw
      case rel => exact ⟨k + 1, by omega, by go_num, rfl, N7, R7, G7, B7⟩
      case measure => simp [intOf]; omega
     ·obtain rfl : k = ns.length := by omega
      have htk : ns.take ns.length = ns := List.take_length
      rw [htk, HSUM.out]
      have hdl := HDL.out
      have g0 := GK.out.cell 0 rfl
      have g5 := GK.out.cell 5 rfl
      have h59 := HB59.out
      have e1 : ((b - dataN m : Nat) : Int) = (b : Int) - ((dataN m : Nat) : Int) := by omega
      have e2 : IntKind.i64.wrap ((b : Int) - ((dataN m : Nat) : Int)) = (b : Int) - ((dataN m : Nat) : Int) := IntWalk.i64_in _ (by omega)
      rw [e1]
      clear htk hk hlt hdl h59 e1 NK HSL HNS HN0 HSUM HNL64
      go_wp2
      clear e2 g0 g5
      go_loopw [7, 77] (fun vv i wr => ∃ (k : Nat) (X : List ByteArray) (AX : Option Addr) (cX : Nat), k ≤ 100 ∧ i = .int .i64 (k : Int) ∧ vv = .slice AX b cX ∧ Hid (RootT X m) ∧ Hid (X.length = b) ∧ Hid (RowAt wr wr.heap.size AX (X.map .string)) ∧ Hid (Blk wr gg 51 #[.int .i64 (b : Int), .int .i64 (m : Int), .int .i64 1, .int .i64 2, .int .i64 3, .int .i64 ((dataN m : Nat) : Int)]) ∧ Hid (Below w.heap.size w wr)) (fun _ i _ => 100 - (intOf i).toNat)
      case atStart => exact ⟨0, V, A2, c2, by decide, rfl, rfl, HF, HLV, RK, GK, BK⟩
      case round =>
       clear RK GK BK HF HLV HV6 HBE CO
       obtain ⟨k, X, AX, cX, hk, rfl, rfl, HFX, HLX, RX, GX, BX⟩ := hrel
       by_cases hlt : k < 100
       ·have i2 : (k : Int) < 100 := by omega
        have ws : IntKind.i64.wrap ((k : Int) + 1) = (k : Int) + 1 := IntWalk.i64_in _ (by omega)
        go_wp2_with fail
        refine (CWK.out _ _ _ X HFX.out HLX.out RX.out).mono ?_
        rintro e w8 ⟨⟨ps, v8, rfl, hown, hpz, hpl, _⟩, hb8⟩
        obtain ⟨A8, c8, rfl, hr8⟩ := OwnRow.read (ys := ps) (w := wr) (w' := w8) hown
        have P8 := Lib.hid hr8
        replace BX := Lib.hid (BX.out.trans (hb8.mono BX.out.size))
        replace RX := Lib.hid (row_keep RX.out hb8 hb8.size)
        replace GX := Lib.hid (GX.out.below hb8 GX.out.lt)
        have HPZ := Lib.hid hpz
        have HPL := Lib.hid hpl
        clear hb8 hown hr8 hpz hpl
        by_cases hz : ps.length = 0
        ·rw [hz]
         clear P8 HPZ HPL ws i2
         go_wp2_with fail
         refine (CAL.out _ _ _ X HLX.out RX.out).mono ?_
         rintro e w21 ⟨⟨v21, rfl, hn21⟩, hb21⟩
         obtain ⟨A21, c21, rfl, hr21⟩ := hn21.read
         have B21 := Lib.hid (BX.out.trans (hb21.mono BX.out.size))
         have R21 := Lib.hid (row_keep RX.out hb21 hb21.size)
         have G21 := Lib.hid (GX.out.below hb21 GX.out.lt)
         have CS21 : ∀ u : Ext w21, Calls Tryz.prog 8 #[] u.val fun e w2 => e = .returned (.bool true) ∧ Below u.val.heap.size u.val w2 := fun u => CS.out u.val (B21.out.trans (u.below.mono B21.out.size))
         have CS21 := Lib.hid CS21
         clear hb21 hn21 hr21 RX BX GX
         go_wp2
         refine wp_region_waist 3 (by kernel_rfl) (by kernel_rfl) ?_
         simp only [List.take_succ_cons, List.take_zero, List.drop_succ_cons, List.drop_zero]
         repeat (go_big_quiet_step (first
          | (go_at_call 8; with_reducible exact Ext.call (CS21.out _))))
         refine wpQuiet_nil ?_
         rintro _ ⟨u, rfl⟩
         have B22 := Lib.hid (B21.out.trans (u.below.mono B21.out.size))
         have R22 := Lib.hid (row_keep R21.out u.below u.below.size)
         have G22 := Lib.hid (G21.out.below u.below G21.out.lt)
         clear CS21 B21 R21 G21
         generalize u.val = w22 at *
         go_wp2_with fail
         refine (CWK.out _ _ _ X HFX.out HLX.out R22.out).mono ?_
         rintro e w23 ⟨⟨ps9, v23, rfl, hown, _, _, hem⟩, hb23⟩
         obtain ⟨A23, c23, rfl, hr23⟩ := OwnRow.read (ys := ps9) (w := w22) (w' := w23) hown
         have B23 := Lib.hid (B22.out.trans (hb23.mono B22.out.size))
         have R23 := Lib.hid (row_keep R22.out hb23 hb23.size)
         have G23 := Lib.hid (G22.out.below hb23 G22.out.lt)
         have HEM := Lib.hid hem
         clear hb23 hown hr23 hem B22 R22 G22
         by_cases hz : ps9 = []
         ·have he := HEM.out hz
          have e1 : (allO X).length = 1 := by rw [only_top HFX.out he]; rfl
          have e2 := end_room HFX.out he
          rw [HLX.out] at e2
          have e3 : ps9.length = 0 := by rw [hz]; rfl
          have hdl := HDL.out
          rw [e1, e3]
          have g0 : ∀ u : Ext w23, u.val.cell? ⟨gg, 0, none⟩ = some (.int .i64 (b : Int)) := fun u => u.cell (G23.out.cell 0 rfl)
          have g5 : ∀ u : Ext w23, u.val.cell? ⟨gg, 5, none⟩ = some (.int .i64 ((dataN m : Nat) : Int)) := fun u => u.cell (G23.out.cell 5 rfl)
          have CR9 : Hid (∀ u : Ext w23, Calls Tryz.prog 18 #[.slice AX b cX] u.val fun e w' => e = .returned (.int .i64 (roomR X : Nat)) ∧ Below u.val.heap.size u.val w') := fun u => CRM.out _ _ _ X HLX.out (row_keep R23.out u.below u.below.size)
          have CC9 : Hid (∀ u : Ext w23, Calls Tryz.prog 19 #[.slice AX b cX, .int .i64 1] u.val fun e w' => e = .returned (.int .i64 (countO X 1 : Nat)) ∧ Below u.val.heap.size u.val w') := fun u => CCN.out _ _ _ X 1 HLX.out (row_keep R23.out u.below u.below.size)
          generalize roomR X = rx at *
          generalize countO X 1 = cx at *
          generalize dataN m = dm at *
          have a1 : IntKind.i64.wrap ((rx : Int) + (cx : Int)) = (rx : Int) + (cx : Int) := IntWalk.i64_in _ (by have := HB59.out; omega)
          have a2 : IntKind.i64.wrap ((b : Int) - (dm : Int)) = (rx : Int) + (cx : Int) := by
           rw [show (b : Int) - (dm : Int) = (rx : Int) + (cx : Int) by omega]; exact a1
          clear e1 e2 e3 he hz hdl
          go_wp2
          repeat (go_big_quiet_step (first
           | (go_at_call 18; with_reducible exact Ext.call (CR9.out _))
           | (go_at_call 19; with_reducible exact Ext.call (CC9.out _))))
          refine wpQuiet_nil ?_
          rintro _ ⟨u, rfl⟩
          go_wp2
          go_ret
          exact ⟨by simp, B23.out.trans (u.below.mono B23.out.size)⟩
         ·have e3 : 0 < ps9.length := List.length_pos_iff.2 hz
          have e4 : (0 : Int) < (ps9.length : Int) := by omega
          have e5 : decide ((0 : Int) < (ps9.length : Int)) = true := decide_eq_true e4
          have e6 : decide (0 < ps9.length) = true := decide_eq_true e3
          clear hz
          go_wp2
          repeat (go_big_quiet_step (fail))
          refine wpQuiet_nil ?_
          rintro _ ⟨u, rfl⟩
          go_wp2
          go_ret
          exact ⟨by simp, B23.out.trans (u.below.mono B23.out.size)⟩
        ·have hz' : ((ps.length : Int) == 0) = false := by simpa using hz
         go_wp2
         go_loopw [7, 86] (fun vv i wr => ∃ (t : Nat) (Y : List ByteArray) (AY : Option Addr) (cY : Nat), t ≤ ps.length ∧ i = .int .i64 (t : Int) ∧ vv = .slice AY b cY ∧ Hid (RootT Y m) ∧ Hid (Y.length = b) ∧ Hid (RowAt wr wr.heap.size AY (Y.map .string)) ∧ Hid (RowAt wr wr.heap.size A8 (ps.map .string)) ∧ Hid (Blk wr gg 51 #[.int .i64 (b : Int), .int .i64 (m : Int), .int .i64 1, .int .i64 2, .int .i64 3, .int .i64 ((dataN m : Nat) : Int)]) ∧ Hid (Below w.heap.size w wr)) (fun _ i _ => ps.length - (intOf i).toNat)
         case atStart => exact ⟨0, X, AX, cX, Nat.zero_le _, rfl, rfl, HFX, HLX, RX, P8, GX, BX⟩
         case round =>
          clear RX GX BX P8 HFX HLX
          obtain ⟨t, Y, AY, cY, ht, rfl, rfl, HFY, HLY, RY, PY, GY, BY⟩ := hrel
          by_cases htl : t < ps.length
          ·obtain ⟨bp, op, rfl, hbp, hcp⟩ := RowAt.at_ PY.out (by rw [List.length_map]; omega)
           have cp : wr.cell? ⟨bp, op + t, none⟩ = some (.string ps[t]) := hcp t _ (by simp [htl])
           have hps := HPZ.out _ (List.getElem_mem htl)
           generalize ps[t] = p at *
           have CRV : Hid (Calls Tryz.prog 21 #[.slice AY b cY, .string p] wr (RowCode (removeO Y p).1 (removeO Y p).2 wr)) := by
            have h5 := HB59.out
            have h6 := HLY.out
            have := remove_any AY cY Y p wr (by omega) (by omega) RY.out
            rwa [HLY.out] at this
           have HRV := Lib.hid (fun he => And.intro (RootT.remove HFY.out (p := p) he) (TreeX.remove HFY.out.tree (p := p) he).2)
           generalize removeO Y p = r at *
           obtain ⟨r1, r2⟩ := r
           unfold RowCode at CRV
           dsimp only at CRV HRV
           have j2 : (t : Int) < (ps.length : Int) := by omega
           have j3 : (0 : Int) ≤ (t : Int) := by omega
           have wt : IntKind.i64.wrap ((t : Int) + 1) = (t : Int) + 1 := IntWalk.i64_in _ (by have := HPL.out; omega)
           clear hcp hps
           go_wp2_with fail
           refine CRV.out.mono ?_
           rintro e w9 ⟨⟨v9, rfl, hn9⟩, hb9⟩
           obtain ⟨A9, c9, rfl, hr9⟩ := hn9.read
           have R9 := Lib.hid hr9
           have B9 := Lib.hid (BY.out.trans (hb9.mono BY.out.size))
           have RY9 := Lib.hid (row_keep RY.out hb9 hb9.size)
           have P9 := Lib.hid (row_keep PY.out hb9 hb9.size)
           have G9 := Lib.hid (GY.out.below hb9 GY.out.lt)
           clear hr9 hn9 hb9 CRV RY PY GY BY cp
           by_cases he : r2 = 0
           ·subst he
            obtain ⟨f1, f2⟩ := HRV.out rfl
            have F1 := Lib.hid f1
            have F2 := Lib.hid (f2.trans HLY.out)
            rw [f2, HLY.out]
            clear f1 f2 HRV
            go_wp2
            go_roundw
            case rel => exact ⟨t + 1, r1, A9, c9, by omega, by go_num, rfl, F1, F2, R9, P9, G9, B9⟩
            case measure => simp [intOf]; omega
           ·have he' : (r2 == 0) = false := by simpa using he
            go_wp2
            go_roundw
            case rel => exact ⟨t + 1, Y, AY, cY, by omega, by go_num, rfl, HFY, HLY, RY9, P9, G9, B9⟩
            case measure => simp [intOf]; omega
          ·obtain rfl : t = ps.length := by omega
           go_wp2
           go_roundw
           case rel => exact ⟨k + 1, Y, AY, cY, by omega, by go_num, rfl, HFY, HLY, RY, GY, BY⟩
           case measure => simp [intOf]; omega
       ·obtain rfl : k = 100 := by omega
        clear hlt hk
        go_wp2_with fail
        refine (CAL.out _ _ _ X HLX.out RX.out).mono ?_
        rintro e w21 ⟨⟨v21, rfl, hn21⟩, hb21⟩
        obtain ⟨A21, c21, rfl, hr21⟩ := hn21.read
        have B21 := Lib.hid (BX.out.trans (hb21.mono BX.out.size))
        have R21 := Lib.hid (row_keep RX.out hb21 hb21.size)
        have G21 := Lib.hid (GX.out.below hb21 GX.out.lt)
        have CS21 : ∀ u : Ext w21, Calls Tryz.prog 8 #[] u.val fun e w2 => e = .returned (.bool true) ∧ Below u.val.heap.size u.val w2 := fun u => CS.out u.val (B21.out.trans (u.below.mono B21.out.size))
        have CS21 := Lib.hid CS21
        clear hb21 hn21 hr21 RX BX GX
        go_wp2
        refine wp_region_waist 3 (by kernel_rfl) (by kernel_rfl) ?_
        simp only [List.take_succ_cons, List.take_zero, List.drop_succ_cons, List.drop_zero]
        repeat (go_big_quiet_step (first
         | (go_at_call 8; with_reducible exact Ext.call (CS21.out _))))
        refine wpQuiet_nil ?_
        rintro _ ⟨u, rfl⟩
        have B22 := Lib.hid (B21.out.trans (u.below.mono B21.out.size))
        have R22 := Lib.hid (row_keep R21.out u.below u.below.size)
        have G22 := Lib.hid (G21.out.below u.below G21.out.lt)
        clear CS21 B21 R21 G21
        generalize u.val = w22 at *
        go_wp2_with fail
        refine (CWK.out _ _ _ X HFX.out HLX.out R22.out).mono ?_
        rintro e w23 ⟨⟨ps9, v23, rfl, hown, _, _, hem⟩, hb23⟩
        obtain ⟨A23, c23, rfl, hr23⟩ := OwnRow.read (ys := ps9) (w := w22) (w' := w23) hown
        have B23 := Lib.hid (B22.out.trans (hb23.mono B22.out.size))
        have R23 := Lib.hid (row_keep R22.out hb23 hb23.size)
        have G23 := Lib.hid (G22.out.below hb23 G22.out.lt)
        have HEM := Lib.hid hem
        clear hb23 hown hr23 hem B22 R22 G22
        by_cases hz : ps9 = []
        ·have he := HEM.out hz
         have e1 : (allO X).length = 1 := by rw [only_top HFX.out he]; rfl
         have e2 := end_room HFX.out he
         rw [HLX.out] at e2
         have e3 : ps9.length = 0 := by rw [hz]; rfl
         have hdl := HDL.out
         rw [e1, e3]
         have g0 : ∀ u : Ext w23, u.val.cell? ⟨gg, 0, none⟩ = some (.int .i64 (b : Int)) := fun u => u.cell (G23.out.cell 0 rfl)
         have g5 : ∀ u : Ext w23, u.val.cell? ⟨gg, 5, none⟩ = some (.int .i64 ((dataN m : Nat) : Int)) := fun u => u.cell (G23.out.cell 5 rfl)
         have CR9 : Hid (∀ u : Ext w23, Calls Tryz.prog 18 #[.slice AX b cX] u.val fun e w' => e = .returned (.int .i64 (roomR X : Nat)) ∧ Below u.val.heap.size u.val w') := fun u => CRM.out _ _ _ X HLX.out (row_keep R23.out u.below u.below.size)
         have CC9 : Hid (∀ u : Ext w23, Calls Tryz.prog 19 #[.slice AX b cX, .int .i64 1] u.val fun e w' => e = .returned (.int .i64 (countO X 1 : Nat)) ∧ Below u.val.heap.size u.val w') := fun u => CCN.out _ _ _ X 1 HLX.out (row_keep R23.out u.below u.below.size)
         generalize roomR X = rx at *
         generalize countO X 1 = cx at *
         generalize dataN m = dm at *
         have a1 : IntKind.i64.wrap ((rx : Int) + (cx : Int)) = (rx : Int) + (cx : Int) := IntWalk.i64_in _ (by have := HB59.out; omega)
         have a2 : IntKind.i64.wrap ((b : Int) - (dm : Int)) = (rx : Int) + (cx : Int) := by
          rw [show (b : Int) - (dm : Int) = (rx : Int) + (cx : Int) by omega]; exact a1
         clear e1 e2 e3 he hz hdl
         go_wp2
         repeat (go_big_quiet_step (first
          | (go_at_call 18; with_reducible exact Ext.call (CR9.out _))
          | (go_at_call 19; with_reducible exact Ext.call (CC9.out _))))
         refine wpQuiet_nil ?_
         rintro _ ⟨u, rfl⟩
         go_wp2
         go_ret
         exact ⟨by simp, B23.out.trans (u.below.mono B23.out.size)⟩
        ·have e3 : 0 < ps9.length := List.length_pos_iff.2 hz
         have e4 : (0 : Int) < (ps9.length : Int) := by omega
         have e5 : decide ((0 : Int) < (ps9.length : Int)) = true := decide_eq_true e4
         have e6 : decide (0 < ps9.length) = true := decide_eq_true e3
         clear hz
         go_wp2
         repeat (go_big_quiet_step (fail))
         refine wpQuiet_nil ?_
         rintro _ ⟨u, rfl⟩
         go_wp2
         go_ret
         exact ⟨by simp, B23.out.trans (u.below.mono B23.out.size)⟩
end Go.Proofs.YtdldlendppkknaaGreatDoor
