/-
  ExtentReads: the walk.
-/
import Derived.Test.YtjmafegckfijbaaLawExtRe
import Derived.Test.YtjmafegckfijbaaLaidW
import Derived.Test.YtjmafegckfijbaaBytesRow
import Derived.BigQuiet
namespace Go.Proofs.Ytjmafegckfijbaa
open Go.RowKit
set_option linter.unusedVariables false
set_option linter.unusedSimpArgs false
set_option maxRecDepth 100000
theorem RowAt.int3r {w : World} {B : Nat} {A : Option Addr} (h : RowAt w B A [.int .i64 1, .int .i64 2, .int .i64 3]) : ∃ b o, A = some ⟨b, o, none⟩ ∧ b < B ∧ w.cell? ⟨b, o, none⟩ = some (.int .i64 1) ∧ w.cell? ⟨b, o + 1, none⟩ = some (.int .i64 2) ∧ w.cell? ⟨b, o + 2, none⟩ = some (.int .i64 3) := by
  obtain ⟨b, o, hA, hb, hc⟩ := h.at_ (by decide)
  exact ⟨b, o, hA, hb, hc 0 _ rfl, hc 1 _ rfl, hc 2 _ rfl⟩
/-- the row behind the loop and the copy -/
theorem reads_row {l d : List UInt8} {off j k : Nat} (hk : k = min off (l.length + j)) (hj : d ≠ [] → j = max l.length (off + d.length) - l.length) (hj0 : d = [] → j = 0) :
    (l ++ List.replicate j 0).take k ++ d ++ (l ++ List.replicate j 0).drop (k + d.length) = wrL off d l := by
  by_cases h : d = []
  · subst h
    rw [wrL_none, hj0 rfl]
    simp
  · have e : l ++ List.replicate j 0 = cutL (max l.length (off + d.length)) l := by rw [cutL_grow (Nat.le_max_left _ _), hj h]
    have hp := List.length_pos_iff.2 h
    have ek : k = off := by rw [hk, hj h]; omega
    rw [wrL_some h, e, ek]
set_option maxHeartbeats 8000000 in
theorem law_reads (A : Option Addr) (c : Nat) (l : List ActV) (p : Nat) (s : ByteArray) (w : World) (hp : p < 65536) (hl : l.length ≤ maxLen) (hd : ∀ a ∈ l, ActOk a ∧ a.data.size ≤ 140737488355328) (h : ActsAt w w.heap.size A l) :
    Calls Try.prog 14 #[.slice A l.length c, .int .u16 p, .string s] w fun e w' => e = .returned (.bool true) ∧ Below w.heap.size w w' := by
  have H0 := Lib.hid h
  have CG := Lib.hid (lgreat_any A c l w hl h)
  have CL := Lib.hid (fun w h => laid_any A c l w hl hd h)
  obtain ⟨i0, q1, q2, q3, q4⟩ := info_parts u8_info
  have I0 := Lib.hid (And.intro q1 (And.intro q2 (And.intro q3 q4)))
  clear q1 q2 q3 q4
  unfold LaidPost at CL
  have HS := Lib.hid (laidV_laid l)
  generalize laidV l = V at *
  clear h hd hl
  by_cases hg : 1000 < s.size
  · have j1 : 1000 < (s.size : Int) := by omega
    go_enter Try.func14, Try.ntmps14
    go_wp2_with fail
    refine CG.out.mono ?_
    rintro e w1 ⟨⟨bg, rfl⟩, hb1⟩
    have B1 := Lib.hid hb1
    clear hb1 CG
    cases bg with
    | true =>
      go_wp2_with fail
      refine (fixed19_any _).mono ?_
      rintro e w2 ⟨rfl, hb2⟩
      have B2 := Lib.hid (B1.out.trans (hb2.mono B1.out.size))
      clear hb2
      go_wp2
      go_ret
      exact ⟨rfl, B2.out⟩
    | false =>
      go_wp2_with fail
      refine (fixed19_any _).mono ?_
      rintro e w2 ⟨rfl, hb2⟩
      have B2 := Lib.hid (B1.out.trans (hb2.mono B1.out.size))
      clear hb2
      go_wp2
      go_ret
      exact ⟨rfl, B2.out⟩
  · have j1 : ¬ (1000 < (s.size : Int)) := by omega
    obtain ⟨off, hoff⟩ : ∃ off, p % 9000 = off := ⟨_, rfl⟩
    have a1 : IntKind.i64.wrap (p : Int) = (p : Int) := IntWalk.i64_in _ (by omega)
    have a2 : (p : Int).tmod 9000 = (off : Int) := by rw [← hoff]; rfl
    have a3 : IntKind.i64.wrap (off : Int) = (off : Int) := IntWalk.i64_in _ (by omega)
    have a4 : (p : Int) % 9000 = (off : Int) := by omega
    obtain ⟨n1, hn1⟩ : ∃ n1, off + s.size = n1 := ⟨_, rfl⟩
    have a5 : IntKind.i64.wrap ((off : Int) + (s.size : Int)) = (n1 : Int) := by
      have : IntKind.i64.wrap ((off : Int) + (s.size : Int)) = (off : Int) + (s.size : Int) := IntWalk.i64_in _ (by omega)
      rw [this]; omega
    have hal : s.data.toList.length = s.size := by rw [Array.length_toList]; rfl
    have hoff9 : off < 9000 := by omega
    have PL := reads_plain HS.out off s.data.toList
    rw [hal, hn1] at PL
    have CW1 := Lib.hid (fun A c w hr => by have := write_any A c V 2 off s w (by rw [HS.out.len]; decide) (by omega) (by omega) hr; rwa [HS.out.len] at this)
    generalize writeO V 2 off s.data.toList = r1 at *
    obtain ⟨W, cw⟩ := r1
    dsimp only at *
    have HPL := Lib.hid PL
    have HL0 := Lib.hid HS.out.len
    have HN1 := Lib.hid hn1
    clear PL hoff hal hn1
    go_enter Try.func14, Try.ntmps14
    go_wp2_with fail
    refine CG.out.mono ?_
    rintro e w1 ⟨⟨bg, rfl⟩, hb1⟩
    have B1 := Lib.hid hb1
    have H1 := Lib.hid ((H0.out.below hb1).mono hb1.size)
    clear hb1 CG
    cases bg with
    | true =>
      go_wp2_with fail
      refine (fixed19_any _).mono ?_
      rintro e w2 ⟨rfl, hb2⟩
      have B2 := Lib.hid (B1.out.trans (hb2.mono B1.out.size))
      clear hb2
      go_wp2
      go_ret
      exact ⟨rfl, B2.out⟩
    | false =>
      go_wp2_with fail
      refine (CL.out _ H1.out).mono ?_
      rintro e w2 ⟨⟨A2, c2, A3, c3, rfl, hr2, hr3⟩, hb2⟩
      have B2 := Lib.hid (B1.out.trans (hb2.mono B1.out.size))
      have R2 := Lib.hid hr2
      obtain ⟨bn, on, rfl, hbn, n1', n2, n3⟩ := hr3.int3r
      have HN : Hid (bn < w2.heap.size) := hbn
      have N1 : Hid (∀ W, Below w2.heap.size w2 W → W.cell? ⟨bn, on, none⟩ = some (.int .i64 1)) := fun W hb => (hb.cell (p := ⟨bn, _, none⟩) hbn).trans n1'
      have N2 : Hid (∀ W, Below w2.heap.size w2 W → W.cell? ⟨bn, on + 1, none⟩ = some (.int .i64 2)) := fun W hb => (hb.cell (p := ⟨bn, _, none⟩) hbn).trans n2
      have N3 : Hid (∀ W, Below w2.heap.size w2 W → W.cell? ⟨bn, on + 2, none⟩ = some (.int .i64 3)) := fun W hb => (hb.cell (p := ⟨bn, _, none⟩) hbn).trans n3
      have k2 := N2.out _ (Below.refl _ _)
      clear hb2 hr2 hr3 n1' n2 n3 hbn B1 H1 CL
      go_wp2_with fail
      refine (CW1.out _ _ _ R2.out).mono ?_
      rintro e w3 ⟨⟨v3, rfl, hn3⟩, hb3⟩
      have D3 := Lib.hid hb3
      have R3 := Lib.hid ((R2.out.below hb3).mono hb3.size)
      have NN3 := Lib.hid hn3
      clear hb3 hn3 k2 R2 CW1
      by_cases hc : cw = 0
      · subst hc
        obtain ⟨p2, p3, p4, p5, p6⟩ : n1 ≤ 8960 ∧ LaidS W ∧ wholeX W 2 = wrL off s.data.toList (wholeX V 2) ∧ wholeX W 1 = wholeX V 1 ∧ wholeX W 3 = wholeX V 3 := by
          rcases HPL.out with h | ⟨_, h | h⟩
          · exact h.2
          · cases h
          · exact absurd h.1 (by decide)
        have HLW := Lib.hid p3.len
        obtain ⟨A4, c4, rfl, hr4⟩ := NN3.out.read40 HLW.out
        have R4 := Lib.hid hr4
        have k2 := N2.out _ D3.out
        have P2 := Lib.hid p2
        have P4 := Lib.hid p4
        have P5 := Lib.hid p5
        have P6 := Lib.hid p6
        clear hr4 NN3 p2 p3 p4 p5 p6 HPL
        have CW := Lib.hid (fun A c (W : List ByteArray) (n : Nat) w (h40 : W.length = 40) hr => by have := whole19_any A c W n w (by rw [h40]; decide) hr; rwa [h40] at this)
        go_wp2_with fail
        refine (CW.out _ _ V 2 _ HL0.out R3.out).mono ?_
        rintro e w5 ⟨rfl, hb5⟩
        have D5 := Lib.hid (D3.out.trans (hb5.mono D3.out.size))
        have RV5 := Lib.hid ((R3.out.below hb5).mono hb5.size)
        have RW5 := Lib.hid ((R4.out.below hb5).mono hb5.size)
        clear hb5 k2 D3 R3 R4
        obtain ⟨s0, hs0⟩ : ∃ s0 : ByteArray, (⟨(wholeX V 2).toArray⟩ : ByteArray) = s0 := ⟨_, rfl⟩
        rw [hs0]
        have hz0 : s0.size = sizeX (getR V ((2 : Nat) : Int)) := by rw [← hs0]; show (wholeX V 2).toArray.size = _; rw [List.size_toArray, whole_len HS.out.snd mem2]
        have hz1 := sizeX_le (getR V ((2 : Nat) : Int))
        rw [← hz0] at hz1
        have ht0 : s0.data.toList = wholeX V 2 := by rw [← hs0]
        have hs0l : s0.data.toList.length = s0.size := by rw [Array.length_toList]; rfl
        rw [← ht0] at P4
        clear hz0 hs0
        obtain ⟨cap, w6, hcv, hbr, hb6, hsz6⟩ := BytesRow.of_convert (P := Try.prog) w5 9 62 5 s0 Try.underlying9 Try.underlying62 Try.underlying5 (by unfold maxLen; omega)
        have BR := Lib.hid hbr
        have HB6 := Lib.hid hb6
        have HZ6 := Lib.hid hsz6
        have HS0 := Lib.hid hs0l
        have HZ1 := Lib.hid hz1
        have HT0 := Lib.hid ht0
        clear hbr hb6 hsz6 hs0l ht0 hz1
        go_wp2
        have B6 := Lib.hid (B2.out.trans ((D5.out.trans (HB6.out.mono D5.out.size)).mono B2.out.size))
        go_loopw [12] (fun v wr => ∃ (j g cap : Nat) (L : List UInt8), v = .slice (some ⟨g, 0, none⟩) L.length cap ∧ Hid (L = s0.data.toList ++ List.replicate j 0) ∧ Hid (BytesRow wr w5.heap.size g cap L) ∧ Hid (j = 0 ∨ 0 < s.size ∧ L.length ≤ n1) ∧ Hid (Below w5.heap.size w6 wr)) (fun v _ => match v with | .slice _ n _ => n1 - n | _ => 0)
        case atStart =>
          exact ⟨0, _, cap, s0.data.toList, by rw [HS0.out], Lib.hid (by simp), BR, Lib.hid (.inl rfl), Lib.hid (Below.refl _ _)⟩
        case round =>
          clear BR
          obtain ⟨j, g, capj, L, rfl, HL, BRj, HJ, BB⟩ := hrel
          by_cases hcont : 0 < s.size ∧ L.length < n1
          · have z1 : (0 : Int) < (s.size : Int) := by omega
            have z2 : (L.length : Int) < (n1 : Int) := by omega
            have hn1 := HN1.out
            have hlm : L.length + 1 ≤ 140737488355328 := by omega
            have BRa := Lib.hid (BRj.out.below ((Below.refl _ _).alloc (Nat.le_refl _) (.cells #[.int .u8 0] 5)))
            have HC : Hid ((wr.alloc (.cells #[.int .u8 0] 5)).cell? ⟨wr.heap.size, 0, none⟩ = some (.int .u8 ((0 : UInt8).toNat : Int))) := (Blk.new wr _ _).cell 0 rfl
            have HW : Hid (w5.heap.size ≤ (wr.alloc (.cells #[.int .u8 0] 5)).heap.size) := by
              have h1 := BB.out.size
              have h2 := HZ6.out
              show _ ≤ _
              simp
              omega
            clear hn1
            go_wp2_with (at_builtin; refine wpList_bytes_push _ rfl (.tmp 83) (.tmp 84) 62 rfl 5 i0 Try.underlying62 I0.out.1 I0.out.2.1 I0.out.2.2.1 I0.out.2.2.2 w5.heap.size g capj L rfl BRa.out ⟨wr.heap.size, 0, none⟩ 1 0 rfl HC.out hlm HW.out ?_; intro g9 cap9 w9 own hb9)
            have BR9 := Lib.hid own
            have HB9 := Lib.hid hb9
            clear own hb9
            go_roundw
            case rel =>
              refine ⟨j + 1, g9, cap9, L ++ [0], by rw [List.length_append]; rfl, Lib.hid ?_, BR9, Lib.hid (.inr ⟨hcont.1, ?_⟩), Lib.hid ?_⟩
              · rw [HL.out, List.append_assoc]
                congr 1
                exact (List.replicate_succ' (n := j) (a := (0 : UInt8))).symm
              · rw [List.length_append]; show L.length + 1 ≤ n1; omega
              · exact (BB.out.trans (((Below.refl _ _).alloc (Nat.le_refl _) _).mono (by have := HZ6.out; have := BB.out.size; omega))).trans HB9.out
            case measure => simp; omega
          · have hx : L.length = s0.size + j := by rw [HL.out, List.length_append, List.length_replicate, HS0.out]
            obtain ⟨k, hk⟩ : ∃ k, min off L.length = k := ⟨_, rfl⟩
            have hkl : k ≤ L.length := by omega
            have hks : k + s.size ≤ L.length := by have := HN1.out; omega
            obtain ⟨L2, hL2⟩ : ∃ L2, L.take k ++ s.data.toList ++ L.drop (k + s.size) = L2 := ⟨_, rfl⟩
            have hrow : L2 = wrL off s.data.toList s0.data.toList := by
              have hsl : s.data.toList.length = s.size := by rw [Array.length_toList]; rfl
              have h1 := HN1.out
              have h2 := HS0.out
              have h3 := HJ.out
              have hd0 : s.data.toList = [] ↔ s.size = 0 := by rw [← hsl, List.length_eq_zero_iff]
              rw [← hL2, HL.out, ← hsl]
              refine reads_row (by omega) (fun hd => ?_) (fun hd => ?_)
              · have : s.size ≠ 0 := fun e => hd (hd0.2 e)
                omega
              · have := hd0.1 hd
                omega
            obtain ⟨hcp, hbr⟩ := BytesRow.copy (P := Try.prog) BRj.out 62 9 3 5 k s Try.underlying62 (by intro w; kernel_rfl) hks
            rw [hL2] at hbr
            have BRc := Lib.hid hbr
            have BBc := Lib.hid (BB.out.trans (below_set BRj.out.base (s.data.toList.map fun x => Value.int .u8 (x.toNat : Int)) k (Below.refl w5.heap.size wr)))
            have HROW := Lib.hid hrow
            have hcp0 : k = capj → s.size = 0 → (Builtin.copy_ #[62, 9] 3 #[.slice (some ⟨g, 0, none⟩) (L.length - k) 0, .string s]).run Try.prog wr = .ok (goInt s.size) (wr.setCells g k (s.data.toList.map fun x => Value.int .u8 (x.toNat : Int))) := by
              intro h1 h2
              have hsl : s.data.toList = [] := by
                have : s.data.toList.length = s.size := by rw [Array.length_toList]; rfl
                rw [h2] at this; exact List.length_eq_zero_iff.1 this
              have := run_copy_string (P := Try.prog) wr 62 9 3 5 g 0 (L.length - k) 0 s Try.underlying62 (by intro w; kernel_rfl) (by omega) (fun j hj => by omega) (fun j hj => by omega)
              rw [this, hsl]; rfl
            have hL2l : L2.length = L.length := by
              have hsl : s.data.toList.length = s.size := by rw [Array.length_toList]; rfl
              rw [← hL2, List.length_append, List.length_append, List.length_take, List.length_drop, hsl]; omega
            have hle := BRj.out.le
            generalize hw7 : wr.setCells g k (s.data.toList.map fun x => Value.int .u8 (x.toNat : Int)) = w7 at *
            have b1 : min (off : Int) (L.length : Int) = (k : Int) := by omega
            have b2 : (0 : Int) ≤ (k : Int) := by omega
            have b3 : (k : Int) ≤ (L.length : Int) := by omega
            have hcs : ((¬ (0 : Int) < (s.size : Int)) ∧ ¬ k = capj) ∨ ((0 : Int) < (s.size : Int) ∧ ¬ (L.length : Int) < (n1 : Int) ∧ ¬ k = capj) ∨ (¬ (0 : Int) < (s.size : Int)) ∧ k = capj ∧ s.size = 0 := by omega
            have hD7 : Below w5.heap.size w5 w7 := HB6.out.trans BBc.out
            have RV7 := Lib.hid ((RV5.out.below hD7).mono hD7.size)
            have RW7 := Lib.hid ((RW5.out.below hD7).mono hD7.size)
            have D7 := Lib.hid (D5.out.trans (hD7.mono D5.out.size))
            obtain ⟨s1, hs1⟩ : ∃ s1 : ByteArray, (⟨(wrL off s.data.toList s0.data.toList).toArray⟩ : ByteArray) = s1 := ⟨_, rfl⟩
            have CA := Lib.hid (fun w h => CW.out A4 c4 W 2 w HLW.out h)
            rw [P4.out, hs1] at CA
            have hcv9 := fun u : Ext w7 => BytesRow.back (P := Try.prog) (BRc.out.below u.below) 62 9 5 Try.underlying62 Try.underlying5 Try.underlying9
            rw [hL2l, hrow, hs1] at hcv9
            have CW1 := Lib.hid (fun w h => CW.out A4 c4 W 1 w HLW.out h)
            have CW3 := Lib.hid (fun w h => CW.out A4 c4 W 3 w HLW.out h)
            have CV1 := Lib.hid (fun w h => CW.out A2 c2 V 1 w HL0.out h)
            have CV3 := Lib.hid (fun w h => CW.out A2 c2 V 3 w HL0.out h)
            rw [P5.out] at CW1
            rw [P6.out] at CW3
            obtain ⟨s3, hs3⟩ : ∃ s3 : ByteArray, (⟨(wholeX V 1).toArray⟩ : ByteArray) = s3 := ⟨_, rfl⟩
            obtain ⟨s4, hs4⟩ : ∃ s4 : ByteArray, (⟨(wholeX V 3).toArray⟩ : ByteArray) = s4 := ⟨_, rfl⟩
            rw [hs3] at CW1 CV1
            rw [hs4] at CW3 CV3
            have k1 : ∀ u : Ext w7, u.val.cell? ⟨bn, on, none⟩ = some (.int .i64 1) := fun u => N1.out _ (D7.out.trans (u.below.mono D7.out.size))
            have k2 : ∀ u : Ext w7, u.val.cell? ⟨bn, on + 1, none⟩ = some (.int .i64 2) := fun u => N2.out _ (D7.out.trans (u.below.mono D7.out.size))
            have k3 : ∀ u : Ext w7, u.val.cell? ⟨bn, on + 2, none⟩ = some (.int .i64 3) := fun u => N3.out _ (D7.out.trans (u.below.mono D7.out.size))
            have Q2 : Hid (∀ u : Ext w7, Calls Try.prog 50 #[.slice A4 40 c4, .int .i64 2] u.val fun e w' => e = .returned (.string s1) ∧ Below u.val.heap.size u.val w') := fun u => CA.out _ (RW7.out.ext u)
            have Q3 : Hid (∀ u : Ext w7, Calls Try.prog 50 #[.slice A4 40 c4, .int .i64 1] u.val fun e w' => e = .returned (.string s3) ∧ Below u.val.heap.size u.val w') := fun u => CW1.out _ (RW7.out.ext u)
            have Q4 : Hid (∀ u : Ext w7, Calls Try.prog 50 #[.slice A2 40 c2, .int .i64 1] u.val fun e w' => e = .returned (.string s3) ∧ Below u.val.heap.size u.val w') := fun u => CV1.out _ (RV7.out.ext u)
            have Q5 : Hid (∀ u : Ext w7, Calls Try.prog 50 #[.slice A4 40 c4, .int .i64 3] u.val fun e w' => e = .returned (.string s4) ∧ Below u.val.heap.size u.val w') := fun u => CW3.out _ (RW7.out.ext u)
            have Q6 : Hid (∀ u : Ext w7, Calls Try.prog 50 #[.slice A2 40 c2, .int .i64 3] u.val fun e w' => e = .returned (.string s4) ∧ Below u.val.heap.size u.val w') := fun u => CV3.out _ (RV7.out.ext u)
            have BW := Lib.hid (B2.out.trans (D7.out.mono B2.out.size))
            clear CA CW1 CW3 CV1 CV3 CW N1 N2 N3 P2 P4 P5 P6 hs1 hs3 hs4 RV7 RW7 RV5 RW5 D5 HB6 BBc BRc HROW B6 HZ6 HS0 HZ1 HT0 hL2l hle hD7 HL0 HLW HN1 I0
            clear hw7 hbr hx hk hL2 hrow HL HJ hcont hks hkl BRj BB
            rcases hcs with ⟨z1, z3⟩ | ⟨z1, z2, z3⟩ | ⟨z1, z3, z4⟩
            · clear hcp0
              go_wp2
              refine wp_region_ext (by kernel_rfl) (by kernel_rfl) ?_
              repeat (go_big_quiet_step (first
                | (go_at_call 17; with_reducible exact Ext.call (fixed19_any _))
                | (go_at_call 50; with_reducible exact Ext.call (Q2.out _))
                | (go_at_call 50; with_reducible exact Ext.call (Q3.out _))
                | (go_at_call 50; with_reducible exact Ext.call (Q4.out _))
                | (go_at_call 50; with_reducible exact Ext.call (Q5.out _))
                | (go_at_call 50; with_reducible exact Ext.call (Q6.out _))))
              refine wpQuiet_nil ?_
              rintro _ ⟨u, rfl⟩
              go_wp2
              go_ret
              exact ⟨by simp, BW.out.trans (u.below.mono BW.out.size)⟩
            · clear hcp0
              go_wp2
              refine wp_region_ext (by kernel_rfl) (by kernel_rfl) ?_
              repeat (go_big_quiet_step (first
                | (go_at_call 17; with_reducible exact Ext.call (fixed19_any _))
                | (go_at_call 50; with_reducible exact Ext.call (Q2.out _))
                | (go_at_call 50; with_reducible exact Ext.call (Q3.out _))
                | (go_at_call 50; with_reducible exact Ext.call (Q4.out _))
                | (go_at_call 50; with_reducible exact Ext.call (Q5.out _))
                | (go_at_call 50; with_reducible exact Ext.call (Q6.out _))))
              refine wpQuiet_nil ?_
              rintro _ ⟨u, rfl⟩
              go_wp2
              go_ret
              exact ⟨by simp, BW.out.trans (u.below.mono BW.out.size)⟩
            · have hcp1 := hcp0 z3 z4
              clear hcp hcp0 z4
              subst z3
              go_wp2
              refine wp_region_ext (by kernel_rfl) (by kernel_rfl) ?_
              repeat (go_big_quiet_step (first
                | (go_at_call 17; with_reducible exact Ext.call (fixed19_any _))
                | (go_at_call 50; with_reducible exact Ext.call (Q2.out _))
                | (go_at_call 50; with_reducible exact Ext.call (Q3.out _))
                | (go_at_call 50; with_reducible exact Ext.call (Q4.out _))
                | (go_at_call 50; with_reducible exact Ext.call (Q5.out _))
                | (go_at_call 50; with_reducible exact Ext.call (Q6.out _))))
              refine wpQuiet_nil ?_
              rintro _ ⟨u, rfl⟩
              go_wp2
              go_ret
              exact ⟨by simp, BW.out.trans (u.below.mono BW.out.size)⟩
      · have hPL : W = [] ∧ (cw = 10 ∨ cw = 6 ∧ 8960 < n1) := by
          rcases HPL.out with h | h
          · exact absurd h.1 hc
          · exact h
        clear HPL
        obtain ⟨rfl, hcode⟩ := hPL
        obtain ⟨A4, c4, rfl, hr4⟩ := NN3.out.read
        clear hr4 NN3
        rcases hcode with rfl | ⟨rfl, hn9⟩
        · go_wp2_with fail
          refine (fixed19_any _).mono ?_
          rintro e w4 ⟨rfl, hb4⟩
          have D4 := Lib.hid (D3.out.trans (hb4.mono D3.out.size))
          clear hb4
          go_wp2
          go_ret
          exact ⟨rfl, B2.out.trans (D4.out.mono B2.out.size)⟩
        · have hn9' : (8960 : Int) < (n1 : Int) := by omega
          go_wp2_with fail
          refine (fixed19_any _).mono ?_
          rintro e w4 ⟨rfl, hb4⟩
          have D4 := Lib.hid (D3.out.trans (hb4.mono D3.out.size))
          clear hb4
          go_wp2
          go_ret
          exact ⟨by simp [hn9'], B2.out.trans (D4.out.mono B2.out.size)⟩
end Go.Proofs.Ytjmafegckfijbaa
