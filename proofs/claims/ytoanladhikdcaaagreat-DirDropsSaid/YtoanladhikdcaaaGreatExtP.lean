/-
  What the method place of an open file does.
-/
import Derived.Test.YtoanladhikdcaaaGreatExtC
namespace Go.Proofs.YtoanladhikdcaaaGreat
open Go.RowKit
set_option linter.unusedVariables false
set_option linter.unusedSimpArgs false
set_option maxRecDepth 100000
/-- what place hands back -/
def PlaPost (B g m n : Nat) (w : World) (o : Option ((List ByteArray × List Nat) × Nat)) (e : Ending) (w' : World) : Prop := Below B w w' ∧ match o with
  | none => e = .returned (.tuple #[.int .i64 0, .int .i64 10])
  | some r => e = .returned (.tuple #[.int .i64 (r.2 : Int), .int .i64 0]) ∧ FileX B w' g m n r.1.1 r.1.2
section
variable {B : Nat} {g m n : Nat} {V : List ByteArray} {l : List Nat}
set_option maxHeartbeats 4000000 in
theorem place_file (k : Nat) (w : World) (hk : k < 70) (h : FileX B w g m n V l) :
    Calls Tryz.prog 36 #[.pointer (some ⟨g, 0, none⟩), .int .i64 k] w (PlaPost B g m n w (plaG (putK n) V m l k)) := by
  have hz := h.base
  have HX0 := Lib.hid h
  have CA := Lib.hid (at_any k w hk h)
  clear h
  by_cases h0 : atX V m l k = 0
  · have HP0 : Hid (plaG (putK n) V m l k = (indG (putK n) V m l k).bind fun s => (takX s.1 m).map fun r => (nameG (putK n) r.1 m s.2 k r.2, r.2)) := by show _ = _; unfold plaG; rw [if_neg (by simpa using h0)]
    rw [h0] at CA
    clear h0
    have hI : ∃ i, l.getD 10 0 = i := ⟨_, rfl⟩
    obtain ⟨i, hi⟩ := hI
    have HI := Lib.hid hi
    clear hi
    go_enter Tryz.func36, Tryz.ntmps36
    go_wp2_with fail
    refine CA.out.mono ?_
    rintro e w1 ⟨rfl, hb1⟩
    unfold atI
    rw [if_pos rfl]
    have HX := Lib.hid (HX0.out.below hb1)
    have BW := Lib.hid (hb1.mono hz)
    clear hb1 CA HX0
    by_cases h6 : k < 6
    · have k1 : ¬ (6 : Int) ≤ (k : Int) := by omega
      have HP : Hid (plaG (putK n) V m l k = (takX V m).map fun r => (nameG (putK n) r.1 m l k r.2, r.2)) := by
        show _ = _
        rw [HP0.out]
        unfold indG
        rw [if_pos (Or.inl h6)]; rfl
      clear HP0 h6
      unfold PlaPost
      cases ht : takX V m with
      | none =>
        have CT : Hid (∀ w, FileX B w g m n V l → Calls Tryz.prog 69 #[.pointer (some ⟨g, 0, none⟩)] w fun e w' => Below B w w' ∧ e = .returned (.tuple #[.int .i64 0, .int .i64 10])) := fun w h => by
          have := take_file w h.base h
          rw [ht] at this
          exact this
        rw [ht] at HP
        clear ht
        go_wp2_with fail
        refine (CT.out _ HX.out).mono ?_
        rintro e w2 ⟨hb2, rfl⟩
        have B2 := Lib.hid (BW.out.trans hb2)
        clear hb2 CT
        go_wp2
        go_ret2
        rw [HP.out]
        exact ⟨B2.out, rfl⟩
      | some r =>
        have CT : Hid (∀ w, FileX B w g m n V l → Calls Tryz.prog 69 #[.pointer (some ⟨g, 0, none⟩)] w fun e w' => Below B w w' ∧ e = .returned (.tuple #[.int .i64 (r.2 : Int), .int .i64 0]) ∧ FileX B w' g m n r.1 l) := fun w h => by
          have := take_file w h.base h
          rw [ht] at this
          exact this
        have HD : Hid (r.2 < 65536) := by
          obtain ⟨_, _, c, _⟩ := takX_ok HX.out.ok.1.vol ht
          have h1 := (datB_iff.1 c).2
          have h2 := HX.out.ok.1.vol.len
          show r.2 < 65536
          omega
        rw [ht] at HP
        clear ht
        obtain ⟨rv, rb⟩ := r
        go_wp2_with fail
        refine (CT.out _ HX.out).mono ?_
        rintro e w2 ⟨hb2, rfl, hf⟩
        have H2 := Lib.hid hf
        have B2 := Lib.hid (BW.out.trans hb2)
        clear hb2 hf CT
        go_wp2_with fail
        refine (name_any k rb _ hk HD.out H2.out).mono ?_
        rintro e w3 ⟨rfl, hf, hb3⟩
        have H3 := Lib.hid hf
        have B3 := Lib.hid (B2.out.trans hb3)
        clear hf hb3
        go_wp2
        go_ret2
        rw [HP.out]
        exact ⟨B3.out, rfl, H3.out⟩
    · have k1 : (6 : Int) ≤ (k : Int) := by omega
      have c18 : w1.cell? ⟨g, 18, none⟩ = some (.int .i64 (i : Int)) := by
        obtain ⟨gv, c, h⟩ := HX.out
        have := h.ino 10 (by omega)
        rw [HI.out] at this
        exact this
      cases hd : datB V m i with
      | true =>
        have HP : Hid (plaG (putK n) V m l k = (takX V m).map fun r => (nameG (putK n) r.1 m l k r.2, r.2)) := by
          show _ = _
          rw [HP0.out]
          unfold indG
          rw [HI.out, if_pos (Or.inr hd)]; rfl
        clear HP0 h6
        go_wp2_with fail
        refine (is_any i _ HX.out).mono ?_
        rw [hd]
        rintro e w' ⟨rfl, rfl⟩
        clear hd c18
        unfold PlaPost
        cases ht : takX V m with
        | none =>
          have CT : Hid (∀ w, FileX B w g m n V l → Calls Tryz.prog 69 #[.pointer (some ⟨g, 0, none⟩)] w fun e w' => Below B w w' ∧ e = .returned (.tuple #[.int .i64 0, .int .i64 10])) := fun w h => by
            have := take_file w h.base h
            rw [ht] at this
            exact this
          rw [ht] at HP
          clear ht
          go_wp2_with fail
          refine (CT.out _ HX.out).mono ?_
          rintro e w2 ⟨hb2, rfl⟩
          have B2 := Lib.hid (BW.out.trans hb2)
          clear hb2 CT
          go_wp2
          go_ret2
          rw [HP.out]
          exact ⟨B2.out, rfl⟩
        | some r =>
          have CT : Hid (∀ w, FileX B w g m n V l → Calls Tryz.prog 69 #[.pointer (some ⟨g, 0, none⟩)] w fun e w' => Below B w w' ∧ e = .returned (.tuple #[.int .i64 (r.2 : Int), .int .i64 0]) ∧ FileX B w' g m n r.1 l) := fun w h => by
            have := take_file w h.base h
            rw [ht] at this
            exact this
          have HD : Hid (r.2 < 65536) := by
            obtain ⟨_, _, c, _⟩ := takX_ok HX.out.ok.1.vol ht
            have h1 := (datB_iff.1 c).2
            have h2 := HX.out.ok.1.vol.len
            show r.2 < 65536
            omega
          rw [ht] at HP
          clear ht
          obtain ⟨rv, rb⟩ := r
          go_wp2_with fail
          refine (CT.out _ HX.out).mono ?_
          rintro e w2 ⟨hb2, rfl, hf⟩
          have H2 := Lib.hid hf
          have B2 := Lib.hid (BW.out.trans hb2)
          clear hb2 hf CT
          go_wp2_with fail
          refine (name_any k rb _ hk HD.out H2.out).mono ?_
          rintro e w3 ⟨rfl, hf, hb3⟩
          have H3 := Lib.hid hf
          have B3 := Lib.hid (B2.out.trans hb3)
          clear hf hb3
          go_wp2
          go_ret2
          rw [HP.out]
          exact ⟨B3.out, rfl, H3.out⟩
      | false =>
        have HP1 : Hid (plaG (putK n) V m l k = ((takX V m).map fun r => ((putV r.1 n (l.set 10 r.2), l.set 10 r.2) : List ByteArray × List Nat)).bind fun s => (takX s.1 m).map fun r => (nameG (putK n) r.1 m s.2 k r.2, r.2)) := by
          show _ = _
          rw [HP0.out]
          unfold indG
          rw [HI.out, if_neg (by rw [hd]; simp; omega)]; rfl
        clear HP0
        go_wp2_with fail
        refine (is_any i _ HX.out).mono ?_
        rw [hd]
        rintro e w' ⟨rfl, rfl⟩
        clear hd c18
        cases ht0 : takX V m with
        | none =>
          have CT : Hid (∀ w, FileX B w g m n V l → Calls Tryz.prog 69 #[.pointer (some ⟨g, 0, none⟩)] w fun e w' => Below B w w' ∧ e = .returned (.tuple #[.int .i64 0, .int .i64 10])) := fun w h => by
            have := take_file w h.base h
            rw [ht0] at this
            exact this
          rw [ht0] at HP1
          clear ht0
          go_wp2_with fail
          refine (CT.out _ HX.out).mono ?_
          rintro e w2 ⟨hb2, rfl⟩
          have B2 := Lib.hid (BW.out.trans hb2)
          clear hb2 CT
          go_wp2
          go_ret2
          unfold PlaPost
          rw [HP1.out]
          exact ⟨B2.out, rfl⟩
        | some r0 =>
          have CT0 : Hid (∀ w, FileX B w g m n V l → Calls Tryz.prog 69 #[.pointer (some ⟨g, 0, none⟩)] w fun e w' => Below B w w' ∧ e = .returned (.tuple #[.int .i64 (r0.2 : Int), .int .i64 0]) ∧ FileX B w' g m n r0.1 l) := fun w h => by
            have := take_file w h.base h
            rw [ht0] at this
            exact this
          have HD0 : Hid (r0.2 < 65536) := by
            obtain ⟨_, _, c, _⟩ := takX_ok HX.out.ok.1.vol ht0
            have h1 := (datB_iff.1 c).2
            have h2 := HX.out.ok.1.vol.len
            show r0.2 < 65536
            omega
          rw [ht0] at HP1
          clear ht0
          obtain ⟨rv0, rb0⟩ := r0
          have HP : Hid (plaG (putK n) V m l k = (takX (putV rv0 n (l.set 10 rb0)) m).map fun r => (nameG (putK n) r.1 m (l.set 10 rb0) k r.2, r.2)) := HP1.out
          clear HP1
          go_wp2_with fail
          refine (CT0.out _ HX.out).mono ?_
          rintro e w2 ⟨hb2, rfl, hf⟩
          have BW2 := Lib.hid (BW.out.trans hb2)
          obtain ⟨gv, c, hF⟩ := hf
          have hcell : w2.cell? ⟨g, 18, none⟩ = some (.int .i64 ((l.getD 10 0 : Nat) : Int)) := hF.ino 10 (by omega)
          have hfz : w2.frozen? ⟨g, 18, none⟩ = false := hF.blk.frozen _
          have HX3 : Hid (FileX B (w2.setCell ⟨g, 18, none⟩ (.int .i64 (rb0 : Int))) g m n rv0 (l.set 10 rb0)) := ⟨gv, c, hF.put 10 rb0 (hF.fit.ind HD0.out)⟩
          have BW3 : Hid (Below B w (w2.setCell ⟨g, 18, none⟩ (.int .i64 (rb0 : Int)))) := BW2.out.setCell hF.low _
          clear hb2 hF CT0 HX BW BW2
          generalize l.getD 10 0 = iv at hcell
          go_wp2_with fail
          refine (keep_any _ HX3.out.base HX3.out).mono ?_
          rintro e w4 ⟨rfl, hf, hb4⟩
          have HX := Lib.hid hf
          have BW := Lib.hid (BW3.out.trans hb4)
          clear hf hb4 HX3 BW3 hcell hfz
          unfold PlaPost
          cases ht : takX (putV rv0 n (l.set 10 rb0)) m with
          | none =>
            have CT : Hid (∀ w, FileX B w g m n (putV rv0 n (l.set 10 rb0)) (l.set 10 rb0) → Calls Tryz.prog 69 #[.pointer (some ⟨g, 0, none⟩)] w fun e w' => Below B w w' ∧ e = .returned (.tuple #[.int .i64 0, .int .i64 10])) := fun w h => by
              have := take_file w h.base h
              rw [ht] at this
              exact this
            rw [ht] at HP
            clear ht
            go_wp2_with fail
            refine (CT.out _ HX.out).mono ?_
            rintro e w2 ⟨hb2, rfl⟩
            have B2 := Lib.hid (BW.out.trans hb2)
            clear hb2 CT
            go_wp2
            go_ret2
            rw [HP.out]
            exact ⟨B2.out, rfl⟩
          | some r =>
            have CT : Hid (∀ w, FileX B w g m n (putV rv0 n (l.set 10 rb0)) (l.set 10 rb0) → Calls Tryz.prog 69 #[.pointer (some ⟨g, 0, none⟩)] w fun e w' => Below B w w' ∧ e = .returned (.tuple #[.int .i64 (r.2 : Int), .int .i64 0]) ∧ FileX B w' g m n r.1 (l.set 10 rb0)) := fun w h => by
              have := take_file w h.base h
              rw [ht] at this
              exact this
            have HD : Hid (r.2 < 65536) := by
              obtain ⟨_, _, c, _⟩ := takX_ok HX.out.ok.1.vol ht
              have h1 := (datB_iff.1 c).2
              have h2 := HX.out.ok.1.vol.len
              show r.2 < 65536
              omega
            rw [ht] at HP
            clear ht
            obtain ⟨rv, rb⟩ := r
            go_wp2_with fail
            refine (CT.out _ HX.out).mono ?_
            rintro e w2 ⟨hb2, rfl, hf⟩
            have H2 := Lib.hid hf
            have B2 := Lib.hid (BW.out.trans hb2)
            clear hb2 hf CT
            go_wp2_with fail
            refine (name_any k rb _ hk HD.out H2.out).mono ?_
            rintro e w3 ⟨rfl, hf, hb3⟩
            have H3 := Lib.hid hf
            have B3 := Lib.hid (B2.out.trans hb3)
            clear hf hb3
            go_wp2
            go_ret2
            rw [HP.out]
            exact ⟨B3.out, rfl, H3.out⟩
  · have HP : Hid (plaG (putK n) V m l k = some ((V, l), atX V m l k)) := by show _ = _; unfold plaG; rw [if_pos h0]
    have hne : (((atX V m l k : Nat) : Int) != -1) = true := by simp
    have HA : Hid (atI (atX V m l k) = (atX V m l k : Nat)) := by show _ = _; unfold atI; rw [if_neg h0]
    rw [HA.out] at CA
    rw [HP.out]
    generalize atX V m l k = a at *
    clear h0
    go_enter Tryz.func36, Tryz.ntmps36
    go_wp2_with fail
    refine CA.out.mono ?_
    rintro e w1 ⟨rfl, hb1⟩
    have HX := Lib.hid (HX0.out.below hb1)
    have BW := Lib.hid (hb1.mono hz)
    clear hb1 CA
    go_wp2
    go_ret2
    unfold PlaPost
    exact ⟨BW.out, rfl, HX.out⟩
end
end Go.Proofs.YtoanladhikdcaaaGreat
