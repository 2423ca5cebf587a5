/-
  Joined in one text: Top20Pl, Top20, RDirA, LawDirMays.
-/
import Derived.Test.YtoanladhikdcaaaDirSt
import Derived.Test.YtoanladhikdcaaaInoC
import Derived.Test.YtoanladhikdcaaaDirF
import Derived.Test.YtoanladhikdcaaaGeomF
import Derived.Test.YtoanladhikdcaaaDirA
namespace Go.Proofs.Ytoanladhikdcaaa
set_option linter.unusedVariables false
set_option linter.unusedSimpArgs false
set_option maxRecDepth 100000
theorem new_slot0 (xs : List ByteArray) (m kind owner s : Nat) : slotX xs m (newL kind owner) s = 0 := by
  have h10 : (newL kind owner).getD 10 0 = 0 := rfl
  have h70 : slotX xs m (newL kind owner) 70 = 0 := by rw [slotX_ind, h10]; split <;> rfl
  by_cases hs : s < 70
  · rw [slotX_lt hs]
    by_cases h6 : s < 6
    · rw [at_low h6]
      have : (newL kind owner).getD (4 + s) 0 = 0 := by
        have key : s = 0 ∨ s = 1 ∨ s = 2 ∨ s = 3 ∨ s = 4 ∨ s = 5 := by omega
        rcases key with rfl | rfl | rfl | rfl | rfl | rfl <;> rfl
      rw [this]; split <;> rfl
    · exact at_hi0 (by omega) h70
  · unfold slotX
    rw [if_neg hs, h10]; split <;> rfl
/-- what an add does to a directory -/
theorem DirS.add {V : List ByteArray} {m n : Nat} {E : List EntV} (h : DirS V m n E) {nm : ByteArray} {ino : Int} (hk : okE ⟨nm, ino⟩ = true) (hh : hasE E nm = false) :
    addO V (n : Int) nm ino = writeO V (n : Int) 0 (bytesE (insE E ⟨nm, ino⟩)) ∧
    ((addO V (n : Int) nm ino).2 = 0 ∧ (∃ r, WroS m 0 (bytesE (insE E ⟨nm, ino⟩)) V (getR V (n : Int)) r ∧ (addO V (n : Int) nm ino).1 = putV r.1 n r.2) ∧ DirS (addO V (n : Int) nm ino).1 m n (insE E ⟨nm, ino⟩)
    ∨ (addO V (n : Int) nm ino).1 = [] ∧ ((addO V (n : Int) nm ino).2 = 6 ∧ 8960 < (bytesE (insE E ⟨nm, ino⟩)).length ∨ (addO V (n : Int) nm ino).2 = 10 ∧ wriG noK V m (getR V (n : Int)) 0 (bytesE (insE E ⟨nm, ino⟩)) = Option.none)) := by
  obtain ⟨hm, _, _, h1, h2⟩ := okE_ok hk
  have hl := h.list
  have e : addO V (n : Int) nm ino = writeO V (n : Int) 0 (bytesE (insE E ⟨nm, ino⟩)) := by
    unfold addO
    rw [if_neg (by rw [hm]; simp), if_neg (by dsimp only at h1 h2; omega), hl]
    dsimp only
    rw [if_neg (by simp), if_neg (by rw [hh]; simp)]
  refine ⟨e, ?_⟩
  rw [e]
  have hlen := insE_len E ⟨nm, ino⟩
  exact h.more (insE_valid h.valid hk hh) (by omega) (by omega)
def tpV : List ByteArray := putV (fmtV 24 8) 1 (newL 2 0)
theorem tp_plan : planE (24 : Nat) (8 : Nat) = 0 := by decide
theorem tp_free : freeI (fmtV 24 8) 8 = some 1 := by kernel_rfl
theorem tp_new : newO (fmtV 24 8) 2 0 = (tpV, 1, 0) := by
  unfold newO
  rw [ofR_some.2 (fmtV_vol tp_plan)]
  dsimp only
  rw [if_neg (by decide), tp_free]
  rfl
theorem tp_vol : IsVol tpV 8 := (fmtV_vol tp_plan).putI (by decide) (by decide) _
theorem tp_get : getR tpV ((1 : Nat) : Int) = newL 2 0 := get_put_same (fmtV_vol tp_plan) (n := 1) (by decide) (by decide) (newL_fit (by decide) (by decide))
theorem tp_dir : DirS tpV 8 1 [] := by
  have hs := new_slot0 tpV 8 2 0
  refine ⟨⟨by decide, by decide, ?_, ?_, ?_, ?_, fun i hi => absurd hi (by simp)⟩, ⟨fun x hx => by simp at hx, List.Pairwise.nil⟩⟩
  · rw [tp_get]; exact ⟨tp_vol, rfl, newL_fit (by decide) (by decide)⟩
  · rw [tp_get]; exact ⟨fun s _ h0 => absurd (hs s) h0, fun s t _ _ _ h0 => absurd (hs s) h0⟩
  · rw [tp_get]; rfl
  · rw [tp_get]; rfl
def aX : EntV := ⟨⟨#[97]⟩, 3⟩
def awV : List ByteArray := (addO tpV 1 ⟨#[97]⟩ 3).1
theorem aw_some : (wriG noK tpV 8 (newL 2 0) 0 (bytesE (insE [] aX))).isSome = true := by kernel_rfl
theorem aw_ok : okE aX = true := by kernel_rfl
theorem aw_add : addO tpV 1 ⟨#[97]⟩ 3 = (awV, 0) ∧ DirS awV 8 1 [aX] := by
  have h := (tp_dir.add (nm := ⟨#[97]⟩) (ino := 3) aw_ok rfl).2
  rcases h with ⟨h1, _, h3⟩ | ⟨_, h | h⟩
  · refine ⟨?_, h3⟩
    show addO tpV 1 ⟨#[97]⟩ 3 = (awV, 0)
    rw [← h1]; rfl
  · have hb : (bytesE (insE [] ⟨⟨#[97]⟩, 3⟩)).length = 32 := by kernel_rfl
    rw [hb] at h
    exact absurd h.2 (by decide)
  · have h2 := h.2
    rw [tp_get] at h2
    have := aw_some
    unfold aX at this
    rw [h2] at this
    cases this
theorem aw_get : inoE awV 1 = 0 ∧ (getR awV 1).getD 3 0 = 32 := by
  have h := aw_add.2.file
  refine ⟨inoE_zero h.ok.vol h.num1 h.num2, ?_⟩
  have hs : sizeX (getR awV ((1 : Nat) : Int)) = 32 := h.size
  unfold sizeX at hs
  show (getR awV ((1 : Nat) : Int)).getD 3 0 = 32
  omega
end Go.Proofs.Ytoanladhikdcaaa

namespace Go.Proofs.Ytoanladhikdcaaa
open Go.RowKit
set_option linter.unusedVariables false
set_option linter.unusedSimpArgs false
set_option maxRecDepth 100000
set_option maxHeartbeats 4000000 in
theorem top_any (w : World) : Calls Try.prog 16 #[] w fun e w' => (∃ v, e = .returned (.tuple #[v, .bool true]) ∧ OwnRow tpV w v w') ∧ Below w.heap.size w w' := by
  have C2 : Hid (∀ w, Calls Try.prog 35 #[.int .i64 24, .int .i64 8] w fun e w' => (∃ v, e = .returned (.tuple #[v, .int .i64 0]) ∧ NewRow (fmtV 24 8) w v w') ∧ Below w.heap.size w w') := fun w => (format_any 24 8 w).mono fun e w' h => by
    unfold FmtPost at h
    rw [if_pos (show planE 24 8 = 0 by decide)] at h
    exact ⟨h.2, h.1⟩
  have C3 : Hid (∀ A c w, RowAt w w.heap.size A ((fmtV 24 8).map .string) → Calls Try.prog 36 #[.slice A (fmtV 24 8).length c, .int .i64 2, .int .i64 0] w fun e w' => (∃ v, e = .returned (.tuple #[v, .int .i64 1, .int .i64 0]) ∧ OwnRow tpV w v w') ∧ Below w.heap.size w w') := fun A c w hr => by
    have := new_ino A c (fmtV 24 8) 2 0 w (by rw [fmtV_length]; decide) hr
    rw [tp_new] at this
    exact this
  have HF : Hid ((fmtV 24 8).length ≤ maxLen) := by show _ ≤ _; rw [fmtV_length]; decide
  generalize fmtV 24 8 = f at *
  generalize tpV = g at *
  go_enter Try.func16, Try.ntmps16
  go_wp2_with fail
  refine (C2.out _).mono ?_
  rintro e w1 ⟨⟨v, rfl, hn⟩, hb1⟩
  obtain ⟨A1, c1, rfl, hr1⟩ := (hn.own HF.out).read
  have B1 := Lib.hid hb1
  have R1 := Lib.hid hr1
  clear hn hb1 hr1
  go_wp2_with fail
  refine (C3.out _ _ _ R1.out).mono ?_
  rintro e w2 ⟨⟨v, rfl, hn⟩, hb2⟩
  have B2 := Lib.hid (B1.out.trans (hb2.mono B1.out.size))
  have O2 := Lib.hid (own_low hn B1.out.size)
  clear hn hb2
  go_wp2
  go_ret2
  exact ⟨⟨_, rfl, O2.out⟩, B2.out⟩
set_option maxHeartbeats 4000000 in
theorem awake_any (w : World) : Calls Try.prog 9 #[] w fun e w' => e = .returned (.bool true) ∧ Below w.heap.size w w' := by
  have C1 := Lib.hid (top_any w)
  have HL : Hid (tpV.length ≤ 223 ∧ awV.length ≤ 223) := ⟨by have := tp_vol.len; omega, by have := aw_add.2.file.ok.vol.len; dsimp only at this; omega⟩
  have C2 : Hid (∀ A c w, RowAt w w.heap.size A (tpV.map .string) → Calls Try.prog 13 #[.slice A tpV.length c, .int .i64 1, .string ⟨#[97]⟩, .int .i64 3] w (RowCode awV 0 w)) := fun A c w hr => by
    have := add_any A c tpV 1 ⟨#[97]⟩ 3 w (by have := HL.out; omega) (by decide) hr
    rw [aw_add.1] at this
    exact this
  obtain ⟨a0, a1, a2, a3, a4, a5, a6, a7, a8, a9, a10, a11, hg⟩ := len12 (getR_len awV 1)
  have h3 := aw_get.2
  rw [hg] at h3
  have h3 : a3 = 32 := h3
  subst h3
  have C3 : Hid (∀ A c w, RowAt w w.heap.size A (awV.map .string) → Calls Try.prog 28 #[.slice A awV.length c, .int .i64 1] w fun e w' => e = .returned (.tuple #[.agg #[.int .i64 (a0 : Int), .int .i64 (a1 : Int), .int .i64 (a2 : Int), .int .i64 32, .int .i64 (a4 : Int), .int .i64 (a5 : Int), .int .i64 (a6 : Int), .int .i64 (a7 : Int), .int .i64 (a8 : Int), .int .i64 (a9 : Int), .int .i64 (a10 : Int), .int .i64 (a11 : Int)], .int .i64 0]) ∧ Below w.heap.size w w') := fun A c w hr => by
    have := get_ino A c awV 1 w (by have := HL.out; omega) hr
    rw [hg, aw_get.1] at this
    exact this
  clear hg
  generalize tpV = f at *
  generalize awV = g at *
  go_enter Try.func9, Try.ntmps9
  go_wp2_with fail
  refine C1.out.mono ?_
  rintro e w1 ⟨⟨v, rfl, hn⟩, hb1⟩
  obtain ⟨A1, c1, rfl, hr1⟩ := hn.read
  have B1 := Lib.hid hb1
  have R1 := Lib.hid hr1
  clear hn hb1 hr1 C1
  go_wp2_with fail
  refine (C2.out _ _ _ R1.out).mono ?_
  rintro e w2 ⟨⟨v, rfl, hn⟩, hb2⟩
  obtain ⟨A2, c2, rfl, hr2⟩ := hn.read
  have B2 := Lib.hid (B1.out.trans (hb2.mono B1.out.size))
  have R2 := Lib.hid hr2
  clear hn hb2 hr2
  go_wp2_with fail
  refine (C3.out _ _ _ R2.out).mono ?_
  rintro e w3 ⟨rfl, hb3⟩
  have B3 := Lib.hid (B2.out.trans (hb3.mono B2.out.size))
  clear hb3
  go_wp2
  go_ret
  exact ⟨rfl, B3.out.alloc B3.out.size _⟩
end Go.Proofs.Ytoanladhikdcaaa

namespace Go.Proofs.Ytoanladhikdcaaa
open Go.RowKit
set_option linter.unusedVariables false
set_option linter.unusedSimpArgs false
set_option maxRecDepth 100000
set_option maxHeartbeats 8000000 in
theorem rmay_any (s : ByteArray) (w : World) (hs : s.size ≤ 140737488355328) : Calls Try.prog 11 #[.string s] w fun e w' => e = .returned (.bool (mayB s.data.toList)) ∧ w = w' := by
  have hl : s.data.toList.length = s.size := by rw [Array.length_toList]; rfl
  obtain ⟨r, hr⟩ : ∃ r, mayB s.data.toList = r := ⟨_, rfl⟩
  rw [hr]
  by_cases h1 : s.size < 1
  · have e1 : (s.size : Int) < 1 := by omega
    have e2 : decide ((s.size : Int) < 1) = true := decide_eq_true e1
    have HW := Lib.hid (hr.symm.trans <| may_out (.inl (List.eq_nil_of_length_eq_zero (by omega))))
    clear hr
    go_enter Try.func11, Try.ntmps11
    go_wp2
    go_ret
    exact ⟨ret_bool HW.out.symm, rfl⟩
  have e1 : ¬ (s.size : Int) < 1 := by omega
  have e2 : decide ((s.size : Int) < 1) = false := decide_eq_false e1
  by_cases h24 : 24 < s.size
  · have e3 : (24 : Int) < (s.size : Int) := by omega
    have e4 : decide ((24 : Int) < (s.size : Int)) = true := decide_eq_true e3
    have HW := Lib.hid (hr.symm.trans <| may_out (.inr (.inl (by omega : 24 < s.data.toList.length))))
    clear hr
    go_enter Try.func11, Try.ntmps11
    go_wp2
    go_ret
    exact ⟨ret_bool HW.out.symm, rfl⟩
  have e3 : ¬ (24 : Int) < (s.size : Int) := by omega
  have e4 : decide ((24 : Int) < (s.size : Int)) = false := decide_eq_false e3
  by_cases hd : s.data.toList = [46]
  · have HW := Lib.hid (hr.symm.trans <| may_out (.inr (.inr (.inl hd))))
    have q3 : s.toList = [46] := (str_data s).trans hd
    have q4 : (s.toList == [46]) = true := by rw [q3]; rfl
    clear hr
    go_enter Try.func11, Try.ntmps11
    go_wp2
    go_ret
    exact ⟨ret_bool HW.out.symm, rfl⟩
  have q3 : ¬ s.toList = [46] := by rw [str_data]; exact hd
  have q4 : (s.toList == [46]) = false := by simp [q3]
  by_cases hdd : s.data.toList = [46, 46]
  · have HW := Lib.hid (hr.symm.trans <| may_out (.inr (.inr (.inr hdd))))
    have q5 : s.toList = [46, 46] := (str_data s).trans hdd
    have q6 : (s.toList == [46, 46]) = true := by rw [q5]; rfl
    clear hr
    go_enter Try.func11, Try.ntmps11
    go_wp2
    go_ret
    exact ⟨ret_bool HW.out.symm, rfl⟩
  have q5 : ¬ s.toList = [46, 46] := by rw [str_data]; exact hdd
  have q6 : (s.toList == [46, 46]) = false := by simp [q5]
  have HW := Lib.hid (hr.symm.trans (may_in (by intro e; rw [e] at hl; simp at hl; omega) (by omega) hd hdd))
  have HL := Lib.hid hl
  clear hd hdd hl hr
  go_enter Try.func11, Try.ntmps11
  go_wp2
  clear q3 q4 q5 q6 e1 e2 e3 e4
  go_loop [3] (fun j => ∃ k : Nat, k ≤ s.size ∧ j = .int .i64 (k : Int) ∧ Hid ((s.data.toList.take k).all mayC = true)) (fun j => s.size - (intOf j).toNat)
  case atStart => exact ⟨0, Nat.zero_le _, rfl, rfl⟩
  case round =>
    obtain ⟨k, hk, rfl, HA⟩ := hrel
    by_cases hlt : k < s.size
    · have i1 : (k : Int) < (s.size : Int) := by omega
      have i2 : (0 : Int) ≤ (k : Int) := by omega
      have HO := Lib.hid (fun h => all_out (l := s.data.toList) (k := k) (by rw [HL.out]; exact hlt) h)
      have HI := Lib.hid (fun h => all_step (l := s.data.toList) (k := k) (by rw [HL.out]; exact hlt) HA.out h)
      have hc : (s.data.toList.getD k 0).toNat < 256 := UInt8.toNat_lt _
      have hx : ∀ h : k < s.size, (s[k]'h).toNat = (s.data.toList.getD k 0).toNat := fun h => by
        rw [List.getD_eq_getElem?_getD, List.getElem?_eq_getElem (by rw [HL.out]; exact h)]
        rfl
      have HM : Hid (mayC (s.data.toList.getD k 0) = decide _) := rfl
      generalize mayC (s.data.toList.getD k 0) = mc at *
      generalize (s.data.toList.getD k 0).toNat = c at *
      clear HA
      go_wp2
      all_goals (try simp only [beq_eq_false_iff_ne, beq_iff_eq, ne_eq, bne_iff_ne, Bool.not_eq_true', Bool.not_eq_false', Bool.not_eq_true, Bool.not_eq_false, decide_eq_false_iff_not, decide_eq_true_eq, bne_eq_false_iff_eq, Decidable.not_not] at *)
      all_goals first
        | (go_ret
           refine ⟨ret_bool (HW.out.trans (HO.out (HM.out.trans (decide_eq_false (by omega))))).symm, rfl⟩)
        | (refine ⟨⟨k + 1, by omega, rfl, HI.out (HM.out.trans (decide_eq_true (by omega)))⟩, ?_⟩
           simp [intOf]; omega)
    · obtain rfl : k = s.size := by omega
      go_wp2
      go_ret
      refine ⟨ret_bool ?_, rfl⟩
      have := HA.out
      rw [← HL.out, List.take_length] at this
      exact this.symm.trans HW.out.symm
end Go.Proofs.Ytoanladhikdcaaa

namespace Go.Proofs.Ytoanladhikdcaaa
open Go.RowKit
set_option linter.unusedVariables false
set_option linter.unusedSimpArgs false
set_option maxRecDepth 100000
set_option maxHeartbeats 4000000 in
theorem law_mays (s : ByteArray) (w : World) (hs : s.size ≤ 140737488355328) :
    Calls Try.prog 3 #[.string s] w fun e w' => e = .returned (.bool true) ∧ Below w.heap.size w w' := by
  have C1 := Lib.hid (fun w => may_any s w hs)
  have C2 := Lib.hid (fun w => rmay_any s w hs)
  have CA := Lib.hid (fun w => awake_any w)
  generalize mayB s.data.toList = r at *
  by_cases h1 : 100 < s.size
  · have e1 : (100 : Int) < (s.size : Int) := by omega
    go_enter Try.func3, Try.ntmps3
    go_wp2_with fail
    refine (CA.out _).mono ?_
    rintro e w1 ⟨rfl, hb1⟩
    go_wp2
    go_ret
    exact ⟨rfl, hb1⟩
  · have e1 : ¬ (100 : Int) < (s.size : Int) := by omega
    cases r with
    | true =>
      go_enter Try.func3, Try.ntmps3
      go_wp2_with fail
      refine (C1.out _).mono ?_
      rintro e w1 ⟨rfl, hb1⟩
      have B1 := Lib.hid hb1
      clear hb1
      go_wp2_with fail
      refine (C2.out _).mono ?_
      rintro e w2 ⟨rfl, rfl⟩
      go_wp2_with fail
      refine (CA.out _).mono ?_
      rintro e w3 ⟨rfl, hb3⟩
      have B3 := Lib.hid (B1.out.trans (hb3.mono B1.out.size))
      clear hb3
      go_wp2
      go_ret
      exact ⟨rfl, B3.out⟩
    | false =>
      go_enter Try.func3, Try.ntmps3
      go_wp2_with fail
      refine (C1.out _).mono ?_
      rintro e w1 ⟨rfl, hb1⟩
      have B1 := Lib.hid hb1
      clear hb1
      go_wp2_with fail
      refine (C2.out _).mono ?_
      rintro e w2 ⟨rfl, rfl⟩
      go_wp2_with fail
      refine (CA.out _).mono ?_
      rintro e w3 ⟨rfl, hb3⟩
      have B3 := Lib.hid (B1.out.trans (hb3.mono B1.out.size))
      clear hb3
      go_wp2
      go_ret
      exact ⟨rfl, B3.out⟩
end Go.Proofs.Ytoanladhikdcaaa
