/-
  Joined in one text: Top20Pl, Top20, DirRm, Snd20, KeepPl, RoomPl, OLe, DirG, Name20, LawDirRooms.
-/
import Derived.Test.YtoanladhikdcaaaDirSt
import Derived.Test.YtoanladhikdcaaaInoC
import Derived.Test.YtoanladhikdcaaaDirW
import Derived.Test.YtoanladhikdcaaaGeomF
import Derived.Test.YtoanladhikdcaaaExtSnd
import Derived.Test.YtoanladhikdcaaaRExtK
import Derived.Test.YtoanladhikdcaaaInoD
import Derived.Test.YtoanladhikdcaaaExtM
import Derived.Test.YtoanladhikdcaaaGeomU
namespace Go.Proofs.Ytoanladhikdcaaa
set_option linter.unusedVariables false
set_option linter.unusedSimpArgs false
set_option maxRecDepth 100000
theorem new_slot0 (xs : List ByteArray) (m kind owner s : Nat) : slotX xs m (newL kind owner) s = 0 := by
  have h10 : (newL kind owner).getD 10 0 = 0 := rfl
  have h70 : slotX xs m (newL kind owner) 70 = 0 := by rw [slotX_ind, h10]; split <;> rfl
  by_cases hs : s < 70
  · rw [slotX_lt hs]
    by_cases h6 : s < 6
    · rw [at_low h6]
      have : (newL kind owner).getD (4 + s) 0 = 0 := by
        have key : s = 0 ∨ s = 1 ∨ s = 2 ∨ s = 3 ∨ s = 4 ∨ s = 5 := by omega
        rcases key with rfl | rfl | rfl | rfl | rfl | rfl <;> rfl
      rw [this]; split <;> rfl
    · exact at_hi0 (by omega) h70
  · unfold slotX
    rw [if_neg hs, h10]; split <;> rfl
/-- what an add does to a directory -/
theorem DirS.add {V : List ByteArray} {m n : Nat} {E : List EntV} (h : DirS V m n E) {nm : ByteArray} {ino : Int} (hk : okE ⟨nm, ino⟩ = true) (hh : hasE E nm = false) :
    addO V (n : Int) nm ino = writeO V (n : Int) 0 (bytesE (insE E ⟨nm, ino⟩)) ∧
    ((addO V (n : Int) nm ino).2 = 0 ∧ (∃ r, WroS m 0 (bytesE (insE E ⟨nm, ino⟩)) V (getR V (n : Int)) r ∧ (addO V (n : Int) nm ino).1 = putV r.1 n r.2) ∧ DirS (addO V (n : Int) nm ino).1 m n (insE E ⟨nm, ino⟩)
    ∨ (addO V (n : Int) nm ino).1 = [] ∧ ((addO V (n : Int) nm ino).2 = 6 ∧ 8960 < (bytesE (insE E ⟨nm, ino⟩)).length ∨ (addO V (n : Int) nm ino).2 = 10 ∧ wriG noK V m (getR V (n : Int)) 0 (bytesE (insE E ⟨nm, ino⟩)) = Option.none)) := by
  obtain ⟨hm, _, _, h1, h2⟩ := okE_ok hk
  have hl := h.list
  have e : addO V (n : Int) nm ino = writeO V (n : Int) 0 (bytesE (insE E ⟨nm, ino⟩)) := by
    unfold addO
    rw [if_neg (by rw [hm]; simp), if_neg (by dsimp only at h1 h2; omega), hl]
    dsimp only
    rw [if_neg (by simp), if_neg (by rw [hh]; simp)]
  refine ⟨e, ?_⟩
  rw [e]
  have hlen := insE_len E ⟨nm, ino⟩
  exact h.more (insE_valid h.valid hk hh) (by omega) (by omega)
def tpV : List ByteArray := putV (fmtV 24 8) 1 (newL 2 0)
theorem tp_plan : planE (24 : Nat) (8 : Nat) = 0 := by decide
theorem tp_free : freeI (fmtV 24 8) 8 = some 1 := by kernel_rfl
theorem tp_new : newO (fmtV 24 8) 2 0 = (tpV, 1, 0) := by
  unfold newO
  rw [ofR_some.2 (fmtV_vol tp_plan)]
  dsimp only
  rw [if_neg (by decide), tp_free]
  rfl
theorem tp_vol : IsVol tpV 8 := (fmtV_vol tp_plan).putI (by decide) (by decide) _
theorem tp_get : getR tpV ((1 : Nat) : Int) = newL 2 0 := get_put_same (fmtV_vol tp_plan) (n := 1) (by decide) (by decide) (newL_fit (by decide) (by decide))
theorem tp_dir : DirS tpV 8 1 [] := by
  have hs := new_slot0 tpV 8 2 0
  refine ⟨⟨by decide, by decide, ?_, ?_, ?_, ?_, fun i hi => absurd hi (by simp)⟩, ⟨fun x hx => by simp at hx, List.Pairwise.nil⟩⟩
  · rw [tp_get]; exact ⟨tp_vol, rfl, newL_fit (by decide) (by decide)⟩
  · rw [tp_get]; exact ⟨fun s _ h0 => absurd (hs s) h0, fun s t _ _ _ h0 => absurd (hs s) h0⟩
  · rw [tp_get]; rfl
  · rw [tp_get]; rfl
def aX : EntV := ⟨⟨#[97]⟩, 3⟩
def awV : List ByteArray := (addO tpV 1 ⟨#[97]⟩ 3).1
theorem aw_some : (wriG noK tpV 8 (newL 2 0) 0 (bytesE (insE [] aX))).isSome = true := by kernel_rfl
theorem aw_ok : okE aX = true := by kernel_rfl
theorem aw_add : addO tpV 1 ⟨#[97]⟩ 3 = (awV, 0) ∧ DirS awV 8 1 [aX] := by
  have h := (tp_dir.add (nm := ⟨#[97]⟩) (ino := 3) aw_ok rfl).2
  rcases h with ⟨h1, _, h3⟩ | ⟨_, h | h⟩
  · refine ⟨?_, h3⟩
    show addO tpV 1 ⟨#[97]⟩ 3 = (awV, 0)
    rw [← h1]; rfl
  · have hb : (bytesE (insE [] ⟨⟨#[97]⟩, 3⟩)).length = 32 := by kernel_rfl
    rw [hb] at h
    exact absurd h.2 (by decide)
  · have h2 := h.2
    rw [tp_get] at h2
    have := aw_some
    unfold aX at this
    rw [h2] at this
    cases this
theorem aw_get : inoE awV 1 = 0 ∧ (getR awV 1).getD 3 0 = 32 := by
  have h := aw_add.2.file
  refine ⟨inoE_zero h.ok.vol h.num1 h.num2, ?_⟩
  have hs : sizeX (getR awV ((1 : Nat) : Int)) = 32 := h.size
  unfold sizeX at hs
  show (getR awV ((1 : Nat) : Int)).getD 3 0 = 32
  omega
end Go.Proofs.Ytoanladhikdcaaa

namespace Go.Proofs.Ytoanladhikdcaaa
open Go.RowKit
set_option linter.unusedVariables false
set_option linter.unusedSimpArgs false
set_option maxRecDepth 100000
set_option maxHeartbeats 4000000 in
theorem top_any (w : World) : Calls Try.prog 16 #[] w fun e w' => (∃ v, e = .returned (.tuple #[v, .bool true]) ∧ OwnRow tpV w v w') ∧ Below w.heap.size w w' := by
  have C2 : Hid (∀ w, Calls Try.prog 35 #[.int .i64 24, .int .i64 8] w fun e w' => (∃ v, e = .returned (.tuple #[v, .int .i64 0]) ∧ NewRow (fmtV 24 8) w v w') ∧ Below w.heap.size w w') := fun w => (format_any 24 8 w).mono fun e w' h => by
    unfold FmtPost at h
    rw [if_pos (show planE 24 8 = 0 by decide)] at h
    exact ⟨h.2, h.1⟩
  have C3 : Hid (∀ A c w, RowAt w w.heap.size A ((fmtV 24 8).map .string) → Calls Try.prog 36 #[.slice A (fmtV 24 8).length c, .int .i64 2, .int .i64 0] w fun e w' => (∃ v, e = .returned (.tuple #[v, .int .i64 1, .int .i64 0]) ∧ OwnRow tpV w v w') ∧ Below w.heap.size w w') := fun A c w hr => by
    have := new_ino A c (fmtV 24 8) 2 0 w (by rw [fmtV_length]; decide) hr
    rw [tp_new] at this
    exact this
  have HF : Hid ((fmtV 24 8).length ≤ maxLen) := by show _ ≤ _; rw [fmtV_length]; decide
  generalize fmtV 24 8 = f at *
  generalize tpV = g at *
  go_enter Try.func16, Try.ntmps16
  go_wp2_with fail
  refine (C2.out _).mono ?_
  rintro e w1 ⟨⟨v, rfl, hn⟩, hb1⟩
  obtain ⟨A1, c1, rfl, hr1⟩ := (hn.own HF.out).read
  have B1 := Lib.hid hb1
  have R1 := Lib.hid hr1
  clear hn hb1 hr1
  go_wp2_with fail
  refine (C3.out _ _ _ R1.out).mono ?_
  rintro e w2 ⟨⟨v, rfl, hn⟩, hb2⟩
  have B2 := Lib.hid (B1.out.trans (hb2.mono B1.out.size))
  have O2 := Lib.hid (own_low hn B1.out.size)
  clear hn hb2
  go_wp2
  go_ret2
  exact ⟨⟨_, rfl, O2.out⟩, B2.out⟩
set_option maxHeartbeats 4000000 in
theorem awake_any (w : World) : Calls Try.prog 9 #[] w fun e w' => e = .returned (.bool true) ∧ Below w.heap.size w w' := by
  have C1 := Lib.hid (top_any w)
  have HL : Hid (tpV.length ≤ 223 ∧ awV.length ≤ 223) := ⟨by have := tp_vol.len; omega, by have := aw_add.2.file.ok.vol.len; dsimp only at this; omega⟩
  have C2 : Hid (∀ A c w, RowAt w w.heap.size A (tpV.map .string) → Calls Try.prog 13 #[.slice A tpV.length c, .int .i64 1, .string ⟨#[97]⟩, .int .i64 3] w (RowCode awV 0 w)) := fun A c w hr => by
    have := add_any A c tpV 1 ⟨#[97]⟩ 3 w (by have := HL.out; omega) (by decide) hr
    rw [aw_add.1] at this
    exact this
  obtain ⟨a0, a1, a2, a3, a4, a5, a6, a7, a8, a9, a10, a11, hg⟩ := len12 (getR_len awV 1)
  have h3 := aw_get.2
  rw [hg] at h3
  have h3 : a3 = 32 := h3
  subst h3
  have C3 : Hid (∀ A c w, RowAt w w.heap.size A (awV.map .string) → Calls Try.prog 28 #[.slice A awV.length c, .int .i64 1] w fun e w' => e = .returned (.tuple #[.agg #[.int .i64 (a0 : Int), .int .i64 (a1 : Int), .int .i64 (a2 : Int), .int .i64 32, .int .i64 (a4 : Int), .int .i64 (a5 : Int), .int .i64 (a6 : Int), .int .i64 (a7 : Int), .int .i64 (a8 : Int), .int .i64 (a9 : Int), .int .i64 (a10 : Int), .int .i64 (a11 : Int)], .int .i64 0]) ∧ Below w.heap.size w w') := fun A c w hr => by
    have := get_ino A c awV 1 w (by have := HL.out; omega) hr
    rw [hg, aw_get.1] at this
    exact this
  clear hg
  generalize tpV = f at *
  generalize awV = g at *
  go_enter Try.func9, Try.ntmps9
  go_wp2_with fail
  refine C1.out.mono ?_
  rintro e w1 ⟨⟨v, rfl, hn⟩, hb1⟩
  obtain ⟨A1, c1, rfl, hr1⟩ := hn.read
  have B1 := Lib.hid hb1
  have R1 := Lib.hid hr1
  clear hn hb1 hr1 C1
  go_wp2_with fail
  refine (C2.out _ _ _ R1.out).mono ?_
  rintro e w2 ⟨⟨v, rfl, hn⟩, hb2⟩
  obtain ⟨A2, c2, rfl, hr2⟩ := hn.read
  have B2 := Lib.hid (B1.out.trans (hb2.mono B1.out.size))
  have R2 := Lib.hid hr2
  clear hn hb2 hr2
  go_wp2_with fail
  refine (C3.out _ _ _ R2.out).mono ?_
  rintro e w3 ⟨rfl, hb3⟩
  have B3 := Lib.hid (B2.out.trans (hb3.mono B2.out.size))
  clear hb3
  go_wp2
  go_ret
  exact ⟨rfl, B3.out.alloc B3.out.size _⟩
end Go.Proofs.Ytoanladhikdcaaa

namespace Go.Proofs.Ytoanladhikdcaaa
set_option linter.unusedVariables false
set_option linter.unusedSimpArgs false
set_option maxRecDepth 100000
section
variable {xs : List ByteArray} {m off n sz : Nat} {l : List Nat} {d : List UInt8}
theorem takX_room (hv : IsVol xs m) (h : 1 ≤ roomR xs) : ∃ i, freeR xs m = some i ∧ takX xs m = some (takeV xs i, i) := by
  cases hf : freeR xs m with
  | none => rw [room_full hv hf] at h; omega
  | some i => exact ⟨i, rfl, by unfold takX; rw [hf]; rfl⟩
theorem pla_some (h : OkS xs.length m (xs, l)) {k : Nat} (hk : atX xs m l k ≠ 0 ∨ 2 ≤ roomR xs) : ∃ r, plaG noK xs m l k = some r := by
  unfold plaG
  by_cases h0 : atX xs m l k ≠ 0
  · rw [if_pos h0]; exact ⟨_, rfl⟩
  · rw [if_neg h0]
    have hr := hk.resolve_left h0
    have hv : IsVol xs m := h.vol
    obtain ⟨i, hi, ht⟩ := takX_room hv (by omega)
    unfold indG
    by_cases hc : k < 6 ∨ datB xs m (l.getD 10 0) = true
    · rw [if_pos hc, Option.bind_some, ht]
      exact ⟨_, rfl⟩
    · rw [if_neg hc, ht, Option.map_some, Option.bind_some]
      obtain ⟨f1, f2, _, _, _⟩ := free_facts hv hi
      have hv2 : IsVol (takeV xs i) m := hv.take f1 f2
      have hr2 := room_take hv hi
      obtain ⟨i2, hi2, ht2⟩ := takX_room hv2 (by omega)
      show ∃ r, (takX (noK (takeV xs i) (l.set 10 i)) m).map _ = some r
      rw [show noK (takeV xs i) (l.set 10 i) = takeV xs i from rfl, ht2]
      exact ⟨_, rfl⟩
/-- how many blocks a file has whose last one is known -/
theorem cntS_le {B : Nat} (hB : ∀ s, s < 70 → atX xs m l s ≠ 0 → s < B) : cntS xs m l ≤ B + 1 := by
  unfold cntS
  have h1 : ((List.range 71).filter fun s => slotX xs m l s != 0).length ≤ ((List.range 71).filter fun s => decide (s < B) || decide (s = 70)).length := by
    rw [← List.countP_eq_length_filter, ← List.countP_eq_length_filter]
    refine List.countP_mono_left fun s hs he => ?_
    have hs := List.mem_range.1 hs
    by_cases h70 : s = 70
    · simp [h70]
    · have := hB s (by omega) (by rw [slotX_lt (by omega)] at he; simpa using he)
      simp [this]
  refine Nat.le_trans h1 ?_
  have h2 : ∀ N, ((List.range N).filter fun s => decide (s < B) || decide (s = 70)).length ≤ min N B + (if 70 < N then 1 else 0) := fun N => by
    induction N with
    | zero => simp
    | succ N ih =>
      rw [List.range_succ, List.filter_append, List.length_append]
      by_cases h1 : N < B
      · have : (List.filter (fun s => decide (s < B) || decide (s = 70)) [N]).length = 1 := by simp [h1]
        rw [this]
        split at ih <;> split <;> omega
      · by_cases h2 : N = 70
        · have : (List.filter (fun s => decide (s < B) || decide (s = 70)) [N]).length = 1 := by simp [h2]
          rw [this]
          split at ih <;> split <;> omega
        · have : (List.filter (fun s => decide (s < B) || decide (s = 70)) [N]).length = 0 := by simp [h1, h2]
          rw [this]
          split at ih <;> split <;> omega
  have := h2 71
  rw [if_pos (by omega)] at this
  omega
theorem wri_has (h : OkS xs.length m (xs, l)) (o : OwnS xs m l) : ∀ (j : Nat), off / 128 + j ≤ 70 → (∀ s, off / 128 ≤ s → s < off / 128 + j → atX xs m l s ≠ 0) → ∃ r, wriN noK m off d (xs, l) j = some r
  | 0, _, _ => ⟨_, rfl⟩
  | j + 1, hj, ha => by
    obtain ⟨q, hq⟩ := wri_has h o j (by omega) (fun s h1 h2 => ha s h1 (by omega))
    have p := wriN_mv h o j (by omega) hq
    obtain ⟨qx, ql⟩ := q
    obtain ⟨t, ht⟩ := pla_some (xs := qx) (l := ql) ⟨p.ok.vol, rfl, p.ok.fit⟩ (k := off / 128 + j) (.inl ((p.at_ _ (by omega)).2 (.inl (ha _ (by omega) (by omega)))))
    rw [wriN, hq, Option.bind_some]
    unfold wriK
    rw [ht]
    exact ⟨_, rfl⟩
theorem wri_room {B : Nat} (h : OkS xs.length m (xs, l)) (o : OwnS xs m l) (hB : ∀ s, s < 70 → atX xs m l s ≠ 0 → s < B) (hb : B ≤ 70) (hr : B + 3 ≤ roomR xs + cntS xs m l) : ∀ (j : Nat), off / 128 + j ≤ B → ∃ r, wriN noK m off d (xs, l) j = some r
  | 0, _ => ⟨_, rfl⟩
  | j + 1, hj => by
    obtain ⟨q, hq⟩ := wri_room h o hB hb hr j (by omega)
    have p := wriN_mv h o j (by omega) hq
    obtain ⟨qx, ql⟩ := q
    have hc : cntS qx m ql ≤ B + 1 := cntS_le fun s hs h0 => by
      rcases (p.at_ s hs).1 h0 with h1 | h1
      · exact hB s hs h1
      · omega
    have hm := p.mv.room
    dsimp only at hm
    obtain ⟨t, ht⟩ := pla_some (xs := qx) (l := ql) ⟨p.ok.vol, rfl, p.ok.fit⟩ (k := off / 128 + j) (.inr (by omega))
    rw [wriN, hq, Option.bind_some]
    unfold wriK
    rw [ht]
    exact ⟨_, rfl⟩
theorem wriG_some (h : ∃ r, wriN noK m off d (xs, l) (fallN off d.length) = some r) : wriG noK xs m l off d ≠ none := by
  obtain ⟨r, hr⟩ := h
  unfold wriG
  split
  · simp
  · rw [hr]; simp
/-- a write from the front on succeeds where all its blocks are there -/
theorem FileS.over {V : List ByteArray} {f : Nat → UInt8} (h : FileS V m n sz f) (hd : 0 < d.length) (hl : d.length ≤ 8960) (ha : ∀ s, s < fallN 0 d.length → atX V m (getR V (n : Int)) s ≠ 0) : (writeO V (n : Int) 0 d).2 = 0 := by
  rcases h.write hd with g | ⟨_, g | g⟩
  · exact g.1
  · omega
  · refine absurd g.2 (wriG_some (wri_has h.ok h.own _ ?_ fun s _ h2 => ha s (by omega)))
    unfold fallN
    split <;> omega
theorem FileS.roomy {V : List ByteArray} {f : Nat → UInt8} {B : Nat} (h : FileS V m n sz f) (hd : 0 < d.length) (hl : d.length ≤ 8960) (hB : ∀ s, s < 70 → atX V m (getR V (n : Int)) s ≠ 0 → s < B) (hb : B ≤ 70) (hf : fallN 0 d.length ≤ B) (hr : B + 3 ≤ roomR V + cntS V m (getR V (n : Int))) : (writeO V (n : Int) 0 d).2 = 0 := by
  rcases h.write hd with g | ⟨_, g | g⟩
  · exact g.1
  · omega
  · exact absurd g.2 (wriG_some (wri_room h.ok h.own hB hb hr _ (by omega)))
end
end Go.Proofs.Ytoanladhikdcaaa

namespace Go.Proofs.Ytoanladhikdcaaa
set_option linter.unusedVariables false
set_option linter.unusedSimpArgs false
/-- the first eight numbers of an inode -/
def dirL (l : List Nat) (k : Nat) : List Nat := [l.getD 10 0, l.getD 11 0] ++ (List.range k).map fun j => l.getD (4 + j) 0
def indL (xs : List ByteArray) (b k : Nat) : List Nat := (List.range k).map fun j => numAt (blkL xs b) (2 * j) 2
/-- all numbers of blocks of an inode -/
def numsL (xs : List ByteArray) (m : Nat) (l : List Nat) : List Nat := dirL l 6 ++ (if datB xs m (l.getD 10 0) = true then indL xs (l.getD 10 0) 64 else [])
theorem dirL_len (l : List Nat) (k : Nat) : (dirL l k).length = 2 + k := by unfold dirL; simp; omega
theorem indL_len (xs : List ByteArray) (b k : Nat) : (indL xs b k).length = k := by unfold indL; simp
theorem dirL_succ (l : List Nat) (k : Nat) : dirL l (k + 1) = dirL l k ++ [l.getD (4 + k) 0] := by
  unfold dirL
  rw [List.range_succ, List.map_append, ← List.append_assoc]; rfl
theorem indL_succ (xs : List ByteArray) (b k : Nat) : indL xs b (k + 1) = indL xs b k ++ [numAt (blkL xs b) (2 * k) 2] := by
  unfold indL
  rw [List.range_succ, List.map_append]; rfl
theorem numsL_len (xs : List ByteArray) (m : Nat) (l : List Nat) : (numsL xs m l).length ≤ 72 := by
  unfold numsL
  rw [List.length_append, dirL_len]
  split
  · rw [indL_len]; omega
  · simp
/-- no number but 0 stands at two places -/
def UnlikeL (L : List Nat) : Prop := ∀ i1 i2 z : Nat, i1 < i2 → L[i1]? = some z → L[i2]? = some z → z = 0
/-- of the first j numbers: those that are not 0 are taken, are met, and unlike -/
def UnJ (xs : List ByteArray) (L : List Nat) (ms : List Int) (j : Nat) : Prop :=
  (∀ i z : Nat, i < j → L[i]? = some z → z ≠ 0 → usedR xs (z : Int) = true ∧ (z : Int) ∈ ms) ∧ ∀ i1 i2 z : Nat, i1 < i2 → i2 < j → L[i1]? = some z → L[i2]? = some z → z = 0
theorem UnJ.zero {xs : List ByteArray} {L : List Nat} {ms : List Int} : UnJ xs L ms 0 := ⟨fun i z h => absurd h (Nat.not_lt_zero _), fun i1 i2 z _ h => absurd h (Nat.not_lt_zero _)⟩
theorem UnJ.skip {xs : List ByteArray} {L : List Nat} {ms : List Int} {j : Nat} (h : UnJ xs L ms j) (hz : L[j]? = some 0) : UnJ xs L ms (j + 1) := by
  refine ⟨fun i z hi hz2 h0 => ?_, fun i1 i2 z h12 h2 e1 e2 => ?_⟩
  · by_cases e : i = j
    · rw [e, hz] at hz2
      exact absurd (Option.some.inj hz2).symm h0
    · exact h.1 i z (by omega) hz2 h0
  · by_cases e : i2 = j
    · rw [e, hz] at e2
      exact (Option.some.inj e2).symm
    · exact h.2 i1 i2 z h12 (by omega) e1 e2
theorem UnJ.push {xs : List ByteArray} {L : List Nat} {ms : List Int} {j z : Nat} (h : UnJ xs L ms j) (hz : L[j]? = some z) (hu : usedR xs (z : Int) = true) (hn : (z : Int) ∉ ms) : UnJ xs L (ms ++ [(z : Int)]) (j + 1) := by
  refine ⟨fun i y hi hy h0 => ?_, fun i1 i2 y h12 h2 e1 e2 => ?_⟩
  · by_cases e : i = j
    · rw [e, hz] at hy
      rw [← Option.some.inj hy]
      exact ⟨hu, by simp⟩
    · have := h.1 i y (by omega) hy h0
      exact ⟨this.1, List.mem_append_left _ this.2⟩
  · by_cases e : i2 = j
    · rw [e, hz] at e2
      have e2 := Option.some.inj e2
      refine Classical.not_not.1 (fun h0 => hn ?_)
      have := (h.1 i1 y (by omega) e1 h0).2
      rw [e2]; exact this
    · exact h.2 i1 i2 y h12 (by omega) e1 e2
/-- each number that these inodes name is that of a block which is taken, and an inode names none twice -/
def SndU (xs : List ByteArray) (m : Nat) (ns : List Nat) : Prop := ∀ n ∈ ns, (∀ z ∈ numsL xs m (getR xs (n : Int)), z ≠ 0 → usedR xs (z : Int) = true) ∧ UnlikeL (numsL xs m (getR xs (n : Int)))
theorem SndU.snoc {xs : List ByteArray} {m n : Nat} {ns : List Nat} (h : SndU xs m ns) (hn : (∀ z ∈ numsL xs m (getR xs (n : Int)), z ≠ 0 → usedR xs (z : Int) = true) ∧ UnlikeL (numsL xs m (getR xs (n : Int)))) : SndU xs m (ns ++ [n]) := by
  intro k hk
  rcases List.mem_append.1 hk with h1 | h1
  · exact h k h1
  · rw [List.mem_singleton.1 h1]; exact hn
theorem UnJ.all {xs : List ByteArray} {L : List Nat} {ms : List Int} {j : Nat} (h : UnJ xs L ms j) (hj : j = L.length) : (∀ z ∈ L, z ≠ 0 → usedR xs (z : Int) = true) ∧ UnlikeL L := by
  refine ⟨fun z hz h0 => ?_, fun i1 i2 z h12 e1 e2 => ?_⟩
  · obtain ⟨i, hi⟩ := List.mem_iff_getElem?.1 hz
    exact (h.1 i z (by rw [hj]; exact (List.getElem?_eq_some_iff.1 hi).1) hi h0).1
  · exact h.2 i1 i2 z h12 (by rw [hj]; exact (List.getElem?_eq_some_iff.1 e2).1) e1 e2
theorem usedR_bit {xs : List ByteArray} {m z : Nat} (hv : IsVol xs m) (h : usedR xs (z : Int) = true) : bitV xs z = true := by
  unfold usedR at h
  rw [ofR_some.2 hv] at h
  have := (Bool.and_eq_true_iff.1 h).2
  rw [Int.toNat_natCast] at this
  exact this
theorem slot_mem {xs : List ByteArray} {m : Nat} {l : List Nat} {s : Nat} (hs : s < 71) (h0 : slotX xs m l s ≠ 0) : slotX xs m l s ∈ numsL xs m l := by
  unfold numsL
  by_cases h70 : s = 70
  · subst h70
    obtain ⟨_, e⟩ := slot_ind_ne h0
    rw [e]
    unfold dirL
    simp
  · rw [slotX_lt (by omega)] at h0 ⊢
    by_cases h6 : s < 6
    · rw [at_low h6] at h0 ⊢
      split at h0
      · rename_i hd
        rw [if_pos hd]
        unfold dirL
        simp only [List.mem_append, List.mem_map, List.mem_range]
        exact .inl (.inr ⟨s, h6, rfl⟩)
      · exact absurd rfl h0
    · have hi : slotX xs m l 70 ≠ 0 := fun e => h0 (at_hi0 (by omega) e)
      obtain ⟨hd, e⟩ := slot_ind_ne hi
      rw [at_hi (by omega) hi, e] at h0 ⊢
      split at h0
      · rename_i hd2
        rw [if_pos hd2, if_pos hd]
        unfold indL
        simp only [List.mem_append, List.mem_map, List.mem_range]
        exact .inr ⟨s - 6, by omega, rfl⟩
      · exact absurd rfl h0
theorem SndU.used {xs : List ByteArray} {m n : Nat} {ns : List Nat} (h : SndU xs m ns) (hv : IsVol xs m) (hn : n ∈ ns) : ∀ s, s < 71 → slotX xs m (getR xs (n : Int)) s ≠ 0 → bitV xs (slotX xs m (getR xs (n : Int)) s) = true :=
  fun s hs h0 => usedR_bit hv ((h n hn).1 _ (slot_mem hs h0) h0)
/-- where a slot's number stands -/
def posS (s : Nat) : Nat := if s = 70 then 0 else 2 + s
theorem slot_pos {xs : List ByteArray} {m : Nat} {l : List Nat} {s : Nat} (hs : s < 71) (h0 : slotX xs m l s ≠ 0) : (numsL xs m l)[posS s]? = some (slotX xs m l s) := by
  unfold numsL posS
  by_cases h70 : s = 70
  · subst h70
    obtain ⟨_, e⟩ := slot_ind_ne h0
    rw [e, if_pos rfl]
    rfl
  · rw [if_neg h70]
    rw [slotX_lt (by omega)] at h0 ⊢
    by_cases h6 : s < 6
    · rw [at_low h6] at h0 ⊢
      split at h0
      · rename_i hd
        rw [if_pos hd, List.getElem?_append_left (by rw [dirL_len]; omega)]
        unfold dirL
        rw [List.getElem?_append_right (by simp)]
        simp [h6]
      · exact absurd rfl h0
    · have hi : slotX xs m l 70 ≠ 0 := fun e => h0 (at_hi0 (by omega) e)
      obtain ⟨hd, e⟩ := slot_ind_ne hi
      rw [at_hi (by omega) hi, e] at h0 ⊢
      split at h0
      · rename_i hd2
        rw [if_pos hd2, if_pos hd, List.getElem?_append_right (by rw [dirL_len]; omega), dirL_len]
        unfold indL
        rw [show 2 + s - (2 + 6) = s - 6 by omega, List.getElem?_map, List.getElem?_range (by omega)]
        rfl
      · exact absurd rfl h0
theorem SndU.inj {xs : List ByteArray} {m n : Nat} {ns : List Nat} (h : SndU xs m ns) (hn : n ∈ ns) : ∀ s t, s < 71 → t < 71 → slotX xs m (getR xs (n : Int)) s = slotX xs m (getR xs (n : Int)) t → slotX xs m (getR xs (n : Int)) s ≠ 0 → s = t := fun s t hs ht e h0 => by
  have p1 := slot_pos hs h0
  have p2 := slot_pos ht (by rw [← e]; exact h0)
  rw [← e] at p2
  have hu := (h n hn).2
  rcases Nat.lt_trichotomy (posS s) (posS t) with h1 | h1 | h1
  · exact absurd (hu _ _ _ h1 p1 p2) h0
  · unfold posS at h1
    split at h1 <;> split at h1 <;> omega
  · exact absurd (hu _ _ _ h1 p2 p1) h0
end Go.Proofs.Ytoanladhikdcaaa

namespace Go.Proofs.Ytoanladhikdcaaa
set_option linter.unusedVariables false
set_option linter.unusedSimpArgs false
set_option maxRecDepth 100000
section
variable {V : List ByteArray} {m n : Nat} {E : List EntV}
theorem mem_allR {k : Nat} (h1 : 1 ≤ k) (hk : kindR V k ≠ 0) : ∀ M, k ≤ M → k ∈ allR V M
  | 0, h => absurd h (by omega)
  | M + 1, h => by
    rw [allR_succ, List.mem_append]
    by_cases e : k = M + 1
    · right
      rw [← e, if_pos (by simpa using hk)]
      simp
    · exact .inl (mem_allR h1 hk M (by omega))
theorem kind_get (hv : IsVol V m) (h1 : 1 ≤ n) (h2 : n ≤ m) : (getR V (n : Int)).getD 0 0 = kindR V n := by
  rw [getR_vol hv h1 h2]
  rfl
/-- what a listing with no error tells of a volume that is sound -/
theorem dir_of (hv : IsVol V m) (hU : SndU V m (allO V)) {z : Int} (hl : (listO V z).2 = 0) : ∃ k : Nat, z = (k : Int) ∧ DirS V m k (listO V z).1 := by
  have h0 : inoE V z = 0 := by
    refine Classical.not_not.1 (fun h => ?_)
    unfold listO at hl
    rw [if_pos h] at hl
    exact h hl
  obtain ⟨m2, k, hv2, rfl, h1, h2, _⟩ := inoE_ok h0
  obtain rfl : m = m2 := by
    have e1 := ofR_some.2 hv
    have e2 := ofR_some.2 hv2
    rw [e1] at e2
    exact Option.some.inj e2
  refine ⟨k, rfl, ?_⟩
  have hvalid := listO_valid (xs := V) (n := (k : Int))
  unfold listO at hl hvalid ⊢
  rw [if_neg (by rw [h0]; simp)] at hl hvalid ⊢
  by_cases hk : (getR V (k : Int)).getD 0 0 = 2
  · rw [if_neg (by rw [hk]; simp)] at hl hvalid ⊢
    have hn : k ∈ allO V := by
      unfold allO
      rw [ofR_some.2 hv]
      exact mem_allR h1 (by rw [← kind_get hv h1 h2, hk]; decide) _ h2
    have hr : readO V (k : Int) 0 8960 = ((List.range (sizeX (getR V (k : Int)))).map (byteX V m (getR V (k : Int))), 0) := by
      unfold readO
      rw [if_neg (by rw [h0]; simp), if_neg (by omega), mO_vol hv]
      unfold readX spanX
      have := sizeX_le (getR V (k : Int))
      rw [show min ((0 : Int).toNat + (8960 : Int).toNat) (sizeX (getR V (k : Int))) - (0 : Int).toNat = sizeX (getR V (k : Int)) by show min (0 + 8960) _ - 0 = _; omega]
      congr 1
      rw [List.range_eq_range']
      rfl
    rw [hr] at hl hvalid ⊢
    dsimp only at hl hvalid ⊢
    cases he : entsO ((List.range (sizeX (getR V (k : Int)))).map (byteX V m (getR V (k : Int)))) with
    | none => rw [he] at hl; exact absurd hl (by decide)
    | some l =>
      rw [he] at hvalid
      obtain ⟨e1, e2, e3⟩ := entsO_some he
      rw [List.length_map, List.length_range] at e3
      refine ⟨⟨h1, h2, ⟨hv, rfl, getR_fit hv h1 h2⟩, ⟨hU.used hv hn, hU.inj hn⟩, hk, e3, fun i hi => ?_⟩, e2⟩
      show _ = (bytesE l).getD i 0
      rw [e1, List.getD_eq_getElem?_getD, List.getElem?_map, List.getElem?_range (by rw [e3]; exact hi)]
      rfl
  · rw [if_pos hk] at hl
    exact absurd hl (by decide)
/-! ### rows -/
theorem mem_insE {x y : EntV} : y ∈ insE E x ↔ y = x ∨ y ∈ E := by
  unfold insE
  rw [List.mem_append, List.mem_cons]
  have := List.take_append_drop (atE E x.name) E
  constructor
  · rintro (h | h | h)
    · exact .inr (List.mem_of_mem_take h)
    · exact .inl h
    · exact .inr (List.mem_of_mem_drop h)
  · rintro (h | h)
    · exact .inr (.inl h)
    · rw [← this] at h
      rcases List.mem_append.1 h with h | h
      · exact .inl h
      · exact .inr (.inr h)
theorem has_insE {x : EntV} {nm : ByteArray} : hasE (insE E x) nm = (decide (x.name = nm) || hasE E nm) := by
  rw [Bool.eq_iff_iff, Bool.or_eq_true]
  unfold hasE
  rw [List.any_eq_true, List.any_eq_true]
  constructor
  · rintro ⟨y, hy, h⟩
    rcases mem_insE.1 hy with rfl | hy
    · exact .inl h
    · exact .inr ⟨y, hy, h⟩
  · rintro (h | ⟨y, hy, h⟩)
    · exact ⟨x, mem_insE.2 (.inl rfl), h⟩
    · exact ⟨y, mem_insE.2 (.inr hy), h⟩
/-- in a valid row a name has one number -/
theorem get_mem (h : ValidE E) {y : EntV} (hy : y ∈ E) : getE E y.name = y.ino := by
  obtain ⟨k, hk, rfl⟩ := List.mem_iff_getElem.1 hy
  refine getE_at2 hk (fun j hj e => ?_) rfl
  have := List.pairwise_iff_getElem.1 h.rise j k (by omega) hk hj
  rw [e, ltB_irrefl] at this
  cases this
  where
  getE_at2 {l : List EntV} {nm : ByteArray} {k : Nat} (hk : k < l.length) (h : ∀ j (hj : j < k), l[j].name ≠ nm) (e : l[k].name = nm) : getE l nm = l[k].ino := by
    have hs : l = l.take k ++ l[k] :: l.drop (k + 1) := by rw [List.getElem_cons_drop, List.take_append_drop]
    unfold getE
    have hf : (l.take k).find? (fun x => decide (x.name = nm)) = none := by
      rw [List.find?_eq_none]
      intro x hx
      obtain ⟨j, hj, rfl⟩ := List.mem_iff_getElem.1 hx
      rw [List.length_take] at hj
      rw [List.getElem_take]
      simpa using h j (by omega)
    generalize hz : l[k] = z at *
    rw [hs, List.find?_append, hf, List.find?_cons_of_pos (by simp [e])]
    rfl
theorem outE_insE {x : EntV} (hh : hasE E x.name = false) : outE (insE E x) x.name = E := by
  have hne : ∀ y ∈ E, y.name ≠ x.name := fun y hy e => by
    unfold hasE at hh
    rw [List.any_eq_false] at hh
    have := hh y hy
    simp [e] at this
  unfold outE insE
  rw [List.filter_append, List.filter_cons_of_neg (by simp), ← List.filter_append, List.take_append_drop]
  exact List.filter_eq_self.2 fun y hy => by simp [hne y hy]
theorem find_dir (h : DirS V m n E) {nm : ByteArray} (hm : mayB nm.data.toList = true) : findO V (n : Int) nm = if hasE E nm = true then (getE E nm, 0) else (0, 9) := by
  unfold findO
  rw [if_neg (by rw [hm]; simp), h.list]
  dsimp only
  rw [if_neg (by simp)]
/-- what a drop does to a directory that has the name, where the shorter row can be written -/
theorem DirS.drop (h : DirS V m n E) {nm : ByteArray} (hm : mayB nm.data.toList = true) (hh : hasE E nm = true) (hw : outE E nm ≠ [] → (writeO V (n : Int) 0 (bytesE (outE E nm))).2 = 0) :
    (dropO V (n : Int) nm).2 = 0 ∧ DirS (dropO V (n : Int) nm).1 m n (outE E nm) := by
  have hlt : (outE E nm).length < E.length := by
    obtain ⟨hk, e⟩ := (at_has h.valid.rise).1 hh
    rw [at_out h.valid.rise hk e, List.length_append, List.length_take, List.length_drop]
    omega
  unfold dropO
  rw [if_neg (by rw [hm]; simp), h.list]
  dsimp only
  rw [if_neg (by simp), if_neg (by rw [hh]; simp)]
  by_cases h0 : outE E nm = []
  · rw [if_pos h0, h0]
    exact h.none (by omega)
  · rw [if_neg h0, if_neg (by rw [hw h0]; simp)]
    refine h.less (outE_valid h.valid nm) hlt ?_ (hw h0)
    cases hx : outE E nm with
    | nil => exact absurd hx h0
    | cons _ _ => simp
/-- what was written is there -/
theorem WroS.full {r : List ByteArray × List Nat} {l : List Nat} {d : List UInt8} (h : WroS m 0 d V l r) (hd : d ≠ []) {s : Nat} (hs : s < 70) (h1 : s ≤ (d.length - 1) / 128) : atX r.1 m r.2 s ≠ 0 :=
  (h.at_ s hs).2 (.inr ⟨hd, Nat.zero_le _, by rw [Nat.zero_add]; exact h1⟩)
theorem keeps (hv : IsVol V m) (hU : SndU V m (allO V)) {z : Int} {nm ot : ByteArray} {ino : Int} (hne : nm ≠ ot) (ha : (addO V z nm ino).2 = 0) :
    findO (addO V z nm ino).1 z nm = (ino, 0) ∧ findO (addO V z nm ino).1 z ot = findO V z ot ∧ (dropO (addO V z nm ino).1 z nm).2 = 0 ∧ (findO (dropO (addO V z nm ino).1 z nm).1 z nm).2 = 9 ∧ listO (dropO (addO V z nm ino).1 z nm).1 z = ((listO V z).1, 0) ∧
      (addO V z nm ino).1.length ≤ 1000000 ∧ (dropO (addO V z nm ino).1 z nm).1.length ≤ 1000000 := by
  have hm : mayB nm.data.toList = true := by
    cases h : mayB nm.data.toList with
    | true => rfl
    | false => unfold addO at ha; rw [if_pos h] at ha; exact absurd ha (by decide)
  have hi : ¬ (ino < 1 ∨ 64 < ino) := fun h => by
    unfold addO at ha
    rw [if_neg (by rw [hm]; simp), if_pos h] at ha
    exact absurd ha (by decide)
  have hl : (listO V z).2 = 0 := by
    refine Classical.not_not.1 (fun h => ?_)
    unfold addO at ha
    rw [if_neg (by rw [hm]; simp), if_neg hi, if_pos h] at ha
    exact h ha
  have hh : hasE (listO V z).1 nm = false := by
    cases h : hasE (listO V z).1 nm with
    | false => rfl
    | true =>
      unfold addO at ha
      rw [if_neg (by rw [hm]; simp), if_neg hi, if_neg (by rw [hl]; simp), if_pos h] at ha
      exact absurd ha (by decide)
  obtain ⟨n, rfl, hD⟩ := dir_of hv hU hl
  generalize (listO V (n : Int)).1 = E at *
  have hk : okE ⟨nm, ino⟩ = true := by
    unfold okE
    dsimp only
    rw [hm, Bool.true_and, decide_eq_true_iff]
    omega
  obtain ⟨e1, e2⟩ := hD.add hk hh
  rcases e2 with ⟨_, ⟨r, hr, hput⟩, hW⟩ | ⟨_, h | h⟩
  · have hWv := hW.valid
    have hlenI := insE_len E ⟨nm, ino⟩
    have hWl := hW.file.small
    generalize hWo : (addO V (n : Int) nm ino).1 = W at *
    have f1 : findO W (n : Int) nm = (ino, 0) := by
      rw [find_dir hW hm, if_pos (by rw [has_insE]; simp), get_mem hWv (y := ⟨nm, ino⟩) (mem_insE.2 (.inl rfl))]
    have f2 : findO W (n : Int) ot = findO V (n : Int) ot := by
      cases hmo : mayB ot.data.toList with
      | false => unfold findO; rw [if_pos hmo, if_pos hmo]
      | true =>
        rw [find_dir hW hmo, find_dir hD hmo, has_insE]
        have : decide ((⟨nm, ino⟩ : EntV).name = ot) = false := decide_eq_false hne
        rw [this, Bool.false_or]
        cases hho : hasE E ot with
        | false => rfl
        | true =>
          rw [if_pos rfl, if_pos rfl]
          unfold hasE at hho
          obtain ⟨y, hy, e⟩ := List.any_eq_true.1 hho
          obtain rfl := of_decide_eq_true e
          rw [get_mem hD.valid hy, get_mem hWv (mem_insE.2 (.inr hy))]
    have ho : outE (insE E ⟨nm, ino⟩) nm = E := outE_insE (x := ⟨nm, ino⟩) hh
    have hdr := hW.drop (nm := nm) hm (by rw [has_insE]; simp) (fun h0 => by
      rw [ho] at h0 ⊢
      have hb := bytesE_len hD.valid.ok
      have hb2 := bytesE_len hWv.ok
      have h0l : 0 < E.length := by cases hE : E with
        | nil => exact absurd hE h0
        | cons _ _ => simp
      refine hW.file.over (by omega) (by omega) fun s hs => ?_
      have hvW := hr.mv.vol
      rw [hput, get_put_same hvW hD.file.num1 hD.file.num2 hr.ok.fit, atX_put hvW hD.file.num1 hD.file.num2]
      unfold fallN at hs
      rw [if_neg (by omega)] at hs
      refine hr.full (fun e => ?_) (by omega) ?_
      · rw [e] at hb2; simp at hb2; omega
      · rw [hb2]; omega)
    rw [ho] at hdr
    obtain ⟨g1, g2⟩ := hdr
    have n0 := hW.file.ok.vol.len
    have n1 := g2.file.ok.vol.len
    dsimp only at n0 n1
    refine ⟨f1, f2, g1, ?_, g2.list, by omega, by omega⟩
    rw [find_dir g2 hm, if_neg (by rw [hh]; simp)]
  · rw [h.1] at ha; exact absurd ha (by decide)
  · rw [h.1] at ha; exact absurd ha (by decide)
end
end Go.Proofs.Ytoanladhikdcaaa

namespace Go.Proofs.Ytoanladhikdcaaa
set_option linter.unusedVariables false
set_option linter.unusedSimpArgs false
set_option maxRecDepth 100000
section
variable {V : List ByteArray} {m n sz K size : Nat} {l : List Nat} {E : List EntV} {d : List UInt8}
/-- a file whose blocks are just those that its size needs -/
structure FileR (V : List ByteArray) (m n sz K : Nat) : Prop where
  at_ : ∀ s, s < 70 → (atX V m (getR V (n : Int)) s ≠ 0 ↔ s < needN sz)
  ind : slotX V m (getR V (n : Int)) 70 ≠ 0 ↔ 6 < needN sz
  room : roomR V + cntS V m (getR V (n : Int)) = K
theorem FileR.put {ys : List ByteArray} {l' : List Nat} {sz' : Nat} (hv : IsVol ys m) (h1 : 1 ≤ n) (h2 : n ≤ m) (hf : FitN l') (ha : ∀ s, s < 70 → (atX ys m l' s ≠ 0 ↔ s < needN sz')) (hi : slotX ys m l' 70 ≠ 0 ↔ 6 < needN sz') (hr : roomR ys + cntS ys m l' = K) : FileR (putV ys n l') m n sz' K := by
  have hg : getR (putV ys n l') (n : Int) = l' := get_put_same hv h1 h2 hf
  refine ⟨fun s hs => ?_, ?_, ?_⟩
  · rw [hg, atX_put hv h1 h2]; exact ha s hs
  · rw [hg, slotX_put hv h1 h2]; exact hi
  · rw [hg, roomR_put hv h1 h2, cntS_put hv h1 h2]; exact hr
theorem FileR.write {r : List ByteArray × List Nat} (h : FileR V m n sz K) (h1 : 1 ≤ n) (h2 : n ≤ m) (w : WroS m 0 d V (getR V (n : Int)) r) (hd : d ≠ []) : FileR (putV r.1 n r.2) m n (max sz d.length) K := by
  have hd0 : 0 < d.length := by cases d with
    | nil => exact absurd rfl hd
    | cons _ _ => simp
  refine .put w.mv.vol h1 h2 w.ok.fit (fun s hs => ?_) ?_ (by rw [← w.mv.room]; exact h.room)
  · rw [w.at_ s hs, h.at_ s hs]
    unfold needN
    constructor
    · rintro (h | h)
      · omega
      · omega
    · intro h
      by_cases e : s < (sz + 127) / 128
      · exact .inl e
      · exact .inr ⟨hd, by omega, by omega⟩
  · rw [w.ind, h.ind]
    unfold needN
    constructor
    · rintro (h | h)
      · omega
      · omega
    · intro h
      by_cases e : 6 < (sz + 127) / 128
      · exact .inl e
      · exact .inr ⟨hd, by omega⟩
theorem FileR.cut {r : List ByteArray × List Nat} (h : FileR V m n sz K) (h1 : 1 ≤ n) (h2 : n ≤ m) (w : CutS m size V (getR V (n : Int)) r) (hs : size < sz) (h8 : sz ≤ 8960) : FileR (putV r.1 n r.2) m n size K := by
  have hat : ∀ s, s < 70 → (atX r.1 m r.2 s ≠ 0 ↔ s < needN size) := fun s hs70 => by
    rw [w.at_ s hs70]
    by_cases e : s < needN size
    · rw [if_pos e, h.at_ s hs70]
      unfold needN at e ⊢
      omega
    · rw [if_neg e]
      exact ⟨fun h => absurd rfl h, fun h => absurd h e⟩
  refine .put w.mv.vol h1 h2 w.ok.fit hat ⟨fun h0 => ?_, fun h6 h0 => ?_⟩ (by rw [← w.mv.room]; exact h.room)
  · have := (w.ind h0).2
    unfold needN
    omega
  · exact (hat 6 (by omega)).2 h6 (at_hi0 (by omega) h0)
/-- how many blocks -/
theorem FileR.cnt (h : FileR V m n sz K) (hs : sz ≤ 8960) : cntS V m (getR V (n : Int)) = needN sz + if 6 < needN sz then 1 else 0 := by
  have hq : needN sz ≤ 70 := by unfold needN; omega
  have h2 : ∀ N, N ≤ 70 → ((List.range N).filter fun s => slotX V m (getR V (n : Int)) s != 0).length = min N (needN sz) := fun N hN => by
    induction N with
    | zero => simp
    | succ N ih =>
      rw [List.range_succ, List.filter_append, List.length_append, ih (by omega)]
      have := h.at_ N (by omega)
      by_cases e : N < needN sz
      · have h3 : slotX V m (getR V (n : Int)) N ≠ 0 := by rw [slotX_lt (by omega)]; exact this.2 e
        have : (List.filter (fun s => slotX V m (getR V (n : Int)) s != 0) [N]).length = 1 := by simp [h3]
        omega
      · have h3 : slotX V m (getR V (n : Int)) N = 0 := by rw [slotX_lt (by omega)]; exact Classical.not_not.1 (fun h => e (this.1 h))
        have : (List.filter (fun s => slotX V m (getR V (n : Int)) s != 0) [N]).length = 0 := by simp [h3]
        omega
  unfold cntS
  rw [show (71 : Nat) = 70 + 1 from rfl, List.range_succ, List.filter_append, List.length_append, h2 70 (Nat.le_refl _)]
  by_cases e : 6 < needN sz
  · have h3 := h.ind.2 e
    have : (List.filter (fun s => slotX V m (getR V (n : Int)) s != 0) [70]).length = 1 := by simp [h3]
    rw [if_pos e]
    omega
  · have h3 : slotX V m (getR V (n : Int)) 70 = 0 := Classical.not_not.1 (fun h4 => e (h.ind.1 h4))
    have : (List.filter (fun s => slotX V m (getR V (n : Int)) s != 0) [70]).length = 0 := by simp [h3]
    rw [if_neg e]
    omega
/-- a directory with just its blocks -/
structure DirR (V : List ByteArray) (m n K : Nat) (E : List EntV) : Prop where
  dir : DirS V m n E
  blk : FileR V m n (32 * E.length) K
theorem DirR.room (h : DirR V m n K E) : roomR V + (needN (32 * E.length) + if 6 < needN (32 * E.length) then 1 else 0) = K := by
  rw [← h.blk.cnt h.dir.file.small]
  exact h.blk.room
theorem DirR.add (h : DirR V m n K E) {nm : ByteArray} {ino : Int} (hk : okE ⟨nm, ino⟩ = true) (hh : hasE E nm = false) (hl : E.length < 41) (hK : 14 ≤ K) :
    (addO V (n : Int) nm ino).2 = 0 ∧ DirR (addO V (n : Int) nm ino).1 m n K (insE E ⟨nm, ino⟩) := by
  have hv := insE_valid (x := ⟨nm, ino⟩) h.dir.valid hk hh
  have hb := bytesE_len hv.ok
  have hlen := insE_len E ⟨nm, ino⟩
  rw [hlen] at hb
  obtain ⟨e1, e2⟩ := h.dir.add hk hh
  have hok : (writeO V (n : Int) 0 (bytesE (insE E ⟨nm, ino⟩))).2 = 0 := by
    refine h.dir.file.roomy (B := 11) (by omega) (by omega) (fun s hs h0 => ?_) (by omega) ?_ (by rw [h.blk.room]; exact hK)
    · have := (h.blk.at_ s hs).1 h0
      unfold needN at this
      omega
    · unfold fallN
      split <;> omega
  rw [← e1] at hok
  rcases e2 with ⟨_, ⟨r, hr, hp⟩, hD⟩ | ⟨_, g | g⟩
  · refine ⟨hok, hD, ?_⟩
    rw [hp, hlen]
    have := h.blk.write h.dir.file.num1 h.dir.file.num2 hr (fun e => by rw [e] at hb; simp at hb)
    rw [hb, show max (32 * E.length) (32 * (E.length + 1)) = 32 * (E.length + 1) by omega] at this
    exact this
  · rw [g.1] at hok; exact absurd hok (by decide)
  · rw [g.1] at hok; exact absurd hok (by decide)
theorem outE_len (h : ValidE E) {nm : ByteArray} (hh : hasE E nm = true) : (outE E nm).length + 1 = E.length := by
  obtain ⟨hk, e⟩ := (at_has h.rise).1 hh
  rw [at_out h.rise hk e, List.length_append, List.length_take, List.length_drop]
  omega
theorem DirR.drop (h : DirR V m n K E) {nm : ByteArray} (hm : mayB nm.data.toList = true) (hh : hasE E nm = true) :
    (dropO V (n : Int) nm).2 = 0 ∧ DirR (dropO V (n : Int) nm).1 m n K (outE E nm) := by
  have hlt := outE_len h.dir.valid hh
  have hb := bytesE_len (outE_valid h.dir.valid nm).ok
  have h8 := h.dir.file.small
  have hw : outE E nm ≠ [] → (writeO V (n : Int) 0 (bytesE (outE E nm))).2 = 0 := fun h0 => by
    have hl0 : 0 < (outE E nm).length := by cases hx : outE E nm with
      | nil => exact absurd hx h0
      | cons _ _ => simp
    refine h.dir.file.over (by omega) (by omega) fun s hs => ?_
    unfold fallN at hs
    rw [if_neg (by omega)] at hs
    refine (h.blk.at_ s (by omega)).2 ?_
    unfold needN
    omega
  obtain ⟨d1, d2⟩ := h.dir.drop hm hh hw
  refine ⟨d1, d2, ?_⟩
  unfold dropO
  rw [if_neg (by rw [hm]; simp), h.dir.list]
  dsimp only
  rw [if_neg (by simp), if_neg (by rw [hh]; simp)]
  by_cases h0 : outE E nm = []
  · rw [if_pos h0, h0]
    obtain ⟨_, ⟨r, hr, hp⟩, _⟩ := h.dir.file.cut (size := 0) (by omega)
    show FileR (cutO V (n : Int) ((0 : Nat) : Int)).1 m n 0 K
    rw [hp]
    exact h.blk.cut h.dir.file.num1 h.dir.file.num2 hr (by omega) h8
  · rw [if_neg h0, if_neg (by rw [hw h0]; simp)]
    have hl0 : 0 < (outE E nm).length := by cases hx : outE E nm with
      | nil => exact absurd hx h0
      | cons _ _ => simp
    have hd0 : bytesE (outE E nm) ≠ [] := fun e => by rw [e] at hb; simp at hb; omega
    rcases h.dir.file.write (d := bytesE (outE E nm)) (by omega) with ⟨_, _, ⟨r, hr, hp⟩, hF⟩ | ⟨_, g | g⟩
    · have hR := h.blk.write h.dir.file.num1 h.dir.file.num2 hr hd0
      rw [← hp] at hR
      rw [hb, show max (32 * E.length) (32 * (outE E nm).length) = 32 * E.length by omega] at hR hF
      obtain ⟨_, ⟨r2, hr2, hp2⟩, _⟩ := hF.cut (size := 32 * (outE E nm).length) (by omega)
      rw [hp2]
      exact hR.cut h.dir.file.num1 h.dir.file.num2 hr2 (by omega) h8
    · have := hw h0; rw [g.1] at this; exact absurd this (by decide)
    · have := hw h0; rw [g.1] at this; exact absurd this (by decide)
theorem tp_dirR : DirR tpV 8 1 17 [] := by
  have hs := new_slot0 tpV 8 2 0
  have h0 : needN (32 * ([] : List EntV).length) = 0 := rfl
  refine ⟨tp_dir, ⟨fun s hs70 => ?_, ?_, ?_⟩⟩
  · rw [tp_get, h0]
    have := hs s
    rw [slotX_lt hs70] at this
    exact ⟨fun h => absurd this h, fun h => absurd h (Nat.not_lt_zero _)⟩
  · rw [tp_get, h0]
    exact ⟨fun h => absurd (hs 70) h, fun h => absurd h (Nat.not_lt_zero _)⟩
  · have hc : cntS tpV 8 (getR tpV ((1 : Nat) : Int)) = 0 := by
      rw [tp_get]
      unfold cntS
      rw [List.filter_eq_nil_iff.2 (fun s _ => by rw [hs s]; simp)]
      rfl
    rw [hc]
    have : roomR tpV = roomR (fmtV 24 8) := roomR_put (fmtV_vol tp_plan) (by decide) (by decide) _
    rw [this, fmtV_room tp_plan]
    decide
/-! ### rows -/
theorem mem_outE {y : EntV} {nm : ByteArray} : y ∈ outE E nm ↔ y ∈ E ∧ y.name ≠ nm := by
  unfold outE
  rw [List.mem_filter]
  simp
theorem has_outE {nm ot : ByteArray} : hasE (outE E nm) ot = (hasE E ot && !decide (ot = nm)) := by
  rw [Bool.eq_iff_iff, Bool.and_eq_true]
  unfold hasE
  rw [List.any_eq_true, List.any_eq_true]
  constructor
  · rintro ⟨y, hy, h⟩
    obtain ⟨h1, h2⟩ := mem_outE.1 hy
    have e := of_decide_eq_true h
    exact ⟨⟨y, h1, h⟩, by rw [← e]; simpa using h2⟩
  · rintro ⟨⟨y, hy, h⟩, h2⟩
    have e := of_decide_eq_true h
    exact ⟨y, mem_outE.2 ⟨hy, by rw [e]; simpa using h2⟩, h⟩
/-- two valid rows with the same entries are one -/
theorem valid_ext : ∀ {E F : List EntV}, (E.Pairwise fun x y => ltB x.name y.name = true) → (F.Pairwise fun x y => ltB x.name y.name = true) → (∀ y, y ∈ E ↔ y ∈ F) → E = F
  | [], [], _, _, _ => rfl
  | [], y :: F, _, _, h => by have := (h y).2 (by simp); simp at this
  | x :: E, [], _, _, h => by have := (h x).1 (by simp); simp at this
  | x :: E, y :: F, hE, hF, h => by
    have hE := List.pairwise_cons.1 hE
    have hF := List.pairwise_cons.1 hF
    have hxy : x = y := by
      rcases List.mem_cons.1 ((h x).1 (by simp)) with e | hx
      · exact e
      · rcases List.mem_cons.1 ((h y).2 (by simp)) with e | hy
        · exact e.symm
        · have := ltB_trans (hE.1 y hy) (hF.1 x hx)
          rw [ltB_irrefl] at this
          cases this
    subst hxy
    congr 1
    refine valid_ext hE.2 hF.2 fun z => ?_
    have hz := h z
    constructor
    · intro hzE
      rcases List.mem_cons.1 (hz.1 (by simp [hzE])) with e | h2
      · have := hE.1 z hzE
        rw [e, ltB_irrefl] at this
        cases this
      · exact h2
    · intro hzF
      rcases List.mem_cons.1 (hz.2 (by simp [hzF])) with e | h2
      · have := hF.1 z hzF
        rw [e, ltB_irrefl] at this
        cases this
      · exact h2
end
end Go.Proofs.Ytoanladhikdcaaa

namespace Go.Proofs.Ytoanladhikdcaaa
set_option linter.unusedVariables false
set_option linter.unusedSimpArgs false
set_option maxRecDepth 100000
theorem writeO_le {xs : List ByteArray} (hx : xs.length ≤ 1000000) (n off : Int) (d : List UInt8) : (writeO xs n off d).1.length ≤ 1000000 := by
  by_cases h0 : inoE xs n = 0
  · obtain ⟨m, nn, hv, rfl, h1, h2, _⟩ := inoE_ok h0
    unfold writeO
    rw [h0, if_neg (by simp)]
    by_cases hneg : off < 0
    · rw [if_pos hneg]; simp
    · rw [if_neg hneg]
      by_cases hbig : 8960 < off ∨ 8960 < off + (d.length : Int)
      · rw [if_pos hbig]; simp
      · rw [if_neg hbig, mO_vol hv]
        cases hw : wriG noK xs m (getR xs (nn : Int)) off.toNat d with
        | none => simp
        | some r =>
          have := wriG_ok (noK_ok m) (⟨hv, rfl, getR_fit hv h1 h2⟩ : OkS xs.length m (xs, getR xs (nn : Int))) (by omega) hw
          dsimp only
          rw [putV_length, this.len]; exact hx
  · unfold writeO
    rw [if_pos h0]; simp
theorem cutO_le {xs : List ByteArray} (hx : xs.length ≤ 1000000) (n size : Int) : (cutO xs n size).1.length ≤ 1000000 := by
  by_cases h0 : inoE xs n = 0
  · obtain ⟨m, nn, hv, rfl, h1, h2, _⟩ := inoE_ok h0
    unfold cutO
    rw [h0, if_neg (by simp)]
    by_cases hneg : size < 0
    · rw [if_pos hneg]; simp
    · rw [if_neg hneg]
      by_cases hbig : 8960 < size
      · rw [if_pos hbig]; simp
      · rw [if_neg hbig, mO_vol hv]
        have := cutG_ok (noK_ok m) (⟨hv, rfl, getR_fit hv h1 h2⟩ : OkS xs.length m (xs, getR xs (nn : Int))) (size := size.toNat) (by omega)
        dsimp only
        rw [putV_length, this.len]; exact hx
  · unfold cutO
    rw [if_pos h0]; simp
end Go.Proofs.Ytoanladhikdcaaa

namespace Go.Proofs.Ytoanladhikdcaaa
open Go.RowKit
set_option linter.unusedVariables false
set_option linter.unusedSimpArgs false
set_option maxRecDepth 100000
theorem exec_appE {P : Program} {w w' : World} {o : Oper} {ev : Operand → Value} {v v' : Value} {ad : Addr} {m c : Nat} (s x : Operand) (t : TypeId) (ho : o.op = .call { callee := .builtin .append, args := #[s, x], argTypes := #[t, t] }) (hs : ev s = v) (hx : ev x = .slice (some ad) m c)
    (hrun : (Builtin.append_ #[t, t] o.type #[v, .slice (some ad) m c]).run P w = .ok v' w') : (execOp ev o).run P w = .ok (.value v') w' := by
  simp [execOp, ho, resolve, invoke, builtin, hs, hx, hrun, Result.andThen]
theorem del_row {w : World} {base k : Nat} {v : Value} {l L2 : List EntV} (h : w.ownsRow base 35 2 v (0 + k + (l.length - (k + 1))) ([] ++ entC (l.take k) ++ entC (l.drop (k + 1)))) (hk : k < l.length)
    (he : entC (l.take k) ++ entC (l.drop (k + 1)) = entC L2) : w.ownsRow base 35 2 v (l.length - 1) (entC L2) := by
  rw [List.nil_append, he, show 0 + k + (l.length - (k + 1)) = l.length - 1 by omega] at h
  exact h
theorem bt_nil {b : ByteArray} (h : b.size = 32 * 0) : b.toList = [] := by
  rw [str_data]
  exact List.eq_nil_of_length_eq_zero (by rw [Array.length_toList]; exact h)
theorem bt_some {b : ByteArray} (h : b.size ≠ 0) : ¬ b.toList = [] := by
  rw [str_data]
  intro e
  have := congrArg List.length e
  rw [Array.length_toList] at this
  exact h this
theorem drop_plain {xs : List ByteArray} {n : Int} {nm : ByteArray} {l : List EntV} (hm : mayB nm.data.toList = true) (hl : listO xs n = (l, 0)) (hh : hasE l nm = true) :
    dropO xs n nm = if outE l nm = [] then cutO xs n 0 else if (writeO xs n 0 (bytesE (outE l nm))).2 ≠ 0 then ([], (writeO xs n 0 (bytesE (outE l nm))).2) else cutO (writeO xs n 0 (bytesE (outE l nm))).1 n ((32 * (outE l nm).length : Nat) : Int) := by
  unfold dropO
  rw [if_neg (by rw [hm]; simp), hl]
  dsimp only
  rw [if_neg (by simp), if_neg (by rw [hh]; simp)]
set_option maxHeartbeats 8000000 in
theorem drop_main (A : Option Addr) (c : Nat) (xs : List ByteArray) (n : Int) (nm : ByteArray) (w : World) (hx : xs.length ≤ 1000000) (hs : nm.size ≤ 140737488355328) (h : RowAt w w.heap.size A (xs.map .string))
    (l : List EntV) (hm : mayB nm.data.toList = true) (hl : listO xs n = (l, 0)) (hh : hasE l nm = true) :
    Calls Try.prog 25 #[.slice A xs.length c, .int .i64 n, .string nm] w (RowCode (dropO xs n nm).1 (dropO xs n nm).2 w) := by
  have CM := Lib.hid (may_any nm w hs)
  have CL := Lib.hid (fun w h => list_any A c xs n w hx h)
  have HR := Lib.hid h
  have hv := listO_valid (xs := xs) (n := n)
  have hn := listO_len (xs := xs) (n := n)
  rw [hl] at CL hv hn
  dsimp only at hv hn
  have HV := Lib.hid hv
  have HN := Lib.hid hn
  obtain ⟨r, hr⟩ : ∃ r, dropO xs n nm = r := ⟨_, rfl⟩
  rw [hr]
  rw [drop_plain hm hl hh] at hr
  rw [hm] at CM
  unfold ListPost at CL
  dsimp only at CL
  have CS := Lib.hid (fun A c w h => search_any A c l nm w hn HV.out.rise h)
  rw [hh] at CS
  obtain ⟨hk, hnk⟩ := (at_has HV.out.rise).1 hh
  have ho := at_out HV.out.rise hk hnk
  have HVO := Lib.hid (outE_valid HV.out nm)
  have hlen : (outE l nm).length = l.length - 1 := by rw [ho, List.length_append, List.length_take, List.length_drop]; omega
  have hb := bytesE_len HVO.out.ok
  rw [hlen] at hb
  have CB := Lib.hid (fun A c w h => bytes_any A c (outE l nm) w (by rw [hlen]; omega) (fun x hx => by have := okE_ok (HVO.out.ok x hx); omega) h)
  have CW := Lib.hid (fun w h => write_any A c xs n 0 ⟨(bytesE (outE l nm)).toArray⟩ w hx (by omega) (by show (bytesE (outE l nm)).toArray.size ≤ _; rw [List.size_toArray, hb]; omega) h)
  rw [hlen] at CB
  dsimp only at CW
  have HIE : Hid (entC (l.take (atE l nm)) ++ entC (l.drop (atE l nm + 1)) = entC (outE l nm)) := by
    show _ = _
    rw [ho, entC_app]
  have HLO := Lib.hid hlen
  have HBT : Hid ((⟨(bytesE (outE l nm)).toArray⟩ : ByteArray).size = 32 * (l.length - 1)) := by show (bytesE (outE l nm)).toArray.size = _; rw [List.size_toArray, hb]
  have hbt := HBT.out
  have HR0 : Hid (l.length - 1 = 0 → r = cutO xs n (((⟨(bytesE (outE l nm)).toArray⟩ : ByteArray).size : Nat) : Int)) := fun e => by
    rw [← hr, if_pos (List.eq_nil_of_length_eq_zero (hlen.trans e)), hbt, e]; rfl
  have HR1 : Hid (l.length - 1 ≠ 0 → r = if (writeO xs n 0 (bytesE (outE l nm))).2 ≠ 0 then ([], (writeO xs n 0 (bytesE (outE l nm))).2) else cutO (writeO xs n 0 (bytesE (outE l nm))).1 n (((⟨(bytesE (outE l nm)).toArray⟩ : ByteArray).size : Nat) : Int)) := fun e => by
    rw [← hr, if_neg (fun h => e (by rw [← hlen, h]; rfl)), hbt, hlen]
  have hle := writeO_le hx n 0 (bytesE (outE l nm))
  have CC := Lib.hid (fun A c xs w hx h => cut_any A c xs n (((⟨(bytesE (outE l nm)).toArray⟩ : ByteArray).size : Nat) : Int) w hx h)
  generalize writeO xs n 0 (bytesE (outE l nm)) = wo at *
  generalize outE l nm = L2 at *
  generalize (⟨(bytesE L2).toArray⟩ : ByteArray) = bt at *
  generalize atE l nm = k at *
  obtain ⟨i0, q1, q2, q3, q4⟩ := info_parts ent_info
  have I0 := Lib.hid (And.intro q1 (And.intro q2 (And.intro q3 q4)))
  obtain ⟨ys, ye⟩ := wo
  dsimp only at CW HR1 hle
  unfold RowCode at CW
  have HLE := Lib.hid hle
  clear q1 q2 q3 q4 h hm hh hlen hb HVO hv hl ho hnk hr hle hbt
  go_enter Try.func25, Try.ntmps25
  go_wp2_with fail
  refine CM.out.mono ?_
  rintro e w1 ⟨rfl, hb1⟩
  have B1 := Lib.hid hb1
  clear hb1 CM
  go_wp2_with fail
  refine (CL.out _ ((HR.out.below B1.out).mono B1.out.size)).mono ?_
  rintro e w2 ⟨⟨v, rfl, hv⟩, hb2⟩
  have B2 := Lib.hid (B1.out.trans (hb2.mono B1.out.size))
  obtain ⟨A2, c2, hA2, hr2⟩ := OwnEnts.read2 hv
  have HF := Lib.hid (hA2 ▸ hv.form)
  have R2 := Lib.hid hr2
  subst hA2
  clear hb2 hv hr2 CL
  go_wp2_with fail
  refine (CS.out _ _ _ R2.out).mono ?_
  rintro e w3 ⟨rfl, hb3⟩
  have B3 := Lib.hid (B2.out.trans (hb3.mono B2.out.size))
  have G0 := Lib.hid (Below.refl w3.heap.size w3)
  obtain ⟨g, cc, hvv, hc1, hc2, hg1, hg2, hcells⟩ : ∃ g c', Value.slice A2 l.length c2 = .slice (some ⟨g, 0, none⟩) l.length c' ∧ l.length ≤ c' ∧ c' ≤ maxLen ∧ w1.heap.size ≤ g ∧ g < w2.heap.size ∧ ∀ j u, (entC l)[j]? = some u → w2.cell? ⟨g, j, none⟩ = some u := by
    rcases HF.out with ⟨_, h⟩ | h
    · rw [h] at hk; exact absurd hk (Nat.not_lt_zero _)
    · exact h
  injection hvv with e1 e2 e3
  subst e1
  subst e3
  have HC3 : Hid (∀ j u, (entC l)[j]? = some u → w3.cell? ⟨g, j, none⟩ = some u) := fun j u hu => (hb3.cell (p := ⟨g, j, none⟩) hg2).trans (hcells j u hu)
  have HG3 : Hid (g < w3.heap.size) := Nat.lt_of_lt_of_le hg2 hb3.size
  have k1 : (k : Int) ≤ (c2 : Int) := by omega
  have k2 : (0 : Int) ≤ (k : Int) := by omega
  have k3 : IntKind.i64.wrap ((k : Int) + 1) = ((k + 1 : Nat) : Int) := by rw [show (k : Int) + 1 = ((k + 1 : Nat) : Int) by omega]; exact IntWalk.i64_in _ (by unfold maxLen at hc2; omega)
  have k4 : ((k + 1 : Nat) : Int) ≤ (l.length : Int) := by omega
  have k5 : (0 : Int) ≤ ((k + 1 : Nat) : Int) := by omega
  have hT : ∀ w', Below w3.heap.size w3 w' → ∀ j u, (entC (l.take k))[j]? = some u → w'.cell? ((⟨g, 0, none⟩ : Addr).add j) = some u := fun w' hb j u hu => by
    rw [add_zero_addr, Nat.zero_add]
    refine (hb.cell (p := ⟨g, j, none⟩) HG3.out).trans (HC3.out j u ?_)
    rw [← entC_take, List.getElem?_take] at hu
    split at hu
    · exact hu
    · cases hu
  have HT := Lib.hid hT
  have HC1 := Lib.hid hc1
  clear hb3 CS R2 HF hcells e2 hT hc1
  by_cases hkc : k + 1 = c2
  · subst hkc
    by_cases hone : l.length - 1 = 0
    · have HRR := Lib.hid (HR0.out hone)
      have b1 : bt.toList = [] := bt_nil (by rw [HBT.out, hone])
      have b2 : (bt.toList == []) = true := by rw [b1]; rfl
      have b3 : bt.toList.isEmpty = true := by rw [b1]; rfl
      have HONE := Lib.hid hone
      clear hone
      go_wp2_with fail
      apply wp_region_free (a2 := { tmps := #[Value.slice A xs.length c, Value.int .i64 n, Value.string nm, undef, undef, undef, Value.slice none 0 0, Value.int .i64 0, Value.slice (some ⟨g, 0, none⟩) l.length (k + 1), Value.int .i64 0, Value.int .i64 (k : Int), Value.bool true, undef, Value.string nm, Value.bool true, Value.bool false, Value.tuple #[Value.slice (some ⟨g, 0, none⟩) l.length (k + 1), Value.int .i64 0], Value.slice A xs.length c, Value.int .i64 n, Value.tuple #[Value.slice (some ⟨g, 0, none⟩) l.length (k + 1), Value.int .i64 0], Value.slice (some ⟨g, 0, none⟩) l.length (k + 1), Value.int .i64 0, Value.int .i64 0, Value.bool false, undef, Value.tuple #[Value.int .i64 (k : Int), Value.bool true], Value.slice (some ⟨g, 0, none⟩) l.length (k + 1), Value.string nm, Value.tuple #[Value.int .i64 (k : Int), Value.bool true], Value.int .i64 (k : Int), Value.bool true, Value.bool true, Value.bool false, Value.slice (some ⟨g, 0, none⟩) l.length (k + 1), Value.int .i64 (k : Int), Value.slice (some ⟨g, 0, none⟩) k (k + 1), undef, Value.slice (some ⟨g, 0, none⟩) l.length (k + 1), Value.int .i64 (k : Int), Value.int .i64 ((k : Int) + 1), Value.slice (some ⟨g, 0, none⟩) (l.length - (k + 1)) 0, undef, undef, undef, undef, undef, undef, undef, undef, undef, undef, undef, undef, undef, undef, undef, undef, undef, undef, undef, undef, undef], defers := [] }) 3 0 4 36 _ (fun X w' => w'.ownsRow w3.heap.size 35 2 X (0 + k) ([] ++ entC (l.take k))) (by kernel_rfl) (by kernel_rfl) rfl
      case hΦ => exact fun X u u' h hu => own_below h hu
      case W1 =>
        intro wb hwb
        unfold ExtC
        simp only [List.take_succ_cons, List.take_zero, List.drop_succ_cons, List.drop_zero]
        repeat (go_big_quiet_step (fail))
        exact wpQuiet_nil rfl
      case MK =>
        intro wb hwb
        obtain ⟨v', w', hrun, own, hg, _⟩ := run_append_own (P := Try.prog) (w := wb) w3.heap.size 31 _ 35 i0 (.agg #[.string ⟨#[]⟩, .int .i64 0]) 2 24 Try.underlying31 I0.out.1 I0.out.2.1 I0.out.2.2.1 I0.out.2.2.2 rfl (by decide) (.slice none 0 0) 0 [] (World.ownsRow_nil _ _ _ _) ⟨g, 0, none⟩ k (k + 1) (entC (l.take k)) (by rw [entC_len, List.length_take]; omega) (HT.out wb hwb) (entC_one _) (by unfold maxLen; omega) (by omega) hwb.size
        exact ⟨v', w', exec_appE (.const (.slice none 0 0)) (.tmp 35) 31 rfl rfl rfl hrun, own, (Below.refl _ _).grown hg (Nat.le_refl _) (fun j e => by cases e)⟩
      case UM =>
        intro X wb hwb hX
        exact wpQuiet_nil rfl
      case W2 =>
        intro X wb hwb
        unfold ExtC
        simp only [List.take_succ_cons, List.take_zero, List.drop_succ_cons, List.drop_zero]
        go_frame
        repeat (go_big_quiet_step (fail))
        exact wpQuiet_nil rfl
      intro v4 w4 hb4 own4
      have O4 : Hid (w4.ownsRow w3.heap.size 35 2 v4 (0 + k) ([] ++ entC (l.take k))) := own4
      have G4 : Hid (Below w3.heap.size w3 w4) := hb4
      have HC4 : Hid (∀ j u, (entC (l.drop (k + 1)))[j]? = some u → w4.cell? ((⟨g, 0, none⟩ : Addr).add j) = some u) := fun j u hu => row_past (w := w4) (g := g) (k := k + 1) HC1.out hu
      simp only [List.take_succ_cons, List.take_zero, List.drop_succ_cons, List.drop_zero]
      clear hb4 own4
      go_wp2_with (first
        | (at_builtin; refine wpList_append_own _ rfl (.tmp 36) (.tmp 40) 31 rfl w3.heap.size 35 i0 (.agg #[.string ⟨#[]⟩, .int .i64 0]) 2 24 Try.underlying31 I0.out.1 I0.out.2.1 I0.out.2.2.1 I0.out.2.2.2 rfl (by decide) _ (0 + k) ([] ++ entC (l.take k)) rfl O4.out ⟨g, 0, none⟩ (l.length - (k + 1)) 0 (entC (l.drop (k + 1))) rfl (by rw [entC_len, List.length_drop]) HC4.out (entC_one _) (by unfold maxLen; omega) (by omega) G4.out.size ?_; intro v8 w8 own hg hv8; have O8 := Lib.hid own; have G8 := Lib.hid (G4.out.grown hg G4.out.size (fun j e => (O4.out.lt j e).1)); have O9 : Hid (w8.ownsRow w3.heap.size 35 2 v8 (l.length - 1) (entC L2)) := del_row O8.out hk HIE.out; obtain ⟨A8, c8, hv8, hr8⟩ := own_ents O9.out HLO.out; subst hv8; have R8 := Lib.hid hr8; clear own hg O4 G4 HC4 O8 hr8)
        | (go_at_call 31; refine (CB.out _ _ _ R8.out).mono ?_; rintro e w9 ⟨rfl, hb9⟩; have B9 := Lib.hid (B3.out.trans ((G8.out.trans (hb9.mono G8.out.size)).mono B3.out.size)); clear hb9)
        | (go_at_call 30; refine (CW.out _ ((HR.out.below B9.out).mono B9.out.size)).mono ?_; rintro e w10 ⟨⟨v10, rfl, hv10⟩, hb10⟩; obtain ⟨A10, c10, rfl, hr10⟩ := hv10.read; have R10 := Lib.hid hr10; have B10 := Lib.hid (B9.out.trans (hb10.mono B9.out.size)); clear hv10 hb10 hr10)
        | (go_at_call 46; refine (CC.out A c xs _ hx ((HR.out.below B9.out).mono B9.out.size)).mono ?_; rintro e w11 ⟨⟨v11, rfl, hv11⟩, hb11⟩; have B11 := Lib.hid (B9.out.trans (hb11.mono B9.out.size)); have O11 := Lib.hid (own_low hv11 B9.out.size); clear hv11 hb11))
      go_ret2
      rw [HRR.out]
      exact ⟨⟨_, rfl, O11.out⟩, B11.out⟩
    · have HR2 := Lib.hid (HR1.out hone)
      have b1 : ¬ bt.toList = [] := bt_some (by rw [HBT.out]; omega)
      have b2 : (bt.toList == []) = false := by simpa using b1
      have b3 : bt.toList.isEmpty = false := by simpa using b1
      have HONE := Lib.hid hone
      clear hone
      by_cases hye : ye = 0
      · subst hye
        have HRR : Hid (r = cutO ys n ((bt.size : Nat) : Int)) := by show _ = _; rw [HR2.out, if_neg (by simp)]
        go_wp2_with fail
        apply wp_region_free (a2 := { tmps := #[Value.slice A xs.length c, Value.int .i64 n, Value.string nm, undef, undef, undef, Value.slice none 0 0, Value.int .i64 0, Value.slice (some ⟨g, 0, none⟩) l.length (k + 1), Value.int .i64 0, Value.int .i64 (k : Int), Value.bool true, undef, Value.string nm, Value.bool true, Value.bool false, Value.tuple #[Value.slice (some ⟨g, 0, none⟩) l.length (k + 1), Value.int .i64 0], Value.slice A xs.length c, Value.int .i64 n, Value.tuple #[Value.slice (some ⟨g, 0, none⟩) l.length (k + 1), Value.int .i64 0], Value.slice (some ⟨g, 0, none⟩) l.length (k + 1), Value.int .i64 0, Value.int .i64 0, Value.bool false, undef, Value.tuple #[Value.int .i64 (k : Int), Value.bool true], Value.slice (some ⟨g, 0, none⟩) l.length (k + 1), Value.string nm, Value.tuple #[Value.int .i64 (k : Int), Value.bool true], Value.int .i64 (k : Int), Value.bool true, Value.bool true, Value.bool false, Value.slice (some ⟨g, 0, none⟩) l.length (k + 1), Value.int .i64 (k : Int), Value.slice (some ⟨g, 0, none⟩) k (k + 1), undef, Value.slice (some ⟨g, 0, none⟩) l.length (k + 1), Value.int .i64 (k : Int), Value.int .i64 ((k : Int) + 1), Value.slice (some ⟨g, 0, none⟩) (l.length - (k + 1)) 0, undef, undef, undef, undef, undef, undef, undef, undef, undef, undef, undef, undef, undef, undef, undef, undef, undef, undef, undef, undef, undef], defers := [] }) 3 0 4 36 _ (fun X w' => w'.ownsRow w3.heap.size 35 2 X (0 + k) ([] ++ entC (l.take k))) (by kernel_rfl) (by kernel_rfl) rfl
        case hΦ => exact fun X u u' h hu => own_below h hu
        case W1 =>
          intro wb hwb
          unfold ExtC
          simp only [List.take_succ_cons, List.take_zero, List.drop_succ_cons, List.drop_zero]
          repeat (go_big_quiet_step (fail))
          exact wpQuiet_nil rfl
        case MK =>
          intro wb hwb
          obtain ⟨v', w', hrun, own, hg, _⟩ := run_append_own (P := Try.prog) (w := wb) w3.heap.size 31 _ 35 i0 (.agg #[.string ⟨#[]⟩, .int .i64 0]) 2 24 Try.underlying31 I0.out.1 I0.out.2.1 I0.out.2.2.1 I0.out.2.2.2 rfl (by decide) (.slice none 0 0) 0 [] (World.ownsRow_nil _ _ _ _) ⟨g, 0, none⟩ k (k + 1) (entC (l.take k)) (by rw [entC_len, List.length_take]; omega) (HT.out wb hwb) (entC_one _) (by unfold maxLen; omega) (by omega) hwb.size
          exact ⟨v', w', exec_appE (.const (.slice none 0 0)) (.tmp 35) 31 rfl rfl rfl hrun, own, (Below.refl _ _).grown hg (Nat.le_refl _) (fun j e => by cases e)⟩
        case UM =>
          intro X wb hwb hX
          exact wpQuiet_nil rfl
        case W2 =>
          intro X wb hwb
          unfold ExtC
          simp only [List.take_succ_cons, List.take_zero, List.drop_succ_cons, List.drop_zero]
          go_frame
          repeat (go_big_quiet_step (fail))
          exact wpQuiet_nil rfl
        intro v4 w4 hb4 own4
        have O4 : Hid (w4.ownsRow w3.heap.size 35 2 v4 (0 + k) ([] ++ entC (l.take k))) := own4
        have G4 : Hid (Below w3.heap.size w3 w4) := hb4
        have HC4 : Hid (∀ j u, (entC (l.drop (k + 1)))[j]? = some u → w4.cell? ((⟨g, 0, none⟩ : Addr).add j) = some u) := fun j u hu => row_past (w := w4) (g := g) (k := k + 1) HC1.out hu
        simp only [List.take_succ_cons, List.take_zero, List.drop_succ_cons, List.drop_zero]
        clear hb4 own4
        go_wp2_with (first
          | (at_builtin; refine wpList_append_own _ rfl (.tmp 36) (.tmp 40) 31 rfl w3.heap.size 35 i0 (.agg #[.string ⟨#[]⟩, .int .i64 0]) 2 24 Try.underlying31 I0.out.1 I0.out.2.1 I0.out.2.2.1 I0.out.2.2.2 rfl (by decide) _ (0 + k) ([] ++ entC (l.take k)) rfl O4.out ⟨g, 0, none⟩ (l.length - (k + 1)) 0 (entC (l.drop (k + 1))) rfl (by rw [entC_len, List.length_drop]) HC4.out (entC_one _) (by unfold maxLen; omega) (by omega) G4.out.size ?_; intro v8 w8 own hg hv8; have O8 := Lib.hid own; have G8 := Lib.hid (G4.out.grown hg G4.out.size (fun j e => (O4.out.lt j e).1)); have O9 : Hid (w8.ownsRow w3.heap.size 35 2 v8 (l.length - 1) (entC L2)) := del_row O8.out hk HIE.out; obtain ⟨A8, c8, hv8, hr8⟩ := own_ents O9.out HLO.out; subst hv8; have R8 := Lib.hid hr8; clear own hg O4 G4 HC4 O8 hr8)
          | (go_at_call 31; refine (CB.out _ _ _ R8.out).mono ?_; rintro e w9 ⟨rfl, hb9⟩; have B9 := Lib.hid (B3.out.trans ((G8.out.trans (hb9.mono G8.out.size)).mono B3.out.size)); clear hb9)
          | (go_at_call 30; refine (CW.out _ ((HR.out.below B9.out).mono B9.out.size)).mono ?_; rintro e w10 ⟨⟨v10, rfl, hv10⟩, hb10⟩; obtain ⟨A10, c10, rfl, hr10⟩ := hv10.read; have R10 := Lib.hid hr10; have B10 := Lib.hid (B9.out.trans (hb10.mono B9.out.size)); clear hv10 hb10 hr10)
          | (go_at_call 46; refine (CC.out A10 c10 ys _ HLE.out R10.out).mono ?_; rintro e w11 ⟨⟨v11, rfl, hv11⟩, hb11⟩; have B11 := Lib.hid (B10.out.trans (hb11.mono B10.out.size)); have O11 := Lib.hid (own_low hv11 B10.out.size); clear hv11 hb11))
        go_ret2
        rw [HRR.out]
        exact ⟨⟨_, rfl, O11.out⟩, B11.out⟩
      · have HRR : Hid (r = ([], ye)) := by show _ = _; rw [HR2.out, if_pos hye]
        have h01 : (ye != 0) = true := by simpa using hye
        clear hye
        go_wp2_with fail
        apply wp_region_free (a2 := { tmps := #[Value.slice A xs.length c, Value.int .i64 n, Value.string nm, undef, undef, undef, Value.slice none 0 0, Value.int .i64 0, Value.slice (some ⟨g, 0, none⟩) l.length (k + 1), Value.int .i64 0, Value.int .i64 (k : Int), Value.bool true, undef, Value.string nm, Value.bool true, Value.bool false, Value.tuple #[Value.slice (some ⟨g, 0, none⟩) l.length (k + 1), Value.int .i64 0], Value.slice A xs.length c, Value.int .i64 n, Value.tuple #[Value.slice (some ⟨g, 0, none⟩) l.length (k + 1), Value.int .i64 0], Value.slice (some ⟨g, 0, none⟩) l.length (k + 1), Value.int .i64 0, Value.int .i64 0, Value.bool false, undef, Value.tuple #[Value.int .i64 (k : Int), Value.bool true], Value.slice (some ⟨g, 0, none⟩) l.length (k + 1), Value.string nm, Value.tuple #[Value.int .i64 (k : Int), Value.bool true], Value.int .i64 (k : Int), Value.bool true, Value.bool true, Value.bool false, Value.slice (some ⟨g, 0, none⟩) l.length (k + 1), Value.int .i64 (k : Int), Value.slice (some ⟨g, 0, none⟩) k (k + 1), undef, Value.slice (some ⟨g, 0, none⟩) l.length (k + 1), Value.int .i64 (k : Int), Value.int .i64 ((k : Int) + 1), Value.slice (some ⟨g, 0, none⟩) (l.length - (k + 1)) 0, undef, undef, undef, undef, undef, undef, undef, undef, undef, undef, undef, undef, undef, undef, undef, undef, undef, undef, undef, undef, undef], defers := [] }) 3 0 4 36 _ (fun X w' => w'.ownsRow w3.heap.size 35 2 X (0 + k) ([] ++ entC (l.take k))) (by kernel_rfl) (by kernel_rfl) rfl
        case hΦ => exact fun X u u' h hu => own_below h hu
        case W1 =>
          intro wb hwb
          unfold ExtC
          simp only [List.take_succ_cons, List.take_zero, List.drop_succ_cons, List.drop_zero]
          repeat (go_big_quiet_step (fail))
          exact wpQuiet_nil rfl
        case MK =>
          intro wb hwb
          obtain ⟨v', w', hrun, own, hg, _⟩ := run_append_own (P := Try.prog) (w := wb) w3.heap.size 31 _ 35 i0 (.agg #[.string ⟨#[]⟩, .int .i64 0]) 2 24 Try.underlying31 I0.out.1 I0.out.2.1 I0.out.2.2.1 I0.out.2.2.2 rfl (by decide) (.slice none 0 0) 0 [] (World.ownsRow_nil _ _ _ _) ⟨g, 0, none⟩ k (k + 1) (entC (l.take k)) (by rw [entC_len, List.length_take]; omega) (HT.out wb hwb) (entC_one _) (by unfold maxLen; omega) (by omega) hwb.size
          exact ⟨v', w', exec_appE (.const (.slice none 0 0)) (.tmp 35) 31 rfl rfl rfl hrun, own, (Below.refl _ _).grown hg (Nat.le_refl _) (fun j e => by cases e)⟩
        case UM =>
          intro X wb hwb hX
          exact wpQuiet_nil rfl
        case W2 =>
          intro X wb hwb
          unfold ExtC
          simp only [List.take_succ_cons, List.take_zero, List.drop_succ_cons, List.drop_zero]
          go_frame
          repeat (go_big_quiet_step (fail))
          exact wpQuiet_nil rfl
        intro v4 w4 hb4 own4
        have O4 : Hid (w4.ownsRow w3.heap.size 35 2 v4 (0 + k) ([] ++ entC (l.take k))) := own4
        have G4 : Hid (Below w3.heap.size w3 w4) := hb4
        have HC4 : Hid (∀ j u, (entC (l.drop (k + 1)))[j]? = some u → w4.cell? ((⟨g, 0, none⟩ : Addr).add j) = some u) := fun j u hu => row_past (w := w4) (g := g) (k := k + 1) HC1.out hu
        simp only [List.take_succ_cons, List.take_zero, List.drop_succ_cons, List.drop_zero]
        clear hb4 own4
        go_wp2_with (first
          | (at_builtin; refine wpList_append_own _ rfl (.tmp 36) (.tmp 40) 31 rfl w3.heap.size 35 i0 (.agg #[.string ⟨#[]⟩, .int .i64 0]) 2 24 Try.underlying31 I0.out.1 I0.out.2.1 I0.out.2.2.1 I0.out.2.2.2 rfl (by decide) _ (0 + k) ([] ++ entC (l.take k)) rfl O4.out ⟨g, 0, none⟩ (l.length - (k + 1)) 0 (entC (l.drop (k + 1))) rfl (by rw [entC_len, List.length_drop]) HC4.out (entC_one _) (by unfold maxLen; omega) (by omega) G4.out.size ?_; intro v8 w8 own hg hv8; have O8 := Lib.hid own; have G8 := Lib.hid (G4.out.grown hg G4.out.size (fun j e => (O4.out.lt j e).1)); have O9 : Hid (w8.ownsRow w3.heap.size 35 2 v8 (l.length - 1) (entC L2)) := del_row O8.out hk HIE.out; obtain ⟨A8, c8, hv8, hr8⟩ := own_ents O9.out HLO.out; subst hv8; have R8 := Lib.hid hr8; clear own hg O4 G4 HC4 O8 hr8)
          | (go_at_call 31; refine (CB.out _ _ _ R8.out).mono ?_; rintro e w9 ⟨rfl, hb9⟩; have B9 := Lib.hid (B3.out.trans ((G8.out.trans (hb9.mono G8.out.size)).mono B3.out.size)); clear hb9)
          | (go_at_call 30; refine (CW.out _ ((HR.out.below B9.out).mono B9.out.size)).mono ?_; rintro e w10 ⟨⟨v10, rfl, hv10⟩, hb10⟩; obtain ⟨A10, c10, rfl, hr10⟩ := hv10.read; have R10 := Lib.hid hr10; have B10 := Lib.hid (B9.out.trans (hb10.mono B9.out.size)); clear hv10 hb10 hr10)
          | (go_at_call 46; refine (CC.out A10 c10 ys _ HLE.out R10.out).mono ?_; rintro e w11 ⟨⟨v11, rfl, hv11⟩, hb11⟩; have B11 := Lib.hid (B10.out.trans (hb11.mono B10.out.size)); have O11 := Lib.hid (own_low hv11 B10.out.size); clear hv11 hb11))
        go_ret2
        rw [HRR.out]
        exact RowCode.none B10.out
  · have k6 : ¬ c2 = k + 1 := fun e => hkc e.symm
    have k7 : ((k + 1 : Nat) : Int) < (c2 : Int) := by have := HC1.out; omega
    by_cases hone : l.length - 1 = 0
    · have HRR := Lib.hid (HR0.out hone)
      have b1 : bt.toList = [] := bt_nil (by rw [HBT.out, hone])
      have b2 : (bt.toList == []) = true := by rw [b1]; rfl
      have b3 : bt.toList.isEmpty = true := by rw [b1]; rfl
      have HONE := Lib.hid hone
      clear hone
      go_wp2_with fail
      apply wp_region_free (a2 := { tmps := #[Value.slice A xs.length c, Value.int .i64 n, Value.string nm, undef, undef, undef, Value.slice none 0 0, Value.int .i64 0, Value.slice (some ⟨g, 0, none⟩) l.length c2, Value.int .i64 0, Value.int .i64 (k : Int), Value.bool true, undef, Value.string nm, Value.bool true, Value.bool false, Value.tuple #[Value.slice (some ⟨g, 0, none⟩) l.length c2, Value.int .i64 0], Value.slice A xs.length c, Value.int .i64 n, Value.tuple #[Value.slice (some ⟨g, 0, none⟩) l.length c2, Value.int .i64 0], Value.slice (some ⟨g, 0, none⟩) l.length c2, Value.int .i64 0, Value.int .i64 0, Value.bool false, undef, Value.tuple #[Value.int .i64 (k : Int), Value.bool true], Value.slice (some ⟨g, 0, none⟩) l.length c2, Value.string nm, Value.tuple #[Value.int .i64 (k : Int), Value.bool true], Value.int .i64 (k : Int), Value.bool true, Value.bool true, Value.bool false, Value.slice (some ⟨g, 0, none⟩) l.length c2, Value.int .i64 (k : Int), Value.slice (some ⟨g, 0, none⟩) k c2, undef, Value.slice (some ⟨g, 0, none⟩) l.length c2, Value.int .i64 (k : Int), Value.int .i64 ((k : Int) + 1), Value.slice (some ⟨g, (k + 1) * 2, none⟩) (l.length - (k + 1)) (c2 - (k + 1)), undef, undef, undef, undef, undef, undef, undef, undef, undef, undef, undef, undef, undef, undef, undef, undef, undef, undef, undef, undef, undef], defers := [] }) 3 0 4 36 _ (fun X w' => w'.ownsRow w3.heap.size 35 2 X (0 + k) ([] ++ entC (l.take k))) (by kernel_rfl) (by kernel_rfl) rfl
      case hΦ => exact fun X u u' h hu => own_below h hu
      case W1 =>
        intro wb hwb
        unfold ExtC
        simp only [List.take_succ_cons, List.take_zero, List.drop_succ_cons, List.drop_zero]
        repeat (go_big_quiet_step (fail))
        exact wpQuiet_nil rfl
      case MK =>
        intro wb hwb
        obtain ⟨v', w', hrun, own, hg, _⟩ := run_append_own (P := Try.prog) (w := wb) w3.heap.size 31 _ 35 i0 (.agg #[.string ⟨#[]⟩, .int .i64 0]) 2 24 Try.underlying31 I0.out.1 I0.out.2.1 I0.out.2.2.1 I0.out.2.2.2 rfl (by decide) (.slice none 0 0) 0 [] (World.ownsRow_nil _ _ _ _) ⟨g, 0, none⟩ k c2 (entC (l.take k)) (by rw [entC_len, List.length_take]; omega) (HT.out wb hwb) (entC_one _) (by unfold maxLen; omega) (by omega) hwb.size
        exact ⟨v', w', exec_appE (.const (.slice none 0 0)) (.tmp 35) 31 rfl rfl rfl hrun, own, (Below.refl _ _).grown hg (Nat.le_refl _) (fun j e => by cases e)⟩
      case UM =>
        intro X wb hwb hX
        exact wpQuiet_nil rfl
      case W2 =>
        intro X wb hwb
        unfold ExtC
        simp only [List.take_succ_cons, List.take_zero, List.drop_succ_cons, List.drop_zero]
        go_frame
        repeat (go_big_quiet_step (fail))
        exact wpQuiet_nil rfl
      intro v4 w4 hb4 own4
      have O4 : Hid (w4.ownsRow w3.heap.size 35 2 v4 (0 + k) ([] ++ entC (l.take k))) := own4
      have G4 : Hid (Below w3.heap.size w3 w4) := hb4
      have HC4 : Hid (∀ j u, (entC (l.drop (k + 1)))[j]? = some u → w4.cell? ((⟨g, (k + 1) * 2, none⟩ : Addr).add j) = some u) := fun j u hu => row_drop G4.out HG3.out HC3.out (k := k + 1) hu
      simp only [List.take_succ_cons, List.take_zero, List.drop_succ_cons, List.drop_zero]
      clear hb4 own4
      go_wp2_with (first
        | (at_builtin; refine wpList_append_own _ rfl (.tmp 36) (.tmp 40) 31 rfl w3.heap.size 35 i0 (.agg #[.string ⟨#[]⟩, .int .i64 0]) 2 24 Try.underlying31 I0.out.1 I0.out.2.1 I0.out.2.2.1 I0.out.2.2.2 rfl (by decide) _ (0 + k) ([] ++ entC (l.take k)) rfl O4.out ⟨g, (k + 1) * 2, none⟩ (l.length - (k + 1)) (c2 - (k + 1)) (entC (l.drop (k + 1))) rfl (by rw [entC_len, List.length_drop]) HC4.out (entC_one _) (by unfold maxLen; omega) (by omega) G4.out.size ?_; intro v8 w8 own hg hv8; have O8 := Lib.hid own; have G8 := Lib.hid (G4.out.grown hg G4.out.size (fun j e => (O4.out.lt j e).1)); have O9 : Hid (w8.ownsRow w3.heap.size 35 2 v8 (l.length - 1) (entC L2)) := del_row O8.out hk HIE.out; obtain ⟨A8, c8, hv8, hr8⟩ := own_ents O9.out HLO.out; subst hv8; have R8 := Lib.hid hr8; clear own hg O4 G4 HC4 O8 hr8)
        | (go_at_call 31; refine (CB.out _ _ _ R8.out).mono ?_; rintro e w9 ⟨rfl, hb9⟩; have B9 := Lib.hid (B3.out.trans ((G8.out.trans (hb9.mono G8.out.size)).mono B3.out.size)); clear hb9)
        | (go_at_call 30; refine (CW.out _ ((HR.out.below B9.out).mono B9.out.size)).mono ?_; rintro e w10 ⟨⟨v10, rfl, hv10⟩, hb10⟩; obtain ⟨A10, c10, rfl, hr10⟩ := hv10.read; have R10 := Lib.hid hr10; have B10 := Lib.hid (B9.out.trans (hb10.mono B9.out.size)); clear hv10 hb10 hr10)
        | (go_at_call 46; refine (CC.out A c xs _ hx ((HR.out.below B9.out).mono B9.out.size)).mono ?_; rintro e w11 ⟨⟨v11, rfl, hv11⟩, hb11⟩; have B11 := Lib.hid (B9.out.trans (hb11.mono B9.out.size)); have O11 := Lib.hid (own_low hv11 B9.out.size); clear hv11 hb11))
      go_ret2
      rw [HRR.out]
      exact ⟨⟨_, rfl, O11.out⟩, B11.out⟩
    · have HR2 := Lib.hid (HR1.out hone)
      have b1 : ¬ bt.toList = [] := bt_some (by rw [HBT.out]; omega)
      have b2 : (bt.toList == []) = false := by simpa using b1
      have b3 : bt.toList.isEmpty = false := by simpa using b1
      have HONE := Lib.hid hone
      clear hone
      by_cases hye : ye = 0
      · subst hye
        have HRR : Hid (r = cutO ys n ((bt.size : Nat) : Int)) := by show _ = _; rw [HR2.out, if_neg (by simp)]
        go_wp2_with fail
        apply wp_region_free (a2 := { tmps := #[Value.slice A xs.length c, Value.int .i64 n, Value.string nm, undef, undef, undef, Value.slice none 0 0, Value.int .i64 0, Value.slice (some ⟨g, 0, none⟩) l.length c2, Value.int .i64 0, Value.int .i64 (k : Int), Value.bool true, undef, Value.string nm, Value.bool true, Value.bool false, Value.tuple #[Value.slice (some ⟨g, 0, none⟩) l.length c2, Value.int .i64 0], Value.slice A xs.length c, Value.int .i64 n, Value.tuple #[Value.slice (some ⟨g, 0, none⟩) l.length c2, Value.int .i64 0], Value.slice (some ⟨g, 0, none⟩) l.length c2, Value.int .i64 0, Value.int .i64 0, Value.bool false, undef, Value.tuple #[Value.int .i64 (k : Int), Value.bool true], Value.slice (some ⟨g, 0, none⟩) l.length c2, Value.string nm, Value.tuple #[Value.int .i64 (k : Int), Value.bool true], Value.int .i64 (k : Int), Value.bool true, Value.bool true, Value.bool false, Value.slice (some ⟨g, 0, none⟩) l.length c2, Value.int .i64 (k : Int), Value.slice (some ⟨g, 0, none⟩) k c2, undef, Value.slice (some ⟨g, 0, none⟩) l.length c2, Value.int .i64 (k : Int), Value.int .i64 ((k : Int) + 1), Value.slice (some ⟨g, (k + 1) * 2, none⟩) (l.length - (k + 1)) (c2 - (k + 1)), undef, undef, undef, undef, undef, undef, undef, undef, undef, undef, undef, undef, undef, undef, undef, undef, undef, undef, undef, undef, undef], defers := [] }) 3 0 4 36 _ (fun X w' => w'.ownsRow w3.heap.size 35 2 X (0 + k) ([] ++ entC (l.take k))) (by kernel_rfl) (by kernel_rfl) rfl
        case hΦ => exact fun X u u' h hu => own_below h hu
        case W1 =>
          intro wb hwb
          unfold ExtC
          simp only [List.take_succ_cons, List.take_zero, List.drop_succ_cons, List.drop_zero]
          repeat (go_big_quiet_step (fail))
          exact wpQuiet_nil rfl
        case MK =>
          intro wb hwb
          obtain ⟨v', w', hrun, own, hg, _⟩ := run_append_own (P := Try.prog) (w := wb) w3.heap.size 31 _ 35 i0 (.agg #[.string ⟨#[]⟩, .int .i64 0]) 2 24 Try.underlying31 I0.out.1 I0.out.2.1 I0.out.2.2.1 I0.out.2.2.2 rfl (by decide) (.slice none 0 0) 0 [] (World.ownsRow_nil _ _ _ _) ⟨g, 0, none⟩ k c2 (entC (l.take k)) (by rw [entC_len, List.length_take]; omega) (HT.out wb hwb) (entC_one _) (by unfold maxLen; omega) (by omega) hwb.size
          exact ⟨v', w', exec_appE (.const (.slice none 0 0)) (.tmp 35) 31 rfl rfl rfl hrun, own, (Below.refl _ _).grown hg (Nat.le_refl _) (fun j e => by cases e)⟩
        case UM =>
          intro X wb hwb hX
          exact wpQuiet_nil rfl
        case W2 =>
          intro X wb hwb
          unfold ExtC
          simp only [List.take_succ_cons, List.take_zero, List.drop_succ_cons, List.drop_zero]
          go_frame
          repeat (go_big_quiet_step (fail))
          exact wpQuiet_nil rfl
        intro v4 w4 hb4 own4
        have O4 : Hid (w4.ownsRow w3.heap.size 35 2 v4 (0 + k) ([] ++ entC (l.take k))) := own4
        have G4 : Hid (Below w3.heap.size w3 w4) := hb4
        have HC4 : Hid (∀ j u, (entC (l.drop (k + 1)))[j]? = some u → w4.cell? ((⟨g, (k + 1) * 2, none⟩ : Addr).add j) = some u) := fun j u hu => row_drop G4.out HG3.out HC3.out (k := k + 1) hu
        simp only [List.take_succ_cons, List.take_zero, List.drop_succ_cons, List.drop_zero]
        clear hb4 own4
        go_wp2_with (first
          | (at_builtin; refine wpList_append_own _ rfl (.tmp 36) (.tmp 40) 31 rfl w3.heap.size 35 i0 (.agg #[.string ⟨#[]⟩, .int .i64 0]) 2 24 Try.underlying31 I0.out.1 I0.out.2.1 I0.out.2.2.1 I0.out.2.2.2 rfl (by decide) _ (0 + k) ([] ++ entC (l.take k)) rfl O4.out ⟨g, (k + 1) * 2, none⟩ (l.length - (k + 1)) (c2 - (k + 1)) (entC (l.drop (k + 1))) rfl (by rw [entC_len, List.length_drop]) HC4.out (entC_one _) (by unfold maxLen; omega) (by omega) G4.out.size ?_; intro v8 w8 own hg hv8; have O8 := Lib.hid own; have G8 := Lib.hid (G4.out.grown hg G4.out.size (fun j e => (O4.out.lt j e).1)); have O9 : Hid (w8.ownsRow w3.heap.size 35 2 v8 (l.length - 1) (entC L2)) := del_row O8.out hk HIE.out; obtain ⟨A8, c8, hv8, hr8⟩ := own_ents O9.out HLO.out; subst hv8; have R8 := Lib.hid hr8; clear own hg O4 G4 HC4 O8 hr8)
          | (go_at_call 31; refine (CB.out _ _ _ R8.out).mono ?_; rintro e w9 ⟨rfl, hb9⟩; have B9 := Lib.hid (B3.out.trans ((G8.out.trans (hb9.mono G8.out.size)).mono B3.out.size)); clear hb9)
          | (go_at_call 30; refine (CW.out _ ((HR.out.below B9.out).mono B9.out.size)).mono ?_; rintro e w10 ⟨⟨v10, rfl, hv10⟩, hb10⟩; obtain ⟨A10, c10, rfl, hr10⟩ := hv10.read; have R10 := Lib.hid hr10; have B10 := Lib.hid (B9.out.trans (hb10.mono B9.out.size)); clear hv10 hb10 hr10)
          | (go_at_call 46; refine (CC.out A10 c10 ys _ HLE.out R10.out).mono ?_; rintro e w11 ⟨⟨v11, rfl, hv11⟩, hb11⟩; have B11 := Lib.hid (B10.out.trans (hb11.mono B10.out.size)); have O11 := Lib.hid (own_low hv11 B10.out.size); clear hv11 hb11))
        go_ret2
        rw [HRR.out]
        exact ⟨⟨_, rfl, O11.out⟩, B11.out⟩
      · have HRR : Hid (r = ([], ye)) := by show _ = _; rw [HR2.out, if_pos hye]
        have h01 : (ye != 0) = true := by simpa using hye
        clear hye
        go_wp2_with fail
        apply wp_region_free (a2 := { tmps := #[Value.slice A xs.length c, Value.int .i64 n, Value.string nm, undef, undef, undef, Value.slice none 0 0, Value.int .i64 0, Value.slice (some ⟨g, 0, none⟩) l.length c2, Value.int .i64 0, Value.int .i64 (k : Int), Value.bool true, undef, Value.string nm, Value.bool true, Value.bool false, Value.tuple #[Value.slice (some ⟨g, 0, none⟩) l.length c2, Value.int .i64 0], Value.slice A xs.length c, Value.int .i64 n, Value.tuple #[Value.slice (some ⟨g, 0, none⟩) l.length c2, Value.int .i64 0], Value.slice (some ⟨g, 0, none⟩) l.length c2, Value.int .i64 0, Value.int .i64 0, Value.bool false, undef, Value.tuple #[Value.int .i64 (k : Int), Value.bool true], Value.slice (some ⟨g, 0, none⟩) l.length c2, Value.string nm, Value.tuple #[Value.int .i64 (k : Int), Value.bool true], Value.int .i64 (k : Int), Value.bool true, Value.bool true, Value.bool false, Value.slice (some ⟨g, 0, none⟩) l.length c2, Value.int .i64 (k : Int), Value.slice (some ⟨g, 0, none⟩) k c2, undef, Value.slice (some ⟨g, 0, none⟩) l.length c2, Value.int .i64 (k : Int), Value.int .i64 ((k : Int) + 1), Value.slice (some ⟨g, (k + 1) * 2, none⟩) (l.length - (k + 1)) (c2 - (k + 1)), undef, undef, undef, undef, undef, undef, undef, undef, undef, undef, undef, undef, undef, undef, undef, undef, undef, undef, undef, undef, undef], defers := [] }) 3 0 4 36 _ (fun X w' => w'.ownsRow w3.heap.size 35 2 X (0 + k) ([] ++ entC (l.take k))) (by kernel_rfl) (by kernel_rfl) rfl
        case hΦ => exact fun X u u' h hu => own_below h hu
        case W1 =>
          intro wb hwb
          unfold ExtC
          simp only [List.take_succ_cons, List.take_zero, List.drop_succ_cons, List.drop_zero]
          repeat (go_big_quiet_step (fail))
          exact wpQuiet_nil rfl
        case MK =>
          intro wb hwb
          obtain ⟨v', w', hrun, own, hg, _⟩ := run_append_own (P := Try.prog) (w := wb) w3.heap.size 31 _ 35 i0 (.agg #[.string ⟨#[]⟩, .int .i64 0]) 2 24 Try.underlying31 I0.out.1 I0.out.2.1 I0.out.2.2.1 I0.out.2.2.2 rfl (by decide) (.slice none 0 0) 0 [] (World.ownsRow_nil _ _ _ _) ⟨g, 0, none⟩ k c2 (entC (l.take k)) (by rw [entC_len, List.length_take]; omega) (HT.out wb hwb) (entC_one _) (by unfold maxLen; omega) (by omega) hwb.size
          exact ⟨v', w', exec_appE (.const (.slice none 0 0)) (.tmp 35) 31 rfl rfl rfl hrun, own, (Below.refl _ _).grown hg (Nat.le_refl _) (fun j e => by cases e)⟩
        case UM =>
          intro X wb hwb hX
          exact wpQuiet_nil rfl
        case W2 =>
          intro X wb hwb
          unfold ExtC
          simp only [List.take_succ_cons, List.take_zero, List.drop_succ_cons, List.drop_zero]
          go_frame
          repeat (go_big_quiet_step (fail))
          exact wpQuiet_nil rfl
        intro v4 w4 hb4 own4
        have O4 : Hid (w4.ownsRow w3.heap.size 35 2 v4 (0 + k) ([] ++ entC (l.take k))) := own4
        have G4 : Hid (Below w3.heap.size w3 w4) := hb4
        have HC4 : Hid (∀ j u, (entC (l.drop (k + 1)))[j]? = some u → w4.cell? ((⟨g, (k + 1) * 2, none⟩ : Addr).add j) = some u) := fun j u hu => row_drop G4.out HG3.out HC3.out (k := k + 1) hu
        simp only [List.take_succ_cons, List.take_zero, List.drop_succ_cons, List.drop_zero]
        clear hb4 own4
        go_wp2_with (first
          | (at_builtin; refine wpList_append_own _ rfl (.tmp 36) (.tmp 40) 31 rfl w3.heap.size 35 i0 (.agg #[.string ⟨#[]⟩, .int .i64 0]) 2 24 Try.underlying31 I0.out.1 I0.out.2.1 I0.out.2.2.1 I0.out.2.2.2 rfl (by decide) _ (0 + k) ([] ++ entC (l.take k)) rfl O4.out ⟨g, (k + 1) * 2, none⟩ (l.length - (k + 1)) (c2 - (k + 1)) (entC (l.drop (k + 1))) rfl (by rw [entC_len, List.length_drop]) HC4.out (entC_one _) (by unfold maxLen; omega) (by omega) G4.out.size ?_; intro v8 w8 own hg hv8; have O8 := Lib.hid own; have G8 := Lib.hid (G4.out.grown hg G4.out.size (fun j e => (O4.out.lt j e).1)); have O9 : Hid (w8.ownsRow w3.heap.size 35 2 v8 (l.length - 1) (entC L2)) := del_row O8.out hk HIE.out; obtain ⟨A8, c8, hv8, hr8⟩ := own_ents O9.out HLO.out; subst hv8; have R8 := Lib.hid hr8; clear own hg O4 G4 HC4 O8 hr8)
          | (go_at_call 31; refine (CB.out _ _ _ R8.out).mono ?_; rintro e w9 ⟨rfl, hb9⟩; have B9 := Lib.hid (B3.out.trans ((G8.out.trans (hb9.mono G8.out.size)).mono B3.out.size)); clear hb9)
          | (go_at_call 30; refine (CW.out _ ((HR.out.below B9.out).mono B9.out.size)).mono ?_; rintro e w10 ⟨⟨v10, rfl, hv10⟩, hb10⟩; obtain ⟨A10, c10, rfl, hr10⟩ := hv10.read; have R10 := Lib.hid hr10; have B10 := Lib.hid (B9.out.trans (hb10.mono B9.out.size)); clear hv10 hb10 hr10)
          | (go_at_call 46; refine (CC.out A10 c10 ys _ HLE.out R10.out).mono ?_; rintro e w11 ⟨⟨v11, rfl, hv11⟩, hb11⟩; have B11 := Lib.hid (B10.out.trans (hb11.mono B10.out.size)); have O11 := Lib.hid (own_low hv11 B10.out.size); clear hv11 hb11))
        go_ret2
        rw [HRR.out]
        exact RowCode.none B10.out
set_option maxHeartbeats 4000000 in
theorem drop_any (A : Option Addr) (c : Nat) (xs : List ByteArray) (n : Int) (nm : ByteArray) (w : World) (hx : xs.length ≤ 1000000) (hs : nm.size ≤ 140737488355328) (h : RowAt w w.heap.size A (xs.map .string)) :
    Calls Try.prog 25 #[.slice A xs.length c, .int .i64 n, .string nm] w (RowCode (dropO xs n nm).1 (dropO xs n nm).2 w) := by
  have CM := Lib.hid (may_any nm w hs)
  cases hm : mayB nm.data.toList with
  | false =>
    have HO : Hid (dropO xs n nm = ([], 7)) := by show _ = _; unfold dropO; rw [if_pos hm]
    rw [hm] at CM
    clear hm h
    go_enter Try.func25, Try.ntmps25
    go_wp2_with fail
    refine CM.out.mono ?_
    rintro e w1 ⟨rfl, hb1⟩
    have B1 := Lib.hid hb1
    go_wp2
    go_ret2
    rw [HO.out]
    exact RowCode.none B1.out
  | true =>
    have CL := Lib.hid (fun w h => list_any A c xs n w hx h)
    have HR := Lib.hid h
    by_cases h0 : (listO xs n).2 = 0
    · cases hh : hasE (listO xs n).1 nm with
      | true => exact drop_main A c xs n nm w hx hs h (listO xs n).1 hm (by rw [← h0]) hh
      | false =>
        have HO : Hid (dropO xs n nm = ([], 9)) := by show _ = _; unfold dropO; rw [if_neg (by rw [hm]; simp), if_neg (by rw [h0]; simp), if_pos hh]
        rw [hm] at CM
        have HV := Lib.hid (listO_valid (xs := xs) (n := n))
        have HN := Lib.hid (listO_len (xs := xs) (n := n))
        generalize listO xs n = lo at *
        obtain ⟨l, le⟩ := lo
        dsimp only at HV HN h0 hh
        subst h0
        have CS := Lib.hid (fun A c w h => search_any A c l nm w HN.out HV.out.rise h)
        rw [hh] at CS
        unfold ListPost at CL
        dsimp only at CL
        clear hm h hh
        go_enter Try.func25, Try.ntmps25
        go_wp2_with fail
        refine CM.out.mono ?_
        rintro e w1 ⟨rfl, hb1⟩
        have B1 := Lib.hid hb1
        clear hb1 CM
        go_wp2_with fail
        refine (CL.out _ ((HR.out.below B1.out).mono B1.out.size)).mono ?_
        rintro e w2 ⟨⟨v, rfl, hv⟩, hb2⟩
        have B2 := Lib.hid (B1.out.trans (hb2.mono B1.out.size))
        obtain ⟨A2, c2, rfl, hr2⟩ := OwnEnts.read2 hv
        have R2 := Lib.hid hr2
        clear hb2 hv hr2 CL
        go_wp2_with fail
        refine (CS.out _ _ _ R2.out).mono ?_
        rintro e w3 ⟨rfl, hb3⟩
        have B3 := Lib.hid (B2.out.trans (hb3.mono B2.out.size))
        clear hb3 CS
        go_wp2
        go_ret2
        rw [HO.out]
        exact RowCode.none B3.out
    · have HO : Hid (dropO xs n nm = ([], (listO xs n).2)) := by show _ = _; unfold dropO; rw [if_neg (by rw [hm]; simp), if_pos h0]
      rw [hm] at CM
      generalize listO xs n = lo at *
      obtain ⟨l, le⟩ := lo
      dsimp only at h0 HO
      unfold ListPost at CL
      dsimp only at CL
      have h01 : (le != 0) = true := by simpa using h0
      clear hm h h0
      go_enter Try.func25, Try.ntmps25
      go_wp2_with fail
      refine CM.out.mono ?_
      rintro e w1 ⟨rfl, hb1⟩
      have B1 := Lib.hid hb1
      clear hb1 CM
      go_wp2_with fail
      refine (CL.out _ ((HR.out.below B1.out).mono B1.out.size)).mono ?_
      rintro e w2 ⟨⟨v, rfl, hv⟩, hb2⟩
      have B2 := Lib.hid (B1.out.trans (hb2.mono B1.out.size))
      clear hb2 hv CL
      go_wp2
      go_ret2
      rw [HO.out]
      exact RowCode.none B2.out
end Go.Proofs.Ytoanladhikdcaaa

namespace Go.Proofs.Ytoanladhikdcaaa
open Go.RowKit
set_option linter.unusedVariables false
set_option linter.unusedSimpArgs false
set_option maxRecDepth 100000
def nmS (i : Nat) : ByteArray := ⟨#[110, UInt8.ofNat (97 + i / 10), UInt8.ofNat (48 + i % 10)]⟩
theorem nm_all : ((List.range 41).all fun i => okE ⟨nmS i, ((1 + i : Nat) : Int)⟩ && (List.range 41).all fun j => (i == j) || !decide (nmS i = nmS j)) = true := by kernel_rfl
theorem nm_ok {i : Nat} (hi : i < 41) : okE ⟨nmS i, ((1 + i : Nat) : Int)⟩ = true := by
  have := List.all_eq_true.1 nm_all i (List.mem_range.2 hi)
  exact (Bool.and_eq_true_iff.1 this).1
theorem nm_ne {i j : Nat} (hi : i < 41) (hj : j < 41) (h : nmS i = nmS j) : i = j := by
  have := List.all_eq_true.1 nm_all i (List.mem_range.2 hi)
  have := List.all_eq_true.1 (Bool.and_eq_true_iff.1 this).2 j (List.mem_range.2 hj)
  rw [h] at this
  simpa using this
theorem nm_size (i : Nat) : (nmS i).size = 3 := rfl
set_option maxHeartbeats 2000000 in
theorem nm20_any (i : Nat) (w : World) (hi : i < 41) : Calls Try.prog 27 #[.int .i64 (i : Int)] w fun e w' => e = .returned (.string (nmS i)) ∧ Below w.heap.size w w' := by
  obtain ⟨a, ha⟩ : ∃ a, 97 + i / 10 = a := ⟨_, rfl⟩
  obtain ⟨b, hb⟩ : ∃ b, 48 + i % 10 = b := ⟨_, rfl⟩
  have ha2 : a < 256 := by omega
  have hb2 : b < 256 := by omega
  have ea : (a : Int) = 97 + (i : Int) / 10 := by omega
  have eb : (b : Int) = 48 + (i : Int) % 10 := by omega
  have HS : Hid (nmS i = ⟨#[110, UInt8.ofNat a, UInt8.ofNat b]⟩) := by show _ = _; unfold nmS; rw [ha, hb]
  have cv : (convert 53 9 (.slice (some ⟨w.heap.size, 0, none⟩) 3 3)).run Try.prog (w.alloc (.cells #[.int .u8 110, .int .u8 (a : Int), .int .u8 (b : Int)] 5)) = .ok (.string (nmS i)) (w.alloc (.cells #[.int .u8 110, .int .u8 (a : Int), .int .u8 (b : Int)] 5)) := by
    rw [HS.out]
    refine conv_blk (P := Try.prog) (t := 5) 3 ?_ rfl 3 Try.underlying53 Try.underlying5 Try.underlying9
    have e1 : (UInt8.ofNat a).toNat = a := by rw [UInt8.toNat_ofNat']; exact Nat.mod_eq_of_lt (by omega)
    have e2 : (UInt8.ofNat b).toNat = b := by rw [UInt8.toNat_ofNat']; exact Nat.mod_eq_of_lt (by omega)
    rw [show ((⟨#[110, UInt8.ofNat a, UInt8.ofNat b]⟩ : ByteArray).data.toList.map fun x => Value.int .u8 (x.toNat : Int)).toArray = #[.int .u8 110, .int .u8 (a : Int), .int .u8 (b : Int)] by simp [e1, e2]]
    exact Blk.new _ _ _
  rw [ea, eb] at cv
  generalize nmS i = s at *
  clear ha hb HS ea eb
  go_enter Try.func27, Try.ntmps27
  go_wp2
  go_ret
  exact ⟨rfl, (Below.refl _ _).alloc (Nat.le_refl _) _⟩
end Go.Proofs.Ytoanladhikdcaaa

namespace Go.Proofs.Ytoanladhikdcaaa
open Go.RowKit
set_option linter.unusedVariables false
set_option linter.unusedSimpArgs false
set_option maxRecDepth 100000
def dpN (m i : Nat) : Nat := if m % 7 = 0 then i else (7 * i) % m
theorem dp_all : ((List.range 41).all fun m => m % 7 == 0 || (List.range m).all fun i => (List.range i).all fun j => (7 * j) % m != (7 * i) % m) = true := by kernel_rfl
theorem dp_lt {m i : Nat} (h : i < m) : dpN m i < m := by
  unfold dpN
  split
  · exact h
  · exact Nat.mod_lt _ (by omega)
theorem dp_ne {m i j : Nat} (hm : m < 41) (hi : i < m) (hj : j < i) : dpN m j ≠ dpN m i := by
  unfold dpN
  by_cases h7 : m % 7 = 0
  · rw [if_pos h7, if_pos h7]; omega
  · rw [if_neg h7, if_neg h7]
    have h1 := List.all_eq_true.1 dp_all m (List.mem_range.2 hm)
    have h2 := (Bool.or_eq_true_iff.1 h1).resolve_left (by simpa using h7)
    have h3 := List.all_eq_true.1 (List.all_eq_true.1 h2 i (List.mem_range.2 hi)) j (List.mem_range.2 hj)
    simpa using h3
/-- so many names are in -/
def LpV (V : List ByteArray) (k : Nat) : Prop := ∃ E, DirR V 8 1 17 E ∧ E.length = k ∧ ∀ j, j < 41 → (hasE E (nmS j) = true ↔ j < k)
theorem LpV.start : LpV tpV 0 := ⟨[], tp_dirR, rfl, fun j _ => ⟨fun h => (by rw [show hasE [] (nmS j) = false from rfl] at h; cases h), fun h => absurd h (Nat.not_lt_zero _)⟩⟩
theorem LpV.vol {V : List ByteArray} {k : Nat} (h : LpV V k) : V.length ≤ 223 := by
  obtain ⟨E, h, _⟩ := h
  have := h.dir.file.ok.vol.len
  dsimp only at this
  omega
theorem LpV.step {V : List ByteArray} {k : Nat} (h : LpV V k) (hk : k < 40) : (addO V 1 (nmS k) ((1 + k : Nat) : Int)).2 = 0 ∧ LpV (addO V 1 (nmS k) ((1 + k : Nat) : Int)).1 (k + 1) := by
  obtain ⟨E, hD, hl, hh⟩ := h
  have hn : hasE E (nmS k) = false := by
    cases e : hasE E (nmS k) with
    | false => rfl
    | true => exact absurd ((hh k (by omega)).1 e) (Nat.lt_irrefl _)
  obtain ⟨a, b⟩ := hD.add (nm := nmS k) (ino := ((1 + k : Nat) : Int)) (nm_ok (by omega)) hn (by omega) (by decide)
  refine ⟨a, _, b, by rw [insE_len, hl], fun j hj => ?_⟩
  rw [has_insE, Bool.or_eq_true, hh j hj, decide_eq_true_iff]
  constructor
  · rintro (e | e)
    · have := nm_ne (by omega) hj e; omega
    · omega
  · intro e
    by_cases e2 : j = k
    · left; rw [e2]
    · right; omega
theorem LpV.room {V : List ByteArray} {k : Nat} (h : LpV V k) : roomR V + (needN (32 * k) + if 6 < needN (32 * k) then 1 else 0) = 17 := by
  obtain ⟨E, hD, hl, hh⟩ := h
  rw [← hl]
  exact hD.room
/-- so many are out again -/
def LqV (V : List ByteArray) (m i : Nat) : Prop := ∃ E, DirR V 8 1 17 E ∧ E.length + i = m ∧ ∀ j, j < m → (hasE E (nmS j) = true ↔ ∀ k, k < i → dpN m k ≠ j)
theorem LqV.start {V : List ByteArray} {m : Nat} (h : LpV V m) (hm : m < 41) : LqV V m 0 := by
  obtain ⟨E, hD, hl, hh⟩ := h
  exact ⟨E, hD, hl, fun j hj => ⟨fun _ k h => absurd h (Nat.not_lt_zero _), fun _ => (hh j (by omega)).2 hj⟩⟩
theorem LqV.vol {V : List ByteArray} {m i : Nat} (h : LqV V m i) : V.length ≤ 223 := by
  obtain ⟨E, h, _⟩ := h
  have := h.dir.file.ok.vol.len
  dsimp only at this
  omega
theorem LqV.step {V : List ByteArray} {m i : Nat} (h : LqV V m i) (hm : m < 41) (hi : i < m) : (dropO V 1 (nmS (dpN m i))).2 = 0 ∧ LqV (dropO V 1 (nmS (dpN m i))).1 m (i + 1) := by
  obtain ⟨E, hD, hl, hh⟩ := h
  have hp := dp_lt hi
  have hn : hasE E (nmS (dpN m i)) = true := (hh _ hp).2 fun k hk => dp_ne hm hi hk
  have hok := okE_ok (nm_ok (i := dpN m i) (by omega))
  obtain ⟨a, b⟩ := hD.drop (nm := nmS (dpN m i)) hok.1 hn
  have hlen := outE_len hD.dir.valid hn
  refine ⟨a, _, b, by omega, fun j hj => ?_⟩
  rw [has_outE, Bool.and_eq_true, hh j hj]
  constructor
  · rintro ⟨h1, h2⟩ k hk e
    by_cases e2 : k = i
    · rw [← e, e2] at h2; simp at h2
    · exact h1 k (by omega) e
  · intro h1
    refine ⟨fun k hk => h1 k (by omega), ?_⟩
    have : nmS j ≠ nmS (dpN m i) := fun e => h1 i (by omega) (nm_ne (by omega) (by omega) e).symm
    simp [this]
theorem LqV.room {V : List ByteArray} {m : Nat} (h : LqV V m m) : roomR V = 17 := by
  obtain ⟨E, hD, hl, hh⟩ := h
  have h0 : E.length = 0 := by omega
  have := hD.room
  rw [h0] at this
  exact this
set_option maxHeartbeats 1000000 in
theorem law_rooms (n : Nat) (w : World) (hn : n < 256) :
    Calls Try.prog 8 #[.int .u8 (n : Int)] w fun e w' => e = .returned (.bool true) ∧ Below w.heap.size w w' := by
  have CT := Lib.hid (top_any w)
  have CA := Lib.hid (fun w => awake_any w)
  obtain ⟨m, hm⟩ : ∃ m, n % 41 = m := ⟨_, rfl⟩
  have hm41 : m < 41 := by omega
  have hmi : (n : Int) % 41 = (m : Int) := by omega
  have CN := Lib.hid (fun i w h => nm20_any i w h)
  have CR : Hid (∀ A c (V : List ByteArray) w, V.length ≤ 223 → RowAt w w.heap.size A (V.map .string) → Calls Try.prog 26 #[.slice A V.length c] w fun e w' => e = .returned (.int .i64 (roomR V : Nat)) ∧ Below w.heap.size w w') := fun A c V w hV h => room_any A c V w (by omega) h
  have CAd : Hid (∀ A c V k w, LpV V k → k < 40 → RowAt w w.heap.size A (V.map .string) → Calls Try.prog 13 #[.slice A V.length c, .int .i64 1, .string (nmS k), .int .i64 ((1 + k : Nat) : Int)] w fun e w' => ∃ W A' c', e = .returned (.tuple #[.slice A' W.length c', .int .i64 0]) ∧ LpV W (k + 1) ∧ RowAt w' w'.heap.size A' (W.map .string) ∧ Below w.heap.size w w') := fun A c V k w hL hk h => by
    obtain ⟨a, b⟩ := hL.step hk
    refine (add_any A c V 1 (nmS k) ((1 + k : Nat) : Int) w (by have := hL.vol; omega) (by rw [nm_size]; decide) h).mono ?_
    rintro e w' ⟨⟨v, rfl, hv⟩, hb⟩
    obtain ⟨A', c', rfl, hr⟩ := hv.read
    exact ⟨_, A', c', by rw [a], b, hr, hb⟩
  have CDr : Hid (∀ A c V i w, LqV V m i → i < m → RowAt w w.heap.size A (V.map .string) → Calls Try.prog 25 #[.slice A V.length c, .int .i64 1, .string (nmS (dpN m i))] w fun e w' => ∃ W A' c', e = .returned (.tuple #[.slice A' W.length c', .int .i64 0]) ∧ LqV W m (i + 1) ∧ RowAt w' w'.heap.size A' (W.map .string) ∧ Below w.heap.size w w') := fun A c V i w hL hi h => by
    obtain ⟨a, b⟩ := hL.step hm41 hi
    refine (drop_any A c V 1 (nmS (dpN m i)) w (by have := hL.vol; omega) (by rw [nm_size]; decide) h).mono ?_
    rintro e w' ⟨⟨v, rfl, hv⟩, hb⟩
    obtain ⟨A', c', rfl, hr⟩ := hv.read
    exact ⟨_, A', c', by rw [a], b, hr, hb⟩
  have CDx : Hid (∀ A c (V : List ByteArray) i w, V.length ≤ 223 → RowAt w w.heap.size A (V.map .string) → Calls Try.prog 25 #[.slice A V.length c, .int .i64 1, .string (nmS i)] w fun e w' => ∃ v z, e = .returned (.tuple #[v, .int .i64 z]) ∧ Below w.heap.size w w') := fun A c V i w hV h => by
    refine (drop_any A c V 1 (nmS i) w (by omega) (by rw [nm_size]; decide) h).mono ?_
    rintro e w' ⟨⟨v, rfl, hv⟩, hb⟩
    exact ⟨v, _, rfl, hb⟩
  have HR17 : Hid (roomR tpV = 17) := (LqV.start LpV.start (by decide) : LqV tpV 0 0).room
  have HL0 := Lib.hid LpV.start
  clear hm
  go_enter Try.func8, Try.ntmps8
  go_wp2_with fail
  refine CT.out.mono ?_
  rintro e w1 ⟨⟨v, rfl, hv⟩, hb1⟩
  obtain ⟨A1, c1, rfl, hr1⟩ := hv.read
  have B1 := Lib.hid hb1
  have R1 := Lib.hid hr1
  clear hv hb1 hr1 CT
  go_wp2_with fail
  refine (CR.out _ _ _ _ HL0.out.vol R1.out).mono ?_
  rintro e w2 ⟨rfl, hb2⟩
  have B2 := Lib.hid (B1.out.trans (hb2.mono B1.out.size))
  have R2 := Lib.hid ((R1.out.below hb2).mono hb2.size)
  clear hb2 R1 B1
  rw [HR17.out]
  go_wp2
  go_loopw [4, 7] (fun v i wr => ∃ (k : Nat) (V : List ByteArray) (A : Option Addr) (c : Nat), k ≤ m ∧ i = .int .i64 (k : Int) ∧ v = .slice A V.length c ∧ Hid (LpV V k) ∧ Hid (RowAt wr wr.heap.size A (V.map .string)) ∧ Hid (Below w.heap.size w wr)) (fun _ i _ => m - (intOf i).toNat)
  case atStart => exact ⟨0, tpV, A1, c1, Nat.zero_le _, rfl, rfl, HL0, R2, B2⟩
  case round =>
    clear HL0 R2 B2
    obtain ⟨k, V, A, c, hk, rfl, rfl, HL, R, B⟩ := hrel
    by_cases hlt : k < m
    · have i1 : (k : Int) < (m : Int) := by omega
      have CN1 := Lib.hid (fun w => CN.out k w (by omega))
      have i3 : (((1 + k : Nat) : Int)) = 1 + (k : Int) := by omega
      have CA1 := Lib.hid (fun w h => CAd.out A c V k w HL.out (by omega) h)
      rw [i3] at CA1
      generalize nmS k = s at *
      clear i3
      go_wp2_with fail
      refine (CN1.out _).mono ?_
      rintro e w3 ⟨rfl, hb3⟩
      have B3 := Lib.hid (B.out.trans (hb3.mono B.out.size))
      have R3 := Lib.hid ((R.out.below hb3).mono hb3.size)
      clear hb3
      go_wp2_with fail
      refine (CA1.out _ R3.out).mono ?_
      rintro e w4 ⟨W, A', c', rfl, hL, hr4, hb4⟩
      have HL4 := Lib.hid hL
      have R4 := Lib.hid hr4
      have B4 := Lib.hid (B3.out.trans (hb4.mono B3.out.size))
      clear hL hr4 hb4 HL R B B3 R3 CN1 CA1
      go_wp2
      go_roundw
      case rel => exact ⟨k + 1, W, A', c', by omega, by go_num, rfl, HL4, R4, B4⟩
      case measure => simp [intOf]; omega
    · obtain rfl : k = m := by omega
      have hroom := HL.out.room
      have HQ0 := Lib.hid (LqV.start HL.out hm41)
      obtain ⟨q, hq⟩ : ∃ q, needN (32 * k) = q := ⟨_, rfl⟩
      have hqi : (32 * (k : Int) + 127) / 128 = (q : Int) := by unfold needN at hq; omega
      rw [hq] at hroom
      have CR1 := Lib.hid (fun w h => CR.out A c V w HL.out.vol h)
      generalize roomR V = rv at *
      have hq40 : q ≤ 10 := by unfold needN at hq; omega
      clear hq
      by_cases h6 : 6 < q
      · have h6i : (6 : Int) < (q : Int) := by omega
        have key : (((rv : Nat) : Int) != 17 - ((q : Int) + 1)) = false := by
          rw [if_pos h6] at hroom
          simp; omega
        have key2 : ((rv : Nat) : Int) = 17 - ((q : Int) + 1) := by
          rw [if_pos h6] at hroom
          omega
        clear h6
        go_wp2_with fail
        refine (CR1.out _ R.out).mono ?_
        rintro e w5 ⟨rfl, hb5⟩
        have R5 := Lib.hid ((R.out.below hb5).mono hb5.size)
        have B5 := Lib.hid (B.out.trans (hb5.mono B.out.size))
        clear hb5 R B CR1
        go_wp2
        go_loopw [4, 11] (fun v i wr => ∃ (j : Nat) (V : List ByteArray) (A : Option Addr) (c : Nat), j ≤ k ∧ i = .int .i64 (j : Int) ∧ v = .slice A V.length c ∧ Hid (LqV V k j) ∧ Hid (RowAt wr wr.heap.size A (V.map .string)) ∧ Hid (Below w.heap.size w wr)) (fun _ i _ => k - (intOf i).toNat)
        case atStart => exact ⟨0, V, A, c, Nat.zero_le _, rfl, rfl, HQ0, R5, B5⟩
        case round =>
          clear HQ0 R5 B5 HL hroom key key2
          obtain ⟨j, V, A, c, hj, rfl, rfl, HQ, R, B⟩ := hrel
          by_cases hlt2 : j < k
          · have i1 : (j : Int) < (k : Int) := by omega
            have i0 : ¬ (k : Int) = 0 := by omega
            have i00 : ((k : Int) == 0) = false := by simp; omega
            obtain ⟨p, hp⟩ : ∃ p, (7 * j) % k = p := ⟨_, rfl⟩
            have hpk : p < k := by rw [← hp]; exact Nat.mod_lt _ (by omega)
            have i2 : IntKind.i64.wrap (7 * (j : Int)) = ((7 * j : Nat) : Int) := by rw [show 7 * (j : Int) = ((7 * j : Nat) : Int) by omega]; exact IntWalk.i64_in _ (by omega)
            have i3 : (7 * (j : Int)) % (k : Int) = (p : Int) := by rw [← hp]; push_cast; rfl
            have i4 : (7 * (j : Int)).tmod (k : Int) = (p : Int) := by rw [Int.tmod_eq_emod_of_nonneg (by omega)]; exact i3
            have CN1 := Lib.hid (fun w => CN.out p w (by omega))
            have CN2 := Lib.hid (fun w => CN.out j w (by omega))
            have CD := Lib.hid (fun w h => CDr.out A c V j w HQ.out hlt2 h)
            have CX := Lib.hid (fun w h => CDx.out A c V p w HQ.out.vol h)
            by_cases h7 : k % 7 = 0
            · have h7i : ((k : Int) % 7 == 0) = true := by simp; omega
              have h7j : (k : Int) % 7 = 0 := by omega
              rw [show dpN k j = j by unfold dpN; rw [if_pos h7]] at CD
              generalize nmS p = sp at *
              generalize nmS j = sj at *
              clear hp h7
              go_wp2_with fail
              refine (CN1.out _).mono ?_
              rintro e w6 ⟨rfl, hb6⟩
              have B6 := Lib.hid (B.out.trans (hb6.mono B.out.size))
              have R6 := Lib.hid ((R.out.below hb6).mono hb6.size)
              clear hb6
              go_wp2_with fail
              refine (CX.out _ R6.out).mono ?_
              rintro e w7 ⟨v7, z7, rfl, hb7⟩
              have B7 := Lib.hid (B6.out.trans (hb7.mono B6.out.size))
              have R7 := Lib.hid ((R6.out.below hb7).mono hb7.size)
              clear hb7
              go_wp2_with fail
              refine (CN2.out _).mono ?_
              rintro e w8 ⟨rfl, hb8⟩
              have B8 := Lib.hid (B7.out.trans (hb8.mono B7.out.size))
              have R8 := Lib.hid ((R7.out.below hb8).mono hb8.size)
              clear hb8
              go_wp2_with fail
              refine (CD.out _ R8.out).mono ?_
              rintro e w9 ⟨W, A', c', rfl, hL, hr9, hb9⟩
              have HQ9 := Lib.hid hL
              have R9 := Lib.hid hr9
              have B9 := Lib.hid (B8.out.trans (hb9.mono B8.out.size))
              clear hL hr9 hb9 HQ R B B6 R6 B7 R7 B8 R8 CN1 CN2 CD CX
              go_wp2
              go_roundw
              case rel => exact ⟨j + 1, W, A', c', by omega, by go_num, rfl, HQ9, R9, B9⟩
              case measure => simp [intOf]; omega
            · have h7i : ((k : Int) % 7 == 0) = false := by simp; omega
              have h7j : ¬ (k : Int) % 7 = 0 := by omega
              rw [show dpN k j = p by unfold dpN; rw [if_neg h7, hp]] at CD
              generalize nmS p = sp at *
              clear hp h7
              go_wp2_with fail
              refine (CN1.out _).mono ?_
              rintro e w6 ⟨rfl, hb6⟩
              have B6 := Lib.hid (B.out.trans (hb6.mono B.out.size))
              have R6 := Lib.hid ((R.out.below hb6).mono hb6.size)
              clear hb6
              go_wp2_with fail
              refine (CD.out _ R6.out).mono ?_
              rintro e w9 ⟨W, A', c', rfl, hL, hr9, hb9⟩
              have HQ9 := Lib.hid hL
              have R9 := Lib.hid hr9
              have B9 := Lib.hid (B6.out.trans (hb9.mono B6.out.size))
              clear hL hr9 hb9 HQ R B B6 R6 CN1 CN2 CD CX
              go_wp2
              go_roundw
              case rel => exact ⟨j + 1, W, A', c', by omega, by go_num, rfl, HQ9, R9, B9⟩
              case measure => simp [intOf]; omega
          · obtain rfl : j = k := by omega
            have HE := Lib.hid HQ.out.room
            have CR2 := Lib.hid (fun w h => CR.out A c V w HQ.out.vol h)
            rw [HE.out] at CR2
            go_wp2_with fail
            refine (CR2.out _ R.out).mono ?_
            rintro e w6 ⟨rfl, hb6⟩
            have B6 := Lib.hid (B.out.trans (hb6.mono B.out.size))
            clear hb6
            go_wp2_with fail
            refine (CA.out _).mono ?_
            rintro e w7 ⟨rfl, hb7⟩
            have B7 := Lib.hid (B6.out.trans (hb7.mono B6.out.size))
            clear hb7
            go_wp2
            go_ret
            exact ⟨rfl, B7.out⟩
      · have h6i : ¬ (6 : Int) < (q : Int) := by omega
        have key : (((rv : Nat) : Int) != 17 - (q : Int)) = false := by
          rw [if_neg h6] at hroom
          simp; omega
        have key2 : ((rv : Nat) : Int) = 17 - (q : Int) := by
          rw [if_neg h6] at hroom
          omega
        clear h6
        go_wp2_with fail
        refine (CR1.out _ R.out).mono ?_
        rintro e w5 ⟨rfl, hb5⟩
        have R5 := Lib.hid ((R.out.below hb5).mono hb5.size)
        have B5 := Lib.hid (B.out.trans (hb5.mono B.out.size))
        clear hb5 R B CR1
        go_wp2
        go_loopw [4, 11] (fun v i wr => ∃ (j : Nat) (V : List ByteArray) (A : Option Addr) (c : Nat), j ≤ k ∧ i = .int .i64 (j : Int) ∧ v = .slice A V.length c ∧ Hid (LqV V k j) ∧ Hid (RowAt wr wr.heap.size A (V.map .string)) ∧ Hid (Below w.heap.size w wr)) (fun _ i _ => k - (intOf i).toNat)
        case atStart => exact ⟨0, V, A, c, Nat.zero_le _, rfl, rfl, HQ0, R5, B5⟩
        case round =>
          clear HQ0 R5 B5 HL hroom key key2
          obtain ⟨j, V, A, c, hj, rfl, rfl, HQ, R, B⟩ := hrel
          by_cases hlt2 : j < k
          · have i1 : (j : Int) < (k : Int) := by omega
            have i0 : ¬ (k : Int) = 0 := by omega
            have i00 : ((k : Int) == 0) = false := by simp; omega
            obtain ⟨p, hp⟩ : ∃ p, (7 * j) % k = p := ⟨_, rfl⟩
            have hpk : p < k := by rw [← hp]; exact Nat.mod_lt _ (by omega)
            have i2 : IntKind.i64.wrap (7 * (j : Int)) = ((7 * j : Nat) : Int) := by rw [show 7 * (j : Int) = ((7 * j : Nat) : Int) by omega]; exact IntWalk.i64_in _ (by omega)
            have i3 : (7 * (j : Int)) % (k : Int) = (p : Int) := by rw [← hp]; push_cast; rfl
            have i4 : (7 * (j : Int)).tmod (k : Int) = (p : Int) := by rw [Int.tmod_eq_emod_of_nonneg (by omega)]; exact i3
            have CN1 := Lib.hid (fun w => CN.out p w (by omega))
            have CN2 := Lib.hid (fun w => CN.out j w (by omega))
            have CD := Lib.hid (fun w h => CDr.out A c V j w HQ.out hlt2 h)
            have CX := Lib.hid (fun w h => CDx.out A c V p w HQ.out.vol h)
            by_cases h7 : k % 7 = 0
            · have h7i : ((k : Int) % 7 == 0) = true := by simp; omega
              have h7j : (k : Int) % 7 = 0 := by omega
              rw [show dpN k j = j by unfold dpN; rw [if_pos h7]] at CD
              generalize nmS p = sp at *
              generalize nmS j = sj at *
              clear hp h7
              go_wp2_with fail
              refine (CN1.out _).mono ?_
              rintro e w6 ⟨rfl, hb6⟩
              have B6 := Lib.hid (B.out.trans (hb6.mono B.out.size))
              have R6 := Lib.hid ((R.out.below hb6).mono hb6.size)
              clear hb6
              go_wp2_with fail
              refine (CX.out _ R6.out).mono ?_
              rintro e w7 ⟨v7, z7, rfl, hb7⟩
              have B7 := Lib.hid (B6.out.trans (hb7.mono B6.out.size))
              have R7 := Lib.hid ((R6.out.below hb7).mono hb7.size)
              clear hb7
              go_wp2_with fail
              refine (CN2.out _).mono ?_
              rintro e w8 ⟨rfl, hb8⟩
              have B8 := Lib.hid (B7.out.trans (hb8.mono B7.out.size))
              have R8 := Lib.hid ((R7.out.below hb8).mono hb8.size)
              clear hb8
              go_wp2_with fail
              refine (CD.out _ R8.out).mono ?_
              rintro e w9 ⟨W, A', c', rfl, hL, hr9, hb9⟩
              have HQ9 := Lib.hid hL
              have R9 := Lib.hid hr9
              have B9 := Lib.hid (B8.out.trans (hb9.mono B8.out.size))
              clear hL hr9 hb9 HQ R B B6 R6 B7 R7 B8 R8 CN1 CN2 CD CX
              go_wp2
              go_roundw
              case rel => exact ⟨j + 1, W, A', c', by omega, by go_num, rfl, HQ9, R9, B9⟩
              case measure => simp [intOf]; omega
            · have h7i : ((k : Int) % 7 == 0) = false := by simp; omega
              have h7j : ¬ (k : Int) % 7 = 0 := by omega
              rw [show dpN k j = p by unfold dpN; rw [if_neg h7, hp]] at CD
              generalize nmS p = sp at *
              clear hp h7
              go_wp2_with fail
              refine (CN1.out _).mono ?_
              rintro e w6 ⟨rfl, hb6⟩
              have B6 := Lib.hid (B.out.trans (hb6.mono B.out.size))
              have R6 := Lib.hid ((R.out.below hb6).mono hb6.size)
              clear hb6
              go_wp2_with fail
              refine (CD.out _ R6.out).mono ?_
              rintro e w9 ⟨W, A', c', rfl, hL, hr9, hb9⟩
              have HQ9 := Lib.hid hL
              have R9 := Lib.hid hr9
              have B9 := Lib.hid (B6.out.trans (hb9.mono B6.out.size))
              clear hL hr9 hb9 HQ R B B6 R6 CN1 CN2 CD CX
              go_wp2
              go_roundw
              case rel => exact ⟨j + 1, W, A', c', by omega, by go_num, rfl, HQ9, R9, B9⟩
              case measure => simp [intOf]; omega
          · obtain rfl : j = k := by omega
            have HE := Lib.hid HQ.out.room
            have CR2 := Lib.hid (fun w h => CR.out A c V w HQ.out.vol h)
            rw [HE.out] at CR2
            go_wp2_with fail
            refine (CR2.out _ R.out).mono ?_
            rintro e w6 ⟨rfl, hb6⟩
            have B6 := Lib.hid (B.out.trans (hb6.mono B.out.size))
            clear hb6
            go_wp2_with fail
            refine (CA.out _).mono ?_
            rintro e w7 ⟨rfl, hb7⟩
            have B7 := Lib.hid (B6.out.trans (hb7.mono B6.out.size))
            clear hb7
            go_wp2
            go_ret
            exact ⟨rfl, B7.out⟩
end Go.Proofs.Ytoanladhikdcaaa
