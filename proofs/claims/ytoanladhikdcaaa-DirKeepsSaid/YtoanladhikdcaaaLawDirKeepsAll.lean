/-
  Joined in one text: Top20Pl, Top20, DirRm, Snd20, KeepPl, Sound20, OLe, DirG, LawDirKeeps.
-/
import Derived.Test.YtoanladhikdcaaaDirSt
import Derived.Test.YtoanladhikdcaaaInoC
import Derived.Test.YtoanladhikdcaaaDirW
import Derived.Test.YtoanladhikdcaaaGeomF
import Derived.Test.YtoanladhikdcaaaExtSnd
import Derived.Test.YtoanladhikdcaaaRExtK
import Derived.Test.YtoanladhikdcaaaInoD
import Derived.Test.YtoanladhikdcaaaIntRow
import Derived.Test.YtoanladhikdcaaaRGeomU
import Derived.Test.YtoanladhikdcaaaRInoAll
import Derived.BigQuiet
import Derived.Test.YtoanladhikdcaaaExtM
import Derived.Test.YtoanladhikdcaaaRDirK
namespace Go.Proofs.Ytoanladhikdcaaa
set_option linter.unusedVariables false
set_option linter.unusedSimpArgs false
set_option maxRecDepth 100000
theorem new_slot0 (xs : List ByteArray) (m kind owner s : Nat) : slotX xs m (newL kind owner) s = 0 := by
  have h10 : (newL kind owner).getD 10 0 = 0 := rfl
  have h70 : slotX xs m (newL kind owner) 70 = 0 := by rw [slotX_ind, h10]; split <;> rfl
  by_cases hs : s < 70
  · rw [slotX_lt hs]
    by_cases h6 : s < 6
    · rw [at_low h6]
      have : (newL kind owner).getD (4 + s) 0 = 0 := by
        have key : s = 0 ∨ s = 1 ∨ s = 2 ∨ s = 3 ∨ s = 4 ∨ s = 5 := by omega
        rcases key with rfl | rfl | rfl | rfl | rfl | rfl <;> rfl
      rw [this]; split <;> rfl
    · exact at_hi0 (by omega) h70
  · unfold slotX
    rw [if_neg hs, h10]; split <;> rfl
/-- what an add does to a directory -/
theorem DirS.add {V : List ByteArray} {m n : Nat} {E : List EntV} (h : DirS V m n E) {nm : ByteArray} {ino : Int} (hk : okE ⟨nm, ino⟩ = true) (hh : hasE E nm = false) :
    addO V (n : Int) nm ino = writeO V (n : Int) 0 (bytesE (insE E ⟨nm, ino⟩)) ∧
    ((addO V (n : Int) nm ino).2 = 0 ∧ (∃ r, WroS m 0 (bytesE (insE E ⟨nm, ino⟩)) V (getR V (n : Int)) r ∧ (addO V (n : Int) nm ino).1 = putV r.1 n r.2) ∧ DirS (addO V (n : Int) nm ino).1 m n (insE E ⟨nm, ino⟩)
    ∨ (addO V (n : Int) nm ino).1 = [] ∧ ((addO V (n : Int) nm ino).2 = 6 ∧ 8960 < (bytesE (insE E ⟨nm, ino⟩)).length ∨ (addO V (n : Int) nm ino).2 = 10 ∧ wriG noK V m (getR V (n : Int)) 0 (bytesE (insE E ⟨nm, ino⟩)) = Option.none)) := by
  obtain ⟨hm, _, _, h1, h2⟩ := okE_ok hk
  have hl := h.list
  have e : addO V (n : Int) nm ino = writeO V (n : Int) 0 (bytesE (insE E ⟨nm, ino⟩)) := by
    unfold addO
    rw [if_neg (by rw [hm]; simp), if_neg (by dsimp only at h1 h2; omega), hl]
    dsimp only
    rw [if_neg (by simp), if_neg (by rw [hh]; simp)]
  refine ⟨e, ?_⟩
  rw [e]
  have hlen := insE_len E ⟨nm, ino⟩
  exact h.more (insE_valid h.valid hk hh) (by omega) (by omega)
def tpV : List ByteArray := putV (fmtV 24 8) 1 (newL 2 0)
theorem tp_plan : planE (24 : Nat) (8 : Nat) = 0 := by decide
theorem tp_free : freeI (fmtV 24 8) 8 = some 1 := by kernel_rfl
theorem tp_new : newO (fmtV 24 8) 2 0 = (tpV, 1, 0) := by
  unfold newO
  rw [ofR_some.2 (fmtV_vol tp_plan)]
  dsimp only
  rw [if_neg (by decide), tp_free]
  rfl
theorem tp_vol : IsVol tpV 8 := (fmtV_vol tp_plan).putI (by decide) (by decide) _
theorem tp_get : getR tpV ((1 : Nat) : Int) = newL 2 0 := get_put_same (fmtV_vol tp_plan) (n := 1) (by decide) (by decide) (newL_fit (by decide) (by decide))
theorem tp_dir : DirS tpV 8 1 [] := by
  have hs := new_slot0 tpV 8 2 0
  refine ⟨⟨by decide, by decide, ?_, ?_, ?_, ?_, fun i hi => absurd hi (by simp)⟩, ⟨fun x hx => by simp at hx, List.Pairwise.nil⟩⟩
  · rw [tp_get]; exact ⟨tp_vol, rfl, newL_fit (by decide) (by decide)⟩
  · rw [tp_get]; exact ⟨fun s _ h0 => absurd (hs s) h0, fun s t _ _ _ h0 => absurd (hs s) h0⟩
  · rw [tp_get]; rfl
  · rw [tp_get]; rfl
def aX : EntV := ⟨⟨#[97]⟩, 3⟩
def awV : List ByteArray := (addO tpV 1 ⟨#[97]⟩ 3).1
theorem aw_some : (wriG noK tpV 8 (newL 2 0) 0 (bytesE (insE [] aX))).isSome = true := by kernel_rfl
theorem aw_ok : okE aX = true := by kernel_rfl
theorem aw_add : addO tpV 1 ⟨#[97]⟩ 3 = (awV, 0) ∧ DirS awV 8 1 [aX] := by
  have h := (tp_dir.add (nm := ⟨#[97]⟩) (ino := 3) aw_ok rfl).2
  rcases h with ⟨h1, _, h3⟩ | ⟨_, h | h⟩
  · refine ⟨?_, h3⟩
    show addO tpV 1 ⟨#[97]⟩ 3 = (awV, 0)
    rw [← h1]; rfl
  · have hb : (bytesE (insE [] ⟨⟨#[97]⟩, 3⟩)).length = 32 := by kernel_rfl
    rw [hb] at h
    exact absurd h.2 (by decide)
  · have h2 := h.2
    rw [tp_get] at h2
    have := aw_some
    unfold aX at this
    rw [h2] at this
    cases this
theorem aw_get : inoE awV 1 = 0 ∧ (getR awV 1).getD 3 0 = 32 := by
  have h := aw_add.2.file
  refine ⟨inoE_zero h.ok.vol h.num1 h.num2, ?_⟩
  have hs : sizeX (getR awV ((1 : Nat) : Int)) = 32 := h.size
  unfold sizeX at hs
  show (getR awV ((1 : Nat) : Int)).getD 3 0 = 32
  omega
end Go.Proofs.Ytoanladhikdcaaa

namespace Go.Proofs.Ytoanladhikdcaaa
open Go.RowKit
set_option linter.unusedVariables false
set_option linter.unusedSimpArgs false
set_option maxRecDepth 100000
set_option maxHeartbeats 4000000 in
theorem top_any (w : World) : Calls Try.prog 16 #[] w fun e w' => (∃ v, e = .returned (.tuple #[v, .bool true]) ∧ OwnRow tpV w v w') ∧ Below w.heap.size w w' := by
  have C2 : Hid (∀ w, Calls Try.prog 35 #[.int .i64 24, .int .i64 8] w fun e w' => (∃ v, e = .returned (.tuple #[v, .int .i64 0]) ∧ NewRow (fmtV 24 8) w v w') ∧ Below w.heap.size w w') := fun w => (format_any 24 8 w).mono fun e w' h => by
    unfold FmtPost at h
    rw [if_pos (show planE 24 8 = 0 by decide)] at h
    exact ⟨h.2, h.1⟩
  have C3 : Hid (∀ A c w, RowAt w w.heap.size A ((fmtV 24 8).map .string) → Calls Try.prog 36 #[.slice A (fmtV 24 8).length c, .int .i64 2, .int .i64 0] w fun e w' => (∃ v, e = .returned (.tuple #[v, .int .i64 1, .int .i64 0]) ∧ OwnRow tpV w v w') ∧ Below w.heap.size w w') := fun A c w hr => by
    have := new_ino A c (fmtV 24 8) 2 0 w (by rw [fmtV_length]; decide) hr
    rw [tp_new] at this
    exact this
  have HF : Hid ((fmtV 24 8).length ≤ maxLen) := by show _ ≤ _; rw [fmtV_length]; decide
  generalize fmtV 24 8 = f at *
  generalize tpV = g at *
  go_enter Try.func16, Try.ntmps16
  go_wp2_with fail
  refine (C2.out _).mono ?_
  rintro e w1 ⟨⟨v, rfl, hn⟩, hb1⟩
  obtain ⟨A1, c1, rfl, hr1⟩ := (hn.own HF.out).read
  have B1 := Lib.hid hb1
  have R1 := Lib.hid hr1
  clear hn hb1 hr1
  go_wp2_with fail
  refine (C3.out _ _ _ R1.out).mono ?_
  rintro e w2 ⟨⟨v, rfl, hn⟩, hb2⟩
  have B2 := Lib.hid (B1.out.trans (hb2.mono B1.out.size))
  have O2 := Lib.hid (own_low hn B1.out.size)
  clear hn hb2
  go_wp2
  go_ret2
  exact ⟨⟨_, rfl, O2.out⟩, B2.out⟩
set_option maxHeartbeats 4000000 in
theorem awake_any (w : World) : Calls Try.prog 9 #[] w fun e w' => e = .returned (.bool true) ∧ Below w.heap.size w w' := by
  have C1 := Lib.hid (top_any w)
  have HL : Hid (tpV.length ≤ 223 ∧ awV.length ≤ 223) := ⟨by have := tp_vol.len; omega, by have := aw_add.2.file.ok.vol.len; dsimp only at this; omega⟩
  have C2 : Hid (∀ A c w, RowAt w w.heap.size A (tpV.map .string) → Calls Try.prog 13 #[.slice A tpV.length c, .int .i64 1, .string ⟨#[97]⟩, .int .i64 3] w (RowCode awV 0 w)) := fun A c w hr => by
    have := add_any A c tpV 1 ⟨#[97]⟩ 3 w (by have := HL.out; omega) (by decide) hr
    rw [aw_add.1] at this
    exact this
  obtain ⟨a0, a1, a2, a3, a4, a5, a6, a7, a8, a9, a10, a11, hg⟩ := len12 (getR_len awV 1)
  have h3 := aw_get.2
  rw [hg] at h3
  have h3 : a3 = 32 := h3
  subst h3
  have C3 : Hid (∀ A c w, RowAt w w.heap.size A (awV.map .string) → Calls Try.prog 28 #[.slice A awV.length c, .int .i64 1] w fun e w' => e = .returned (.tuple #[.agg #[.int .i64 (a0 : Int), .int .i64 (a1 : Int), .int .i64 (a2 : Int), .int .i64 32, .int .i64 (a4 : Int), .int .i64 (a5 : Int), .int .i64 (a6 : Int), .int .i64 (a7 : Int), .int .i64 (a8 : Int), .int .i64 (a9 : Int), .int .i64 (a10 : Int), .int .i64 (a11 : Int)], .int .i64 0]) ∧ Below w.heap.size w w') := fun A c w hr => by
    have := get_ino A c awV 1 w (by have := HL.out; omega) hr
    rw [hg, aw_get.1] at this
    exact this
  clear hg
  generalize tpV = f at *
  generalize awV = g at *
  go_enter Try.func9, Try.ntmps9
  go_wp2_with fail
  refine C1.out.mono ?_
  rintro e w1 ⟨⟨v, rfl, hn⟩, hb1⟩
  obtain ⟨A1, c1, rfl, hr1⟩ := hn.read
  have B1 := Lib.hid hb1
  have R1 := Lib.hid hr1
  clear hn hb1 hr1 C1
  go_wp2_with fail
  refine (C2.out _ _ _ R1.out).mono ?_
  rintro e w2 ⟨⟨v, rfl, hn⟩, hb2⟩
  obtain ⟨A2, c2, rfl, hr2⟩ := hn.read
  have B2 := Lib.hid (B1.out.trans (hb2.mono B1.out.size))
  have R2 := Lib.hid hr2
  clear hn hb2 hr2
  go_wp2_with fail
  refine (C3.out _ _ _ R2.out).mono ?_
  rintro e w3 ⟨rfl, hb3⟩
  have B3 := Lib.hid (B2.out.trans (hb3.mono B2.out.size))
  clear hb3
  go_wp2
  go_ret
  exact ⟨rfl, B3.out.alloc B3.out.size _⟩
end Go.Proofs.Ytoanladhikdcaaa

namespace Go.Proofs.Ytoanladhikdcaaa
set_option linter.unusedVariables false
set_option linter.unusedSimpArgs false
set_option maxRecDepth 100000
section
variable {xs : List ByteArray} {m off n sz : Nat} {l : List Nat} {d : List UInt8}
theorem takX_room (hv : IsVol xs m) (h : 1 ≤ roomR xs) : ∃ i, freeR xs m = some i ∧ takX xs m = some (takeV xs i, i) := by
  cases hf : freeR xs m with
  | none => rw [room_full hv hf] at h; omega
  | some i => exact ⟨i, rfl, by unfold takX; rw [hf]; rfl⟩
theorem pla_some (h : OkS xs.length m (xs, l)) {k : Nat} (hk : atX xs m l k ≠ 0 ∨ 2 ≤ roomR xs) : ∃ r, plaG noK xs m l k = some r := by
  unfold plaG
  by_cases h0 : atX xs m l k ≠ 0
  · rw [if_pos h0]; exact ⟨_, rfl⟩
  · rw [if_neg h0]
    have hr := hk.resolve_left h0
    have hv : IsVol xs m := h.vol
    obtain ⟨i, hi, ht⟩ := takX_room hv (by omega)
    unfold indG
    by_cases hc : k < 6 ∨ datB xs m (l.getD 10 0) = true
    · rw [if_pos hc, Option.bind_some, ht]
      exact ⟨_, rfl⟩
    · rw [if_neg hc, ht, Option.map_some, Option.bind_some]
      obtain ⟨f1, f2, _, _, _⟩ := free_facts hv hi
      have hv2 : IsVol (takeV xs i) m := hv.take f1 f2
      have hr2 := room_take hv hi
      obtain ⟨i2, hi2, ht2⟩ := takX_room hv2 (by omega)
      show ∃ r, (takX (noK (takeV xs i) (l.set 10 i)) m).map _ = some r
      rw [show noK (takeV xs i) (l.set 10 i) = takeV xs i from rfl, ht2]
      exact ⟨_, rfl⟩
/-- how many blocks a file has whose last one is known -/
theorem cntS_le {B : Nat} (hB : ∀ s, s < 70 → atX xs m l s ≠ 0 → s < B) : cntS xs m l ≤ B + 1 := by
  unfold cntS
  have h1 : ((List.range 71).filter fun s => slotX xs m l s != 0).length ≤ ((List.range 71).filter fun s => decide (s < B) || decide (s = 70)).length := by
    rw [← List.countP_eq_length_filter, ← List.countP_eq_length_filter]
    refine List.countP_mono_left fun s hs he => ?_
    have hs := List.mem_range.1 hs
    by_cases h70 : s = 70
    · simp [h70]
    · have := hB s (by omega) (by rw [slotX_lt (by omega)] at he; simpa using he)
      simp [this]
  refine Nat.le_trans h1 ?_
  have h2 : ∀ N, ((List.range N).filter fun s => decide (s < B) || decide (s = 70)).length ≤ min N B + (if 70 < N then 1 else 0) := fun N => by
    induction N with
    | zero => simp
    | succ N ih =>
      rw [List.range_succ, List.filter_append, List.length_append]
      by_cases h1 : N < B
      · have : (List.filter (fun s => decide (s < B) || decide (s = 70)) [N]).length = 1 := by simp [h1]
        rw [this]
        split at ih <;> split <;> omega
      · by_cases h2 : N = 70
        · have : (List.filter (fun s => decide (s < B) || decide (s = 70)) [N]).length = 1 := by simp [h2]
          rw [this]
          split at ih <;> split <;> omega
        · have : (List.filter (fun s => decide (s < B) || decide (s = 70)) [N]).length = 0 := by simp [h1, h2]
          rw [this]
          split at ih <;> split <;> omega
  have := h2 71
  rw [if_pos (by omega)] at this
  omega
theorem wri_has (h : OkS xs.length m (xs, l)) (o : OwnS xs m l) : ∀ (j : Nat), off / 128 + j ≤ 70 → (∀ s, off / 128 ≤ s → s < off / 128 + j → atX xs m l s ≠ 0) → ∃ r, wriN noK m off d (xs, l) j = some r
  | 0, _, _ => ⟨_, rfl⟩
  | j + 1, hj, ha => by
    obtain ⟨q, hq⟩ := wri_has h o j (by omega) (fun s h1 h2 => ha s h1 (by omega))
    have p := wriN_mv h o j (by omega) hq
    obtain ⟨qx, ql⟩ := q
    obtain ⟨t, ht⟩ := pla_some (xs := qx) (l := ql) ⟨p.ok.vol, rfl, p.ok.fit⟩ (k := off / 128 + j) (.inl ((p.at_ _ (by omega)).2 (.inl (ha _ (by omega) (by omega)))))
    rw [wriN, hq, Option.bind_some]
    unfold wriK
    rw [ht]
    exact ⟨_, rfl⟩
theorem wri_room {B : Nat} (h : OkS xs.length m (xs, l)) (o : OwnS xs m l) (hB : ∀ s, s < 70 → atX xs m l s ≠ 0 → s < B) (hb : B ≤ 70) (hr : B + 3 ≤ roomR xs + cntS xs m l) : ∀ (j : Nat), off / 128 + j ≤ B → ∃ r, wriN noK m off d (xs, l) j = some r
  | 0, _ => ⟨_, rfl⟩
  | j + 1, hj => by
    obtain ⟨q, hq⟩ := wri_room h o hB hb hr j (by omega)
    have p := wriN_mv h o j (by omega) hq
    obtain ⟨qx, ql⟩ := q
    have hc : cntS qx m ql ≤ B + 1 := cntS_le fun s hs h0 => by
      rcases (p.at_ s hs).1 h0 with h1 | h1
      · exact hB s hs h1
      · omega
    have hm := p.mv.room
    dsimp only at hm
    obtain ⟨t, ht⟩ := pla_some (xs := qx) (l := ql) ⟨p.ok.vol, rfl, p.ok.fit⟩ (k := off / 128 + j) (.inr (by omega))
    rw [wriN, hq, Option.bind_some]
    unfold wriK
    rw [ht]
    exact ⟨_, rfl⟩
theorem wriG_some (h : ∃ r, wriN noK m off d (xs, l) (fallN off d.length) = some r) : wriG noK xs m l off d ≠ none := by
  obtain ⟨r, hr⟩ := h
  unfold wriG
  split
  · simp
  · rw [hr]; simp
/-- a write from the front on succeeds where all its blocks are there -/
theorem FileS.over {V : List ByteArray} {f : Nat → UInt8} (h : FileS V m n sz f) (hd : 0 < d.length) (hl : d.length ≤ 8960) (ha : ∀ s, s < fallN 0 d.length → atX V m (getR V (n : Int)) s ≠ 0) : (writeO V (n : Int) 0 d).2 = 0 := by
  rcases h.write hd with g | ⟨_, g | g⟩
  · exact g.1
  · omega
  · refine absurd g.2 (wriG_some (wri_has h.ok h.own _ ?_ fun s _ h2 => ha s (by omega)))
    unfold fallN
    split <;> omega
theorem FileS.roomy {V : List ByteArray} {f : Nat → UInt8} {B : Nat} (h : FileS V m n sz f) (hd : 0 < d.length) (hl : d.length ≤ 8960) (hB : ∀ s, s < 70 → atX V m (getR V (n : Int)) s ≠ 0 → s < B) (hb : B ≤ 70) (hf : fallN 0 d.length ≤ B) (hr : B + 3 ≤ roomR V + cntS V m (getR V (n : Int))) : (writeO V (n : Int) 0 d).2 = 0 := by
  rcases h.write hd with g | ⟨_, g | g⟩
  · exact g.1
  · omega
  · exact absurd g.2 (wriG_some (wri_room h.ok h.own hB hb hr _ (by omega)))
end
end Go.Proofs.Ytoanladhikdcaaa

namespace Go.Proofs.Ytoanladhikdcaaa
set_option linter.unusedVariables false
set_option linter.unusedSimpArgs false
/-- the first eight numbers of an inode -/
def dirL (l : List Nat) (k : Nat) : List Nat := [l.getD 10 0, l.getD 11 0] ++ (List.range k).map fun j => l.getD (4 + j) 0
def indL (xs : List ByteArray) (b k : Nat) : List Nat := (List.range k).map fun j => numAt (blkL xs b) (2 * j) 2
/-- all numbers of blocks of an inode -/
def numsL (xs : List ByteArray) (m : Nat) (l : List Nat) : List Nat := dirL l 6 ++ (if datB xs m (l.getD 10 0) = true then indL xs (l.getD 10 0) 64 else [])
theorem dirL_len (l : List Nat) (k : Nat) : (dirL l k).length = 2 + k := by unfold dirL; simp; omega
theorem indL_len (xs : List ByteArray) (b k : Nat) : (indL xs b k).length = k := by unfold indL; simp
theorem dirL_succ (l : List Nat) (k : Nat) : dirL l (k + 1) = dirL l k ++ [l.getD (4 + k) 0] := by
  unfold dirL
  rw [List.range_succ, List.map_append, ← List.append_assoc]; rfl
theorem indL_succ (xs : List ByteArray) (b k : Nat) : indL xs b (k + 1) = indL xs b k ++ [numAt (blkL xs b) (2 * k) 2] := by
  unfold indL
  rw [List.range_succ, List.map_append]; rfl
theorem numsL_len (xs : List ByteArray) (m : Nat) (l : List Nat) : (numsL xs m l).length ≤ 72 := by
  unfold numsL
  rw [List.length_append, dirL_len]
  split
  · rw [indL_len]; omega
  · simp
/-- no number but 0 stands at two places -/
def UnlikeL (L : List Nat) : Prop := ∀ i1 i2 z : Nat, i1 < i2 → L[i1]? = some z → L[i2]? = some z → z = 0
/-- of the first j numbers: those that are not 0 are taken, are met, and unlike -/
def UnJ (xs : List ByteArray) (L : List Nat) (ms : List Int) (j : Nat) : Prop :=
  (∀ i z : Nat, i < j → L[i]? = some z → z ≠ 0 → usedR xs (z : Int) = true ∧ (z : Int) ∈ ms) ∧ ∀ i1 i2 z : Nat, i1 < i2 → i2 < j → L[i1]? = some z → L[i2]? = some z → z = 0
theorem UnJ.zero {xs : List ByteArray} {L : List Nat} {ms : List Int} : UnJ xs L ms 0 := ⟨fun i z h => absurd h (Nat.not_lt_zero _), fun i1 i2 z _ h => absurd h (Nat.not_lt_zero _)⟩
theorem UnJ.skip {xs : List ByteArray} {L : List Nat} {ms : List Int} {j : Nat} (h : UnJ xs L ms j) (hz : L[j]? = some 0) : UnJ xs L ms (j + 1) := by
  refine ⟨fun i z hi hz2 h0 => ?_, fun i1 i2 z h12 h2 e1 e2 => ?_⟩
  · by_cases e : i = j
    · rw [e, hz] at hz2
      exact absurd (Option.some.inj hz2).symm h0
    · exact h.1 i z (by omega) hz2 h0
  · by_cases e : i2 = j
    · rw [e, hz] at e2
      exact (Option.some.inj e2).symm
    · exact h.2 i1 i2 z h12 (by omega) e1 e2
theorem UnJ.push {xs : List ByteArray} {L : List Nat} {ms : List Int} {j z : Nat} (h : UnJ xs L ms j) (hz : L[j]? = some z) (hu : usedR xs (z : Int) = true) (hn : (z : Int) ∉ ms) : UnJ xs L (ms ++ [(z : Int)]) (j + 1) := by
  refine ⟨fun i y hi hy h0 => ?_, fun i1 i2 y h12 h2 e1 e2 => ?_⟩
  · by_cases e : i = j
    · rw [e, hz] at hy
      rw [← Option.some.inj hy]
      exact ⟨hu, by simp⟩
    · have := h.1 i y (by omega) hy h0
      exact ⟨this.1, List.mem_append_left _ this.2⟩
  · by_cases e : i2 = j
    · rw [e, hz] at e2
      have e2 := Option.some.inj e2
      refine Classical.not_not.1 (fun h0 => hn ?_)
      have := (h.1 i1 y (by omega) e1 h0).2
      rw [e2]; exact this
    · exact h.2 i1 i2 y h12 (by omega) e1 e2
/-- each number that these inodes name is that of a block which is taken, and an inode names none twice -/
def SndU (xs : List ByteArray) (m : Nat) (ns : List Nat) : Prop := ∀ n ∈ ns, (∀ z ∈ numsL xs m (getR xs (n : Int)), z ≠ 0 → usedR xs (z : Int) = true) ∧ UnlikeL (numsL xs m (getR xs (n : Int)))
theorem SndU.snoc {xs : List ByteArray} {m n : Nat} {ns : List Nat} (h : SndU xs m ns) (hn : (∀ z ∈ numsL xs m (getR xs (n : Int)), z ≠ 0 → usedR xs (z : Int) = true) ∧ UnlikeL (numsL xs m (getR xs (n : Int)))) : SndU xs m (ns ++ [n]) := by
  intro k hk
  rcases List.mem_append.1 hk with h1 | h1
  · exact h k h1
  · rw [List.mem_singleton.1 h1]; exact hn
theorem UnJ.all {xs : List ByteArray} {L : List Nat} {ms : List Int} {j : Nat} (h : UnJ xs L ms j) (hj : j = L.length) : (∀ z ∈ L, z ≠ 0 → usedR xs (z : Int) = true) ∧ UnlikeL L := by
  refine ⟨fun z hz h0 => ?_, fun i1 i2 z h12 e1 e2 => ?_⟩
  · obtain ⟨i, hi⟩ := List.mem_iff_getElem?.1 hz
    exact (h.1 i z (by rw [hj]; exact (List.getElem?_eq_some_iff.1 hi).1) hi h0).1
  · exact h.2 i1 i2 z h12 (by rw [hj]; exact (List.getElem?_eq_some_iff.1 e2).1) e1 e2
theorem usedR_bit {xs : List ByteArray} {m z : Nat} (hv : IsVol xs m) (h : usedR xs (z : Int) = true) : bitV xs z = true := by
  unfold usedR at h
  rw [ofR_some.2 hv] at h
  have := (Bool.and_eq_true_iff.1 h).2
  rw [Int.toNat_natCast] at this
  exact this
theorem slot_mem {xs : List ByteArray} {m : Nat} {l : List Nat} {s : Nat} (hs : s < 71) (h0 : slotX xs m l s ≠ 0) : slotX xs m l s ∈ numsL xs m l := by
  unfold numsL
  by_cases h70 : s = 70
  · subst h70
    obtain ⟨_, e⟩ := slot_ind_ne h0
    rw [e]
    unfold dirL
    simp
  · rw [slotX_lt (by omega)] at h0 ⊢
    by_cases h6 : s < 6
    · rw [at_low h6] at h0 ⊢
      split at h0
      · rename_i hd
        rw [if_pos hd]
        unfold dirL
        simp only [List.mem_append, List.mem_map, List.mem_range]
        exact .inl (.inr ⟨s, h6, rfl⟩)
      · exact absurd rfl h0
    · have hi : slotX xs m l 70 ≠ 0 := fun e => h0 (at_hi0 (by omega) e)
      obtain ⟨hd, e⟩ := slot_ind_ne hi
      rw [at_hi (by omega) hi, e] at h0 ⊢
      split at h0
      · rename_i hd2
        rw [if_pos hd2, if_pos hd]
        unfold indL
        simp only [List.mem_append, List.mem_map, List.mem_range]
        exact .inr ⟨s - 6, by omega, rfl⟩
      · exact absurd rfl h0
theorem SndU.used {xs : List ByteArray} {m n : Nat} {ns : List Nat} (h : SndU xs m ns) (hv : IsVol xs m) (hn : n ∈ ns) : ∀ s, s < 71 → slotX xs m (getR xs (n : Int)) s ≠ 0 → bitV xs (slotX xs m (getR xs (n : Int)) s) = true :=
  fun s hs h0 => usedR_bit hv ((h n hn).1 _ (slot_mem hs h0) h0)
/-- where a slot's number stands -/
def posS (s : Nat) : Nat := if s = 70 then 0 else 2 + s
theorem slot_pos {xs : List ByteArray} {m : Nat} {l : List Nat} {s : Nat} (hs : s < 71) (h0 : slotX xs m l s ≠ 0) : (numsL xs m l)[posS s]? = some (slotX xs m l s) := by
  unfold numsL posS
  by_cases h70 : s = 70
  · subst h70
    obtain ⟨_, e⟩ := slot_ind_ne h0
    rw [e, if_pos rfl]
    rfl
  · rw [if_neg h70]
    rw [slotX_lt (by omega)] at h0 ⊢
    by_cases h6 : s < 6
    · rw [at_low h6] at h0 ⊢
      split at h0
      · rename_i hd
        rw [if_pos hd, List.getElem?_append_left (by rw [dirL_len]; omega)]
        unfold dirL
        rw [List.getElem?_append_right (by simp)]
        simp [h6]
      · exact absurd rfl h0
    · have hi : slotX xs m l 70 ≠ 0 := fun e => h0 (at_hi0 (by omega) e)
      obtain ⟨hd, e⟩ := slot_ind_ne hi
      rw [at_hi (by omega) hi, e] at h0 ⊢
      split at h0
      · rename_i hd2
        rw [if_pos hd2, if_pos hd, List.getElem?_append_right (by rw [dirL_len]; omega), dirL_len]
        unfold indL
        rw [show 2 + s - (2 + 6) = s - 6 by omega, List.getElem?_map, List.getElem?_range (by omega)]
        rfl
      · exact absurd rfl h0
theorem SndU.inj {xs : List ByteArray} {m n : Nat} {ns : List Nat} (h : SndU xs m ns) (hn : n ∈ ns) : ∀ s t, s < 71 → t < 71 → slotX xs m (getR xs (n : Int)) s = slotX xs m (getR xs (n : Int)) t → slotX xs m (getR xs (n : Int)) s ≠ 0 → s = t := fun s t hs ht e h0 => by
  have p1 := slot_pos hs h0
  have p2 := slot_pos ht (by rw [← e]; exact h0)
  rw [← e] at p2
  have hu := (h n hn).2
  rcases Nat.lt_trichotomy (posS s) (posS t) with h1 | h1 | h1
  · exact absurd (hu _ _ _ h1 p1 p2) h0
  · unfold posS at h1
    split at h1 <;> split at h1 <;> omega
  · exact absurd (hu _ _ _ h1 p2 p1) h0
end Go.Proofs.Ytoanladhikdcaaa

namespace Go.Proofs.Ytoanladhikdcaaa
set_option linter.unusedVariables false
set_option linter.unusedSimpArgs false
set_option maxRecDepth 100000
section
variable {V : List ByteArray} {m n : Nat} {E : List EntV}
theorem mem_allR {k : Nat} (h1 : 1 ≤ k) (hk : kindR V k ≠ 0) : ∀ M, k ≤ M → k ∈ allR V M
  | 0, h => absurd h (by omega)
  | M + 1, h => by
    rw [allR_succ, List.mem_append]
    by_cases e : k = M + 1
    · right
      rw [← e, if_pos (by simpa using hk)]
      simp
    · exact .inl (mem_allR h1 hk M (by omega))
theorem kind_get (hv : IsVol V m) (h1 : 1 ≤ n) (h2 : n ≤ m) : (getR V (n : Int)).getD 0 0 = kindR V n := by
  rw [getR_vol hv h1 h2]
  rfl
/-- what a listing with no error tells of a volume that is sound -/
theorem dir_of (hv : IsVol V m) (hU : SndU V m (allO V)) {z : Int} (hl : (listO V z).2 = 0) : ∃ k : Nat, z = (k : Int) ∧ DirS V m k (listO V z).1 := by
  have h0 : inoE V z = 0 := by
    refine Classical.not_not.1 (fun h => ?_)
    unfold listO at hl
    rw [if_pos h] at hl
    exact h hl
  obtain ⟨m2, k, hv2, rfl, h1, h2, _⟩ := inoE_ok h0
  obtain rfl : m = m2 := by
    have e1 := ofR_some.2 hv
    have e2 := ofR_some.2 hv2
    rw [e1] at e2
    exact Option.some.inj e2
  refine ⟨k, rfl, ?_⟩
  have hvalid := listO_valid (xs := V) (n := (k : Int))
  unfold listO at hl hvalid ⊢
  rw [if_neg (by rw [h0]; simp)] at hl hvalid ⊢
  by_cases hk : (getR V (k : Int)).getD 0 0 = 2
  · rw [if_neg (by rw [hk]; simp)] at hl hvalid ⊢
    have hn : k ∈ allO V := by
      unfold allO
      rw [ofR_some.2 hv]
      exact mem_allR h1 (by rw [← kind_get hv h1 h2, hk]; decide) _ h2
    have hr : readO V (k : Int) 0 8960 = ((List.range (sizeX (getR V (k : Int)))).map (byteX V m (getR V (k : Int))), 0) := by
      unfold readO
      rw [if_neg (by rw [h0]; simp), if_neg (by omega), mO_vol hv]
      unfold readX spanX
      have := sizeX_le (getR V (k : Int))
      rw [show min ((0 : Int).toNat + (8960 : Int).toNat) (sizeX (getR V (k : Int))) - (0 : Int).toNat = sizeX (getR V (k : Int)) by show min (0 + 8960) _ - 0 = _; omega]
      congr 1
      rw [List.range_eq_range']
      rfl
    rw [hr] at hl hvalid ⊢
    dsimp only at hl hvalid ⊢
    cases he : entsO ((List.range (sizeX (getR V (k : Int)))).map (byteX V m (getR V (k : Int)))) with
    | none => rw [he] at hl; exact absurd hl (by decide)
    | some l =>
      rw [he] at hvalid
      obtain ⟨e1, e2, e3⟩ := entsO_some he
      rw [List.length_map, List.length_range] at e3
      refine ⟨⟨h1, h2, ⟨hv, rfl, getR_fit hv h1 h2⟩, ⟨hU.used hv hn, hU.inj hn⟩, hk, e3, fun i hi => ?_⟩, e2⟩
      show _ = (bytesE l).getD i 0
      rw [e1, List.getD_eq_getElem?_getD, List.getElem?_map, List.getElem?_range (by rw [e3]; exact hi)]
      rfl
  · rw [if_pos hk] at hl
    exact absurd hl (by decide)
/-! ### rows -/
theorem mem_insE {x y : EntV} : y ∈ insE E x ↔ y = x ∨ y ∈ E := by
  unfold insE
  rw [List.mem_append, List.mem_cons]
  have := List.take_append_drop (atE E x.name) E
  constructor
  · rintro (h | h | h)
    · exact .inr (List.mem_of_mem_take h)
    · exact .inl h
    · exact .inr (List.mem_of_mem_drop h)
  · rintro (h | h)
    · exact .inr (.inl h)
    · rw [← this] at h
      rcases List.mem_append.1 h with h | h
      · exact .inl h
      · exact .inr (.inr h)
theorem has_insE {x : EntV} {nm : ByteArray} : hasE (insE E x) nm = (decide (x.name = nm) || hasE E nm) := by
  rw [Bool.eq_iff_iff, Bool.or_eq_true]
  unfold hasE
  rw [List.any_eq_true, List.any_eq_true]
  constructor
  · rintro ⟨y, hy, h⟩
    rcases mem_insE.1 hy with rfl | hy
    · exact .inl h
    · exact .inr ⟨y, hy, h⟩
  · rintro (h | ⟨y, hy, h⟩)
    · exact ⟨x, mem_insE.2 (.inl rfl), h⟩
    · exact ⟨y, mem_insE.2 (.inr hy), h⟩
/-- in a valid row a name has one number -/
theorem get_mem (h : ValidE E) {y : EntV} (hy : y ∈ E) : getE E y.name = y.ino := by
  obtain ⟨k, hk, rfl⟩ := List.mem_iff_getElem.1 hy
  refine getE_at2 hk (fun j hj e => ?_) rfl
  have := List.pairwise_iff_getElem.1 h.rise j k (by omega) hk hj
  rw [e, ltB_irrefl] at this
  cases this
  where
  getE_at2 {l : List EntV} {nm : ByteArray} {k : Nat} (hk : k < l.length) (h : ∀ j (hj : j < k), l[j].name ≠ nm) (e : l[k].name = nm) : getE l nm = l[k].ino := by
    have hs : l = l.take k ++ l[k] :: l.drop (k + 1) := by rw [List.getElem_cons_drop, List.take_append_drop]
    unfold getE
    have hf : (l.take k).find? (fun x => decide (x.name = nm)) = none := by
      rw [List.find?_eq_none]
      intro x hx
      obtain ⟨j, hj, rfl⟩ := List.mem_iff_getElem.1 hx
      rw [List.length_take] at hj
      rw [List.getElem_take]
      simpa using h j (by omega)
    generalize hz : l[k] = z at *
    rw [hs, List.find?_append, hf, List.find?_cons_of_pos (by simp [e])]
    rfl
theorem outE_insE {x : EntV} (hh : hasE E x.name = false) : outE (insE E x) x.name = E := by
  have hne : ∀ y ∈ E, y.name ≠ x.name := fun y hy e => by
    unfold hasE at hh
    rw [List.any_eq_false] at hh
    have := hh y hy
    simp [e] at this
  unfold outE insE
  rw [List.filter_append, List.filter_cons_of_neg (by simp), ← List.filter_append, List.take_append_drop]
  exact List.filter_eq_self.2 fun y hy => by simp [hne y hy]
theorem find_dir (h : DirS V m n E) {nm : ByteArray} (hm : mayB nm.data.toList = true) : findO V (n : Int) nm = if hasE E nm = true then (getE E nm, 0) else (0, 9) := by
  unfold findO
  rw [if_neg (by rw [hm]; simp), h.list]
  dsimp only
  rw [if_neg (by simp)]
/-- what a drop does to a directory that has the name, where the shorter row can be written -/
theorem DirS.drop (h : DirS V m n E) {nm : ByteArray} (hm : mayB nm.data.toList = true) (hh : hasE E nm = true) (hw : outE E nm ≠ [] → (writeO V (n : Int) 0 (bytesE (outE E nm))).2 = 0) :
    (dropO V (n : Int) nm).2 = 0 ∧ DirS (dropO V (n : Int) nm).1 m n (outE E nm) := by
  have hlt : (outE E nm).length < E.length := by
    obtain ⟨hk, e⟩ := (at_has h.valid.rise).1 hh
    rw [at_out h.valid.rise hk e, List.length_append, List.length_take, List.length_drop]
    omega
  unfold dropO
  rw [if_neg (by rw [hm]; simp), h.list]
  dsimp only
  rw [if_neg (by simp), if_neg (by rw [hh]; simp)]
  by_cases h0 : outE E nm = []
  · rw [if_pos h0, h0]
    exact h.none (by omega)
  · rw [if_neg h0, if_neg (by rw [hw h0]; simp)]
    refine h.less (outE_valid h.valid nm) hlt ?_ (hw h0)
    cases hx : outE E nm with
    | nil => exact absurd hx h0
    | cons _ _ => simp
/-- what was written is there -/
theorem WroS.full {r : List ByteArray × List Nat} {l : List Nat} {d : List UInt8} (h : WroS m 0 d V l r) (hd : d ≠ []) {s : Nat} (hs : s < 70) (h1 : s ≤ (d.length - 1) / 128) : atX r.1 m r.2 s ≠ 0 :=
  (h.at_ s hs).2 (.inr ⟨hd, Nat.zero_le _, by rw [Nat.zero_add]; exact h1⟩)
theorem keeps (hv : IsVol V m) (hU : SndU V m (allO V)) {z : Int} {nm ot : ByteArray} {ino : Int} (hne : nm ≠ ot) (ha : (addO V z nm ino).2 = 0) :
    findO (addO V z nm ino).1 z nm = (ino, 0) ∧ findO (addO V z nm ino).1 z ot = findO V z ot ∧ (dropO (addO V z nm ino).1 z nm).2 = 0 ∧ (findO (dropO (addO V z nm ino).1 z nm).1 z nm).2 = 9 ∧ listO (dropO (addO V z nm ino).1 z nm).1 z = ((listO V z).1, 0) ∧
      (addO V z nm ino).1.length ≤ 1000000 ∧ (dropO (addO V z nm ino).1 z nm).1.length ≤ 1000000 := by
  have hm : mayB nm.data.toList = true := by
    cases h : mayB nm.data.toList with
    | true => rfl
    | false => unfold addO at ha; rw [if_pos h] at ha; exact absurd ha (by decide)
  have hi : ¬ (ino < 1 ∨ 64 < ino) := fun h => by
    unfold addO at ha
    rw [if_neg (by rw [hm]; simp), if_pos h] at ha
    exact absurd ha (by decide)
  have hl : (listO V z).2 = 0 := by
    refine Classical.not_not.1 (fun h => ?_)
    unfold addO at ha
    rw [if_neg (by rw [hm]; simp), if_neg hi, if_pos h] at ha
    exact h ha
  have hh : hasE (listO V z).1 nm = false := by
    cases h : hasE (listO V z).1 nm with
    | false => rfl
    | true =>
      unfold addO at ha
      rw [if_neg (by rw [hm]; simp), if_neg hi, if_neg (by rw [hl]; simp), if_pos h] at ha
      exact absurd ha (by decide)
  obtain ⟨n, rfl, hD⟩ := dir_of hv hU hl
  generalize (listO V (n : Int)).1 = E at *
  have hk : okE ⟨nm, ino⟩ = true := by
    unfold okE
    dsimp only
    rw [hm, Bool.true_and, decide_eq_true_iff]
    omega
  obtain ⟨e1, e2⟩ := hD.add hk hh
  rcases e2 with ⟨_, ⟨r, hr, hput⟩, hW⟩ | ⟨_, h | h⟩
  · have hWv := hW.valid
    have hlenI := insE_len E ⟨nm, ino⟩
    have hWl := hW.file.small
    generalize hWo : (addO V (n : Int) nm ino).1 = W at *
    have f1 : findO W (n : Int) nm = (ino, 0) := by
      rw [find_dir hW hm, if_pos (by rw [has_insE]; simp), get_mem hWv (y := ⟨nm, ino⟩) (mem_insE.2 (.inl rfl))]
    have f2 : findO W (n : Int) ot = findO V (n : Int) ot := by
      cases hmo : mayB ot.data.toList with
      | false => unfold findO; rw [if_pos hmo, if_pos hmo]
      | true =>
        rw [find_dir hW hmo, find_dir hD hmo, has_insE]
        have : decide ((⟨nm, ino⟩ : EntV).name = ot) = false := decide_eq_false hne
        rw [this, Bool.false_or]
        cases hho : hasE E ot with
        | false => rfl
        | true =>
          rw [if_pos rfl, if_pos rfl]
          unfold hasE at hho
          obtain ⟨y, hy, e⟩ := List.any_eq_true.1 hho
          obtain rfl := of_decide_eq_true e
          rw [get_mem hD.valid hy, get_mem hWv (mem_insE.2 (.inr hy))]
    have ho : outE (insE E ⟨nm, ino⟩) nm = E := outE_insE (x := ⟨nm, ino⟩) hh
    have hdr := hW.drop (nm := nm) hm (by rw [has_insE]; simp) (fun h0 => by
      rw [ho] at h0 ⊢
      have hb := bytesE_len hD.valid.ok
      have hb2 := bytesE_len hWv.ok
      have h0l : 0 < E.length := by cases hE : E with
        | nil => exact absurd hE h0
        | cons _ _ => simp
      refine hW.file.over (by omega) (by omega) fun s hs => ?_
      have hvW := hr.mv.vol
      rw [hput, get_put_same hvW hD.file.num1 hD.file.num2 hr.ok.fit, atX_put hvW hD.file.num1 hD.file.num2]
      unfold fallN at hs
      rw [if_neg (by omega)] at hs
      refine hr.full (fun e => ?_) (by omega) ?_
      · rw [e] at hb2; simp at hb2; omega
      · rw [hb2]; omega)
    rw [ho] at hdr
    obtain ⟨g1, g2⟩ := hdr
    have n0 := hW.file.ok.vol.len
    have n1 := g2.file.ok.vol.len
    dsimp only at n0 n1
    refine ⟨f1, f2, g1, ?_, g2.list, by omega, by omega⟩
    rw [find_dir g2 hm, if_neg (by rw [hh]; simp)]
  · rw [h.1] at ha; exact absurd ha (by decide)
  · rw [h.1] at ha; exact absurd ha (by decide)
end
end Go.Proofs.Ytoanladhikdcaaa

namespace Go.Proofs.Ytoanladhikdcaaa
open Go.RowKit
set_option linter.unusedVariables false
set_option linter.unusedSimpArgs false
set_option maxRecDepth 100000
def SoundPost (xs : List ByteArray) (w : World) (e : Ending) (w' : World) : Prop := (∃ r : Int, e = .returned (.int .i64 r) ∧ (r ≠ 0 → ∃ m, IsVol xs m ∧ SndU xs m (allO xs))) ∧ Below w.heap.size w w'
theorem sound_zero {xs : List ByteArray} {w w' : World} (h : Below w.heap.size w w') : SoundPost xs w (.returned (.int .i64 0)) w' := ⟨⟨0, rfl, fun h => absurd rfl h⟩, h⟩
def intL (l : List Nat) : List Int := l.map fun n : Nat => (n : Int)
theorem intL_len (l : List Nat) : (intL l).length = l.length := List.length_map _
theorem intL_snoc (l : List Nat) (n : Nat) : intL (l ++ [n]) = intL l ++ [(n : Int)] := by unfold intL; simp
theorem intL_get {l : List Nat} {i n : Nat} (h : l[i]? = some n) : (intL l)[i]? = some (n : Int) := by unfold intL; simp [h]
set_option maxHeartbeats 8000000 in
theorem sound_any (A : Option Addr) (c : Nat) (xs : List ByteArray) (w : World) (hx : xs.length ≤ 1000000) (h : RowAt w w.heap.size A (xs.map .string)) :
    Calls Try.prog 24 #[.slice A xs.length c] w (SoundPost xs w) := by
  have HR := Lib.hid h
  obtain ⟨i0, q1, q2, q3, q4⟩ := info_parts i64_info
  have I0 := Lib.hid (And.intro q1 (And.intro q2 (And.intro q3 q4)))
  clear q1 q2 q3 q4 h
  go_enter Try.func24, Try.ntmps24
  go_wp2_with fail
  refine (rof_any A c xs _ hx HR.out).mono ?_
  rintro e w1 ⟨rfl, hb1⟩
  have B1 := Lib.hid hb1
  have R1 := Lib.hid ((HR.out.below hb1).mono hb1.size)
  have hz1 := hb1.size
  clear hb1 HR
  cases ho : ofR xs with
  | none =>
    unfold ofE
    go_wp2
    go_ret
    exact sound_zero (B1.out.alloc hz1 _)
  | some m =>
    have hv := ofR_some.1 ho
    have hlen := hv.len
    have HV := Lib.hid hv
    clear ho hv
    unfold ofE
    dsimp only
    have hd3 : dataN m ≤ 67 := by unfold dataN; omega
    obtain ⟨d, hd⟩ : ∃ d, dataN m = d := ⟨_, rfl⟩
    have HD := Lib.hid hd
    rw [hd] at hd3
    rw [hd]
    clear hd
    obtain ⟨ns, hns⟩ : ∃ ns, allO xs = ns := ⟨_, rfl⟩
    have HNS := Lib.hid hns
    have hnl := allO_len xs
    rw [hns] at hnl
    have CA := Lib.hid (fun w hr => rall_ino A c xs w hx hr)
    rw [hns] at CA
    have CG := Lib.hid (fun (n : Nat) w hr => rget_ino A c xs (n : Int) w hx hr)
    have CU := Lib.hid (fun (z : Int) w hr => rused_any A c xs z w hx hr)
    clear hns
    have b2 : Below w1.heap.size w1 (w1.alloc (.cells #[.int .i64 (xs.length : Int), .int .i64 (m : Int), .int .i64 1, .int .i64 2, .int .i64 3, .int .i64 (d : Int)] 67)) := (Below.refl _ _).alloc (Nat.le_refl _) _
    have g2 := Blk.new w1 67 #[.int .i64 (xs.length : Int), .int .i64 (m : Int), .int .i64 1, .int .i64 2, .int .i64 3, .int .i64 (d : Int)]
    have s2 : (w1.alloc (.cells #[.int .i64 (xs.length : Int), .int .i64 (m : Int), .int .i64 1, .int .i64 2, .int .i64 3, .int .i64 (d : Int)] 67)).heap.size = w1.heap.size + 1 := by simp
    have i3 := IRow.new (w1.alloc (.cells #[.int .i64 (xs.length : Int), .int .i64 (m : Int), .int .i64 1, .int .i64 2, .int .i64 3, .int .i64 (d : Int)] 67)) 3 [] (Nat.zero_le _)
    have b3 : Below (w1.alloc (.cells #[.int .i64 (xs.length : Int), .int .i64 (m : Int), .int .i64 1, .int .i64 2, .int .i64 3, .int .i64 (d : Int)] 67)).heap.size (w1.alloc (.cells #[.int .i64 (xs.length : Int), .int .i64 (m : Int), .int .i64 1, .int .i64 2, .int .i64 3, .int .i64 (d : Int)] 67)) ((w1.alloc (.cells #[.int .i64 (xs.length : Int), .int .i64 (m : Int), .int .i64 1, .int .i64 2, .int .i64 3, .int .i64 (d : Int)] 67)).alloc (.cells #[] 3)) := (Below.refl _ _).alloc (Nat.le_refl _) _
    rw [show (List.map (Value.int .i64) []).toArray = #[] from rfl] at i3
    go_wp2_with fail
    generalize hw2 : w1.alloc (.cells #[.int .i64 (xs.length : Int), .int .i64 (m : Int), .int .i64 1, .int .i64 2, .int .i64 3, .int .i64 (d : Int)] 67) = w2 at *
    generalize hw3 : w2.alloc (.cells #[] 3) = w3 at *
    clear hw2 hw3
    rw [s2] at i3
    generalize hg0 : w1.heap.size = g0 at *
    have BW2 := Lib.hid (B1.out.trans (b2.mono (by rw [← hg0] at *; exact B1.out.size)))
    have RV3 := Lib.hid ((((R1.out.below b2).mono (by omega : g0 ≤ w2.heap.size)).below b3).mono b3.size)
    have G3 := Lib.hid (g2.below b3 (by omega))
    have IM3 := Lib.hid i3
    have B3 := Lib.hid b3
    have S2 := Lib.hid s2
    -- LOOPS
    refine (CA.out _ RV3.out).mono ?_
    rintro e w4 ⟨⟨v4, rfl, hn4⟩, hb4⟩
    obtain ⟨A4, c4, rfl, hr4⟩ := hn4.read
    have RA4 := Lib.hid (RowOff.of_own (g := g0 + 1) hn4 (by have := i3.lt; omega))
    have IM4 := Lib.hid (IM3.out.below hb4 IM3.out.lt)
    have B4 := Lib.hid (B3.out.trans (hb4.mono B3.out.size))
    have RV2 := Lib.hid (((R1.out.below b2).mono (by omega) : RowAt w2 w2.heap.size A (xs.map .string)))
    replace g2 := Lib.hid g2
    have HS0 : Hid (SndU xs m (ns.take 0)) := fun n hn => by cases hn
    clear hn4 hb4 hr4 CA IM3 RV3 G3 B3 R1 B1 i3 b3
    go_wp2
    go_loopw [5, 27] (fun met i wr => ∃ (k gm cm : Nat) (ms : List Int), k ≤ ns.length ∧ i = .int .i64 (k : Int) ∧ met = .slice (some ⟨gm, 0, none⟩) ms.length cm ∧ Hid (ms.length ≤ 72 * k) ∧ Hid (IRow wr gm cm ms) ∧ Hid (w2.heap.size ≤ gm) ∧ Hid (RowOff wr gm A4 (numsC ns)) ∧ Hid (SndU xs m (ns.take k)) ∧ Hid (Below w2.heap.size w2 wr)) (fun _ i _ => ns.length - (intOf i).toNat)
    case atStart => exact ⟨0, g0 + 1, 0, [], Nat.zero_le _, rfl, rfl, Lib.hid (Nat.zero_le _), IM4, Lib.hid (by rw [s2]; exact Nat.le_refl _), RA4, HS0, B4⟩
    case round =>
      clear IM4 RA4 HS0 B4
      obtain ⟨k, gm, cm, ms, hk, rfl, rfl, HMM, IM, HBG, RA, HSU, BB⟩ := hrel
      by_cases hlt : k < ns.length
      · have i2 : (k : Int) < (ns.length : Int) := by omega
        obtain ⟨ba, oa, rfl, hca⟩ := RA.out.at_ (by unfold numsC; rw [List.length_map]; omega)
        obtain ⟨n, hn⟩ : ∃ n, ns[k] = n := ⟨_, rfl⟩
        have HNK : Hid ((some ns[k]).toList = [n]) := by show _ = _; rw [hn]; rfl
        have q1 := hca k (.int .i64 (n : Int)) (by unfold numsC; rw [List.getElem?_map, List.getElem?_eq_getElem hlt, hn]; rfl)
        have RVr := Lib.hid ((RV2.out.below BB.out).mono BB.out.size)
        clear hn hca
        go_wp2_with fail
        refine (CG.out n _ RVr.out).mono ?_
        rintro e w5 ⟨rfl, hb5⟩
        have IM5 := Lib.hid (IM.out.below hb5 IM.out.lt)
        have RA5 := Lib.hid (RA.out.below hb5)
        have BB5 := Lib.hid (BB.out.trans (hb5.mono BB.out.size))
        have hz5 := hb5.size
        obtain ⟨l, hll⟩ : ∃ l, getR xs (n : Int) = l := ⟨_, rfl⟩
        have hl12 : l.length = 12 := by rw [← hll]; exact getR_len _ _
        have HLL := Lib.hid hll
        rw [hll]
        have HIZ : Hid ((inoC l).size = 12) := by show _ = _; rw [inoC_size, hl12]
        have HI := Lib.hid (ino_info12 hl12)
        have c10 := inoC_at hl12 10 (by omega)
        have c11 := inoC_at hl12 11 (by omega)
        have HCI := Lib.hid (fun i hi => inoC_at hl12 i hi)
        obtain ⟨l10, hl10⟩ : ∃ l10, l.getD 10 0 = l10 := ⟨_, rfl⟩
        obtain ⟨l11, hl11⟩ : ∃ l11, l.getD 11 0 = l11 := ⟨_, rfl⟩
        have HD0 : Hid (intL (dirL l 0) = [(l10 : Int), (l11 : Int)]) := by show _ = _; rw [← hl10, ← hl11]; rfl
        have H10 := Lib.hid hl10
        rw [hl10] at c10
        rw [hl11] at c11
        clear hb5 hll hl12 IM RA BB RVr q1 hl10 hl11
        go_wp2_with (refine store_blk 41 (.tmp 8) (.tmp 37) w5.heap.size 41 (inoC (List.replicate 12 0)) (inoC l) rfl rfl rfl rfl (Blk.new w5 _ _) (by rw [HIZ.out]; rfl) HI.out (inoC_one _) ?_; intro w6 hr6 hg6; have k10 := hr6.cell 10 c10; have k11 := hr6.cell 11 c11)
        have a6 : Below w5.heap.size w5 w6 := ((Below.refl _ _).alloc (Nat.le_refl _) _).grown hg6 (by simp) (fun k e => by cases e; exact Nat.le_refl _)
        have G6 := Lib.hid hr6
        have IM6 := Lib.hid (IM5.out.below a6 IM5.out.lt)
        have HG6 : Hid (gm < w6.heap.size) := IM6.out.lt
        have RA6 := Lib.hid (RA5.out.below a6)
        have BB6 := Lib.hid (BB5.out.trans (a6.mono BB5.out.size))
        have IL := Lib.hid (IRow.new w6 3 [(l10 : Int), (l11 : Int)] (by unfold maxLen; simp))
        clear a6 hr6 hg6 k10 k11 IM5 RA5 BB5 hz5
        generalize w5.heap.size = gx at *
        go_loopw [10, 11] (fun lv i wr => ∃ (j gl cl : Nat) (L : List Int), j ≤ 6 ∧ i = .int .i64 (j : Int) ∧ lv = .slice (some ⟨gl, 0, none⟩) L.length cl ∧ Hid (L = intL (dirL l j)) ∧ Hid (IRow wr gl cl L) ∧ Hid (w6.heap.size ≤ gl) ∧ Hid (Below w6.heap.size w6 wr)) (fun _ i _ => 6 - (intOf i).toNat)
        case atStart => exact ⟨0, _, 2, [(l10 : Int), (l11 : Int)], by omega, rfl, rfl, Lib.hid HD0.out.symm, IL, Lib.hid (Nat.le_refl _), Lib.hid ((Below.refl _ _).alloc (Nat.le_refl _) _)⟩
        case round =>
          clear IL
          obtain ⟨j, gl, cl, L, hj, rfl, rfl, HL, IL, HGL, BL⟩ := hrel
          by_cases hlt2 : j < 6
          · have i3 : (j : Int) < 6 := by omega
            obtain ⟨lj, hlj⟩ : ∃ lj, l.getD (4 + j) 0 = lj := ⟨_, rfl⟩
            have cj := HCI.out (4 + j) (by omega)
            rw [hlj] at cj
            have qj := (G6.out.below BL.out G6.out.lt).cell (4 + j) cj
            have HLJ : Hid (L ++ [(lj : Int)] = intL (dirL l (j + 1))) := by show _ = _; rw [dirL_succ, intL_snoc, HL.out, hlj]
            have ILa := Lib.hid (IL.out.below ((Below.refl _ _).alloc (Nat.le_refl _) (.cells #[.int .i64 (lj : Int)] 3)) IL.out.lt)
            have HC : Hid ((wr.alloc (.cells #[.int .i64 (lj : Int)] 3)).cell? ⟨wr.heap.size, 0, none⟩ = some (.int .i64 (lj : Int))) := (Blk.new wr _ _).cell 0 rfl
            have hmb : L.length + 1 ≤ 1000000 := by rw [HL.out, intL_len, dirL_len]; omega
            clear hlj cj
            go_wp2_with (at_builtin; refine wpList_ints_push _ rfl (.tmp 48) (.tmp 53) 71 rfl 3 i0 Try.underlying71 I0.out.1 I0.out.2.1 I0.out.2.2.1 I0.out.2.2.2 gl cl L rfl ILa.out ⟨wr.heap.size, 0, none⟩ 1 (lj : Int) rfl HC.out hmb ?_; intro g9 c9 w9 own hg9 hgr9)
            have hall : Below wr.heap.size wr (wr.alloc (.cells #[.int .i64 (lj : Int)] 3)) := (Below.refl _ _).alloc (Nat.le_refl _) _
            have BL9 := Lib.hid (below_push (BL.out.trans (hall.mono BL.out.size)) hgr9 (Nat.le_trans BL.out.size hall.size) HGL.out)
            have HGL9 : Hid (w6.heap.size ≤ g9) := by
              show _ ≤ _
              have h1 := BL.out.size
              have h2 := hall.size
              rcases hg9 with e | e
              · rw [e]; exact HGL.out
              · omega
            have IL9 := Lib.hid own
            clear own hg9 hgr9 hall IL BL HGL ILa HC qj HL
            go_wp2
            go_roundw
            case rel => exact ⟨j + 1, g9, c9, L ++ [(lj : Int)], by omega, by go_num, by rw [List.length_append]; rfl, HLJ, IL9, HGL9, BL9⟩
            case measure => simp [intOf]; omega
          · obtain rfl : j = 6 := by omega
            rw [show ((6 : Nat) : Int) = 6 from rfl]
            have k10 := (G6.out.below BL.out G6.out.lt).cell 10 c10
            have G9 := Lib.hid ((g2.out.below BB6.out (by have := S2.out; omega)).below BL.out (by have h1 := BB6.out.size; have h2 := S2.out; omega))
            have kd := G9.out.cell 5 rfl
            have kb := G9.out.cell 0 rfl
            clear G9 HD0
            cases hdb : datB xs m l10 with
            | true =>
              have hdd := datB_iff.1 hdb
              rw [HD.out] at hdd
              have d1 : (d : Int) ≤ (l10 : Int) := by omega
              have d2 : (l10 : Int) < (xs.length : Int) := by omega
              have HNL : Hid (numsL xs m l = dirL l 6 ++ indL xs l10 64) := by show _ = _; unfold numsL; rw [H10.out, if_pos hdb]
              have HD6 := Lib.hid HL.out
              have HL3 : Hid (L = intL (dirL l 6 ++ indL xs l10 0)) := by
                show _ = _
                have : indL xs l10 0 = [] := rfl
                rw [this, List.append_nil]; exact HL.out
              have hb10 := HV.out.blk l10 hdd.2
              obtain ⟨s, hs⟩ : ∃ s, xs[l10]'hdd.2 = s := ⟨_, rfl⟩
              have hss : s.data.toList = blkL xs l10 := by unfold blkL; rw [List.getD_eq_getElem?_getD, List.getElem?_eq_getElem hdd.2, hs]; rfl
              have hsz : s.size = 128 := by
                have h1 : s.data.toList.length = 128 := by rw [hss]; exact hb10
                rw [Array.length_toList] at h1; exact h1
              have HSS := Lib.hid hss
              have HSZ := Lib.hid hsz
              have CTW := Lib.hid (fun k w (hk : k + 2 ≤ 128) => rget_two s k w (by rw [hsz]; exact hk) (by rw [hsz]; decide))
              have HRW : Hid ((xs.map Value.string)[l10]? = some (.string s)) := by show _ = _; rw [List.getElem?_map, List.getElem?_eq_getElem hdd.2, hs]; rfl
              clear hdb hdd hb10 hs hss hsz HL
              go_wp2
              go_loopw [10, 12] (fun lv i wr => ∃ (j gl cl : Nat) (L : List Int), j ≤ 64 ∧ i = .int .i64 (j : Int) ∧ lv = .slice (some ⟨gl, 0, none⟩) L.length cl ∧ Hid (L = intL (dirL l 6 ++ indL xs l10 j)) ∧ Hid (IRow wr gl cl L) ∧ Hid (w6.heap.size ≤ gl) ∧ Hid (Below w6.heap.size w6 wr)) (fun _ i _ => 64 - (intOf i).toNat)
              case atStart => exact ⟨0, gl, cl, L, by omega, rfl, rfl, HL3, IL, HGL, BL⟩
              case round =>
                clear HL3 IL HGL BL HD6 k10 kd kb
                obtain ⟨j, gl, cl, L, hj, rfl, rfl, HL, IL, HGL, BL⟩ := hrel
                by_cases hlt2 : j < 64
                · have i3 : (j : Int) < 64 := by omega
                  obtain ⟨p, hp⟩ : ∃ p, 2 * j = p := ⟨_, rfl⟩
                  have hp2 : p + 2 ≤ 128 := by omega
                  have a1 : IntKind.i64.wrap (2 * (j : Int)) = (p : Int) := by
                    have : IntKind.i64.wrap (2 * (j : Int)) = 2 * (j : Int) := IntWalk.i64_in _ (by omega)
                    rw [this]; omega
                  have a2 : IntKind.i64.wrap ((p : Int) + 2) = ((p + 2 : Nat) : Int) := by
                    have : IntKind.i64.wrap ((p : Int) + 2) = (p : Int) + 2 := IntWalk.i64_in _ (by omega)
                    rw [this]; omega
                  have a3 : (0 : Int) ≤ (p : Int) := by omega
                  have a4 : (p : Int) ≤ ((p + 2 : Nat) : Int) := by omega
                  have a5 : ((p + 2 : Nat) : Int) ≤ (s.size : Int) := by rw [HSZ.out]; omega
                  have k10 := (G6.out.below BL.out G6.out.lt).cell 10 c10
                  obtain ⟨v, hv2⟩ : ∃ v, leN ((s.data.toList.drop p).take 2) = v := ⟨_, rfl⟩
                  have hvn : numAt (blkL xs l10) (2 * j) 2 = v := by rw [hp, ← HSS.out]; exact hv2
                  have hvl : v < 65536 := by rw [← hvn]; exact numAt_lt _ _ 2
                  have a6 : IntKind.i64.wrap (v : Int) = (v : Int) := IntWalk.i64_in _ (by omega)
                  have HLJ : Hid (L ++ [(v : Int)] = intL (dirL l 6 ++ indL xs l10 (j + 1))) := by show _ = _; rw [indL_succ, ← List.append_assoc, intL_snoc, HL.out, hvn]
                  have CT2 := Lib.hid (fun w => CTW.out p w hp2)
                  rw [hv2] at CT2
                  have RVr := Lib.hid ((RV2.out.below ((BB6.out.trans (BL.out.mono BB6.out.size)))))
                  obtain ⟨bA, oA, rfl, hbA, hcA⟩ := RVr.out.at_ (by rw [List.length_map]; have := HV.out.len; omega)
                  have kA := hcA l10 _ HRW.out
                  have ILa := Lib.hid (IL.out.below ((Below.refl _ _).alloc (Nat.le_refl _) (.cells #[.int .i64 (v : Int)] 3)) IL.out.lt)
                  have HC : Hid ((wr.alloc (.cells #[.int .i64 (v : Int)] 3)).cell? ⟨wr.heap.size, 0, none⟩ = some (.int .i64 (v : Int))) := (Blk.new wr _ _).cell 0 rfl
                  have hmb : L.length + 1 ≤ 1000000 := by rw [HL.out, intL_len, List.length_append, dirL_len, indL_len]; omega
                  clear hp hv2 hvn hbA hcA
                  go_wp2_with fail
                  refine (CT2.out _).mono ?_
                  rintro e w8 ⟨rfl, rfl⟩
                  go_wp2_with (at_builtin; refine wpList_ints_push _ rfl (.tmp 71) (.tmp 85) 71 rfl 3 i0 Try.underlying71 I0.out.1 I0.out.2.1 I0.out.2.2.1 I0.out.2.2.2 gl cl L rfl ILa.out ⟨wr.heap.size, 0, none⟩ 1 (v : Int) rfl HC.out hmb ?_; intro g9 c9 w9 own hg9 hgr9)
                  have hall : Below wr.heap.size wr (wr.alloc (.cells #[.int .i64 (v : Int)] 3)) := (Below.refl _ _).alloc (Nat.le_refl _) _
                  have BL9 := Lib.hid (below_push (BL.out.trans (hall.mono BL.out.size)) hgr9 (Nat.le_trans BL.out.size hall.size) HGL.out)
                  have HGL9 : Hid (w6.heap.size ≤ g9) := by
                    show _ ≤ _
                    have h1 := BL.out.size
                    have h2 := hall.size
                    rcases hg9 with e | e
                    · rw [e]; exact HGL.out
                    · omega
                  have IL9 := Lib.hid own
                  clear own hg9 hgr9 hall IL BL HGL ILa HC HL kA k10
                  go_wp2
                  go_roundw
                  case rel => exact ⟨j + 1, g9, c9, L ++ [(v : Int)], by omega, by go_num, by rw [List.length_append]; rfl, HLJ, IL9, HGL9, BL9⟩
                  case measure => simp [intOf]; omega
                · obtain rfl : j = 64 := by omega
                  rw [show ((64 : Nat) : Int) = 64 from rfl]
                  have HLT := Lib.hid hj
                  have ILf := Lib.hid IL.out
                  replace HL : Hid (L = intL (numsL xs m l)) := by show _ = _; rw [HNL.out]; exact HL.out
                  clear HNL
                  clear IL G6 HLT
                  have HLN : Hid (L.length ≤ 72) := by show _ ≤ _; rw [HL.out, intL_len]; exact numsL_len _ _ _
                  have hln := HLN.out
                  have IM7 := Lib.hid (IM6.out.below BL.out HG6.out)
                  have RA7 := Lib.hid (RA6.out.below BL.out)
                  have RL7 := Lib.hid (RowOff.of_irow ILf.out (g := gm) (by have h1 := HGL.out; have h2 := HG6.out; omega))
                  have BB7 := Lib.hid (BB6.out.trans (BL.out.mono BB6.out.size))
                  have HU0 : Hid (UnJ xs (numsL xs m l) ms 0) := UnJ.zero
                  have HM7 : Hid (ms.length ≤ 72 * k + 0) := HMM.out
                  clear IM6 RA6 ILf BB6 HGL HG6 BL HMM
                  generalize wr = w7 at *
                  go_wp2
                  go_loopw [5, 89] (fun met i wr => ∃ (j gm cm : Nat) (ms : List Int), j ≤ L.length ∧ i = .int .i64 (j : Int) ∧ met = .slice (some ⟨gm, 0, none⟩) ms.length cm ∧ Hid (ms.length ≤ 72 * k + j) ∧ Hid (IRow wr gm cm ms) ∧ Hid (w2.heap.size ≤ gm) ∧ Hid (RowOff wr gm (some ⟨ba, oa, none⟩) (numsC ns)) ∧ Hid (RowOff wr gm (some ⟨gl, 0, none⟩) (L.map (Value.int .i64))) ∧ Hid (UnJ xs (numsL xs m l) ms j) ∧ Hid (Below w2.heap.size w2 wr)) (fun _ i _ => L.length - (intOf i).toNat)
                  case atStart => exact ⟨0, gm, cm, ms, Nat.zero_le _, rfl, rfl, HM7, IM7, HBG, RA7, RL7, HU0, BB7⟩
                  case round =>
                    clear HM7 IM7 HBG RA7 RL7 HU0 BB7
                    obtain ⟨j, gm, cm, ms, hj, rfl, rfl, HMM, IM, HBG, RA, RL, HU, BB⟩ := hrel
                    by_cases hlt2 : j < L.length
                    · have i3 : (j : Int) < (L.length : Int) := by omega
                      obtain ⟨z, hz⟩ : ∃ z, (numsL xs m l)[j]? = some z := by
                        have : j < (numsL xs m l).length := by rw [HL.out, intL_len] at hlt2; exact hlt2
                        exact ⟨_, List.getElem?_eq_getElem this⟩
                      have HZ := Lib.hid hz
                      have hLj : (L.map (Value.int .i64))[j]? = some (.int .i64 (z : Int)) := by rw [HL.out, List.getElem?_map, intL_get hz]; rfl
                      have HLJ := Lib.hid hLj
                      have CLJ : Hid (∀ W, RowOff W gm (some ⟨gl, 0, none⟩) (L.map (Value.int .i64)) → W.cell? ⟨gl, j, none⟩ = some (.int .i64 (z : Int))) := fun W hW => by
                        obtain ⟨b, o, hA, hc⟩ := hW.at_ (by rw [List.length_map]; omega)
                        injection hA with hA
                        injection hA with h1 h2 _
                        have := hc j _ HLJ.out
                        rw [← h1, ← h2, Nat.zero_add] at this
                        exact this
                      have q1 := CLJ.out wr RL.out
                      clear hz hLj
                      by_cases hz0 : z = 0
                      · subst hz0
                        have HU2 : Hid (UnJ xs (numsL xs m l) ms (j + 1)) := HU.out.skip HZ.out
                        have HM2 : Hid (ms.length ≤ 72 * k + (j + 1)) := by have := HMM.out; show _ ≤ _; omega
                        clear HU HMM
                        go_wp2
                        go_roundw
                        case rel => exact ⟨j + 1, gm, cm, ms, by omega, by go_num, rfl, HM2, IM, HBG, RA, RL, HU2, BB⟩
                        case measure => simp [intOf]; omega
                      · have hz1 : ¬ ((z : Int) = 0) := by omega
                        have hz2 : ((z : Int) == 0) = false := beq_eq_false_iff_ne.2 (by omega)
                        have G9 := Lib.hid (g2.out.below BB.out (by have := S2.out; omega))
                        have u1 : ∀ u : Ext wr, u.val.cell? ⟨gl, j, none⟩ = some (.int .i64 (z : Int)) := fun u => u.cell q1
                        have u2 : ∀ u : Ext wr, u.val.cell? ⟨g0, 0, none⟩ = some (.int .i64 (xs.length : Int)) := fun u => u.cell (G9.out.cell 0 rfl)
                        have u3 : ∀ u : Ext wr, u.val.cell? ⟨g0, 5, none⟩ = some (.int .i64 (d : Int)) := fun u => u.cell (G9.out.cell 5 rfl)
                        have RVr := Lib.hid ((RV2.out.below BB.out).mono BB.out.size)
                        have QU : Hid (∀ u : Ext wr, Calls Try.prog 45 #[.slice A xs.length c, .int .i64 (z : Int)] u.val fun e w' => e = .returned (.bool (usedR xs (z : Int))) ∧ Below u.val.heap.size u.val w') := fun u => CU.out _ _ (RVr.out.ext u)
                        have BWr := Lib.hid (BW2.out.trans (BB.out.mono BW2.out.size))
                        clear G9 RVr
                        by_cases c1 : z < d
                        · have e1 : decide ((z : Int) < (d : Int)) = true := decide_eq_true (by omega)
                          have c1' : (z : Int) < (d : Int) := by omega
                          go_wp2
                          refine wp_region_ext (by kernel_rfl) (by kernel_rfl) ?_
                          repeat (go_big_quiet_step (first | (go_at_call 45; with_reducible exact Ext.call (QU.out _))))
                          refine wpQuiet_nil ?_
                          rintro _ ⟨u, rfl⟩
                          have BWu := Lib.hid (BWr.out.trans (u.below.mono BWr.out.size))
                          go_wp2
                          go_ret
                          exact sound_zero BWu.out
                        · have e1 : decide ((z : Int) < (d : Int)) = false := decide_eq_false (by omega)
                          have c1' : ¬ (z : Int) < (d : Int) := by omega
                          by_cases c2 : xs.length ≤ z
                          · have e2 : decide ((xs.length : Int) ≤ (z : Int)) = true := decide_eq_true (by omega)
                            have c2' : (xs.length : Int) ≤ (z : Int) := by omega
                            go_wp2
                            refine wp_region_ext (by kernel_rfl) (by kernel_rfl) ?_
                            repeat (go_big_quiet_step (first | (go_at_call 45; with_reducible exact Ext.call (QU.out _))))
                            refine wpQuiet_nil ?_
                            rintro _ ⟨u, rfl⟩
                            have BWu := Lib.hid (BWr.out.trans (u.below.mono BWr.out.size))
                            go_wp2
                            go_ret
                            exact sound_zero BWu.out
                          · have e2 : decide ((xs.length : Int) ≤ (z : Int)) = false := decide_eq_false (by omega)
                            have c2' : ¬ (xs.length : Int) ≤ (z : Int) := by omega
                            cases hus : usedR xs (z : Int) with
                            | false =>
                              rw [hus] at QU
                              go_wp2
                              refine wp_region_ext (by kernel_rfl) (by kernel_rfl) ?_
                              repeat (go_big_quiet_step (first | (go_at_call 45; with_reducible exact Ext.call (QU.out _))))
                              refine wpQuiet_nil ?_
                              rintro _ ⟨u, rfl⟩
                              have BWu := Lib.hid (BWr.out.trans (u.below.mono BWr.out.size))
                              go_wp2
                              go_ret
                              exact sound_zero BWu.out
                            | true =>
                              rw [hus] at QU
                              have HU2 := Lib.hid (fun hn => HU.out.push HZ.out hus hn)
                              clear hus HU
                              have hml : ms.length ≤ 10000 := by have := HMM.out; omega
                              go_wp2
                              refine wp_region_ext (by kernel_rfl) (by kernel_rfl) ?_
                              repeat (go_big_quiet_step (first | (go_at_call 45; with_reducible exact Ext.call (QU.out _))))
                              refine wpQuiet_nil ?_
                              rintro _ ⟨u, rfl⟩
                              have IM8 := Lib.hid (IM.out.below u.below IM.out.lt)
                              have RA8 := Lib.hid (RA.out.below u.below)
                              have RL8 := Lib.hid (RL.out.below u.below)
                              have BB8 := Lib.hid (BB.out.trans (u.below.mono BB.out.size))
                              have BWu := Lib.hid (BWr.out.trans (u.below.mono BWr.out.size))
                              clear u1 u2 u3 QU IM RA RL BB BWr q1
                              generalize u.val = w8 at *
                              go_wp2
                              go_loopw [124] (fun i wr => ∃ p : Nat, p ≤ ms.length ∧ i = .int .i64 (p : Int) ∧ Hid (∀ q, q < p → ms[q]? ≠ some (z : Int)) ∧ Hid (Below w8.heap.size w8 wr)) (fun i _ => ms.length - (intOf i).toNat)
                              case atStart => exact ⟨0, Nat.zero_le _, rfl, Lib.hid (fun q h => absurd h (Nat.not_lt_zero _)), Lib.hid (Below.refl _ _)⟩
                              case round =>
                                obtain ⟨p, hp, rfl, HQ, BP⟩ := hrel
                                have q1 := CLJ.out wr (RL8.out.below BP.out)
                                by_cases hlt3 : p < ms.length
                                · have i4 : (p : Int) < (ms.length : Int) := by omega
                                  obtain ⟨y, hy⟩ : ∃ y, ms[p]? = some y := ⟨_, List.getElem?_eq_getElem hlt3⟩
                                  have q2 := (IM8.out.below BP.out IM8.out.lt).cell p y hy
                                  have u1 : ∀ u : Ext wr, u.val.cell? ⟨gl, j, none⟩ = some (.int .i64 (z : Int)) := fun u => u.cell q1
                                  have u2 : ∀ u : Ext wr, u.val.cell? ⟨gm, p, none⟩ = some (.int .i64 y) := fun u => u.cell q2
                                  have HY := Lib.hid hy
                                  clear hy
                                  go_wp2
                                  refine wp_region_ext (by kernel_rfl) (by kernel_rfl) ?_
                                  repeat (go_big_quiet_step (fail))
                                  refine wpQuiet_nil ?_
                                  rintro _ ⟨u, rfl⟩
                                  have BPu := Lib.hid (BP.out.trans (u.below.mono BP.out.size))
                                  clear u1 u2 q1 q2
                                  generalize u.val = w9 at *
                                  by_cases hyz : y = (z : Int)
                                  · have hyz1 : (y == (z : Int)) = true := by rw [hyz]; simp
                                    go_wp2
                                    go_ret
                                    exact sound_zero (BWu.out.trans (BPu.out.mono BWu.out.size))
                                  · have hyz1 : (y == (z : Int)) = false := beq_eq_false_iff_ne.2 hyz
                                    have HQ2 : Hid (∀ q, q < p + 1 → ms[q]? ≠ some (z : Int)) := fun q hq e => by
                                      by_cases e2 : q = p
                                      · rw [e2, HY.out] at e
                                        exact hyz (Option.some.inj e)
                                      · exact HQ.out q (by omega) e
                                    go_wp2
                                    go_roundw
                                    case rel => exact ⟨p + 1, by omega, by go_num, HQ2, BPu⟩
                                    case measure => simp [intOf]; omega
                                · have hpe : p = ms.length := by omega
                                  have IMa := Lib.hid ((IM8.out.below BP.out IM8.out.lt).below ((Below.refl _ _).alloc (Nat.le_refl _) (.cells #[.int .i64 (z : Int)] 3)) (IM8.out.below BP.out IM8.out.lt).lt)
                                  have HC : Hid ((wr.alloc (.cells #[.int .i64 (z : Int)] 3)).cell? ⟨wr.heap.size, 0, none⟩ = some (.int .i64 (z : Int))) := (Blk.new wr _ _).cell 0 rfl
                                  have hmb : ms.length + 1 ≤ 1000000 := by have := HMM.out; omega
                                  have HU3 : Hid (UnJ xs (numsL xs m l) (ms ++ [(z : Int)]) (j + 1)) := HU2.out fun hm => by
                                    obtain ⟨q, hq⟩ := List.mem_iff_getElem?.1 hm
                                    exact HQ.out q (by rw [hpe]; exact (List.getElem?_eq_some_iff.1 hq).1) hq
                                  clear hpe
                                  go_wp2_with (at_builtin; refine wpList_ints_push _ rfl (.tmp 137) (.tmp 142) 71 rfl 3 i0 Try.underlying71 I0.out.1 I0.out.2.1 I0.out.2.2.1 I0.out.2.2.2 gm cm ms rfl IMa.out ⟨wr.heap.size, 0, none⟩ 1 (z : Int) rfl HC.out hmb ?_; intro g9 c9 w9 own hg9 hgr9)
                                  have hall : Below wr.heap.size wr (wr.alloc (.cells #[.int .i64 (z : Int)] 3)) := (Below.refl _ _).alloc (Nat.le_refl _) _
                                  have hsz8 : w2.heap.size ≤ (wr.alloc (.cells #[.int .i64 (z : Int)] 3)).heap.size := Nat.le_trans BB8.out.size (Nat.le_trans BP.out.size hall.size)
                                  have RA9 := Lib.hid (((RA8.out.below BP.out).below hall).push hg9 hgr9)
                                  have RL9 := Lib.hid (((RL8.out.below BP.out).below hall).push hg9 hgr9)
                                  have BB9 := Lib.hid (below_push ((BB8.out.trans (BP.out.mono BB8.out.size)).trans (hall.mono (Nat.le_trans BB8.out.size BP.out.size))) hgr9 hsz8 HBG.out)
                                  have HG9 : Hid (w2.heap.size ≤ g9) := by
                                    show _ ≤ _
                                    rcases hg9 with e | e
                                    · rw [e]; exact HBG.out
                                    · omega
                                  have IM9 := Lib.hid own
                                  have HM9 : Hid ((ms ++ [(z : Int)]).length ≤ 72 * k + (j + 1)) := by have := HMM.out; show _ ≤ _; rw [List.length_append]; show _ + 1 ≤ _; omega
                                  clear own hg9 hgr9 hall hsz8 IM8 RA8 RL8 BB8 BP HMM IMa HC
                                  go_wp2
                                  go_roundw
                                  case rel => exact ⟨j + 1, g9, c9, ms ++ [(z : Int)], by omega, by go_num, by rw [List.length_append]; rfl, HM9, IM9, HG9, RA9, RL9, HU3, BB9⟩
                                  case measure => simp [intOf]; omega
                    · have hje : j = L.length := by omega
                      have HM2 : Hid (ms.length ≤ 72 * (k + 1)) := by have := HMM.out; show _ ≤ _; omega
                      have HS2 : Hid (SndU xs m (ns.take (k + 1))) := by
                        show SndU _ _ _
                        rw [List.take_add_one, List.getElem?_eq_getElem hlt, HNK.out]
                        refine HSU.out.snoc ?_
                        rw [HLL.out]
                        exact HU.out.all (by rw [hje, HL.out, intL_len])
                      clear HU HMM
                      go_wp2
                      go_roundw
                      case rel => exact ⟨k + 1, gm, cm, ms, by omega, by go_num, rfl, HM2, IM, HBG, RA, HS2, BB⟩
                      case measure => simp [intOf]; omega
            | false =>
              have HNL : Hid (numsL xs m l = dirL l 6) := by show _ = _; unfold numsL; rw [H10.out, if_neg (by rw [hdb]; decide), List.append_nil]
              have hdd : ¬ (d ≤ l10 ∧ l10 < xs.length) := fun h => by
                have := datB_iff.2 (show dataN m ≤ l10 ∧ l10 < xs.length by rw [HD.out]; exact h)
                rw [hdb] at this; cases this
              have HLT := Lib.hid hj
              have ILf := Lib.hid IL.out
              replace HL : Hid (L = intL (numsL xs m l)) := by show _ = _; rw [HNL.out]; exact HL.out
              have dcs : ¬ (d : Int) ≤ (l10 : Int) ∨ ((d : Int) ≤ (l10 : Int) ∧ ¬ (l10 : Int) < (xs.length : Int)) := by omega
              clear hdb hdd HNL
              rcases dcs with d1 | ⟨d1, d2⟩
              · go_wp2
                clear k10 kd kb
                clear IL G6 HLT
                have HLN : Hid (L.length ≤ 72) := by show _ ≤ _; rw [HL.out, intL_len]; exact numsL_len _ _ _
                have hln := HLN.out
                have IM7 := Lib.hid (IM6.out.below BL.out HG6.out)
                have RA7 := Lib.hid (RA6.out.below BL.out)
                have RL7 := Lib.hid (RowOff.of_irow ILf.out (g := gm) (by have h1 := HGL.out; have h2 := HG6.out; omega))
                have BB7 := Lib.hid (BB6.out.trans (BL.out.mono BB6.out.size))
                have HU0 : Hid (UnJ xs (numsL xs m l) ms 0) := UnJ.zero
                have HM7 : Hid (ms.length ≤ 72 * k + 0) := HMM.out
                clear IM6 RA6 ILf BB6 HGL HG6 BL HMM
                generalize wr = w7 at *
                go_wp2
                go_loopw [5, 89] (fun met i wr => ∃ (j gm cm : Nat) (ms : List Int), j ≤ L.length ∧ i = .int .i64 (j : Int) ∧ met = .slice (some ⟨gm, 0, none⟩) ms.length cm ∧ Hid (ms.length ≤ 72 * k + j) ∧ Hid (IRow wr gm cm ms) ∧ Hid (w2.heap.size ≤ gm) ∧ Hid (RowOff wr gm (some ⟨ba, oa, none⟩) (numsC ns)) ∧ Hid (RowOff wr gm (some ⟨gl, 0, none⟩) (L.map (Value.int .i64))) ∧ Hid (UnJ xs (numsL xs m l) ms j) ∧ Hid (Below w2.heap.size w2 wr)) (fun _ i _ => L.length - (intOf i).toNat)
                case atStart => exact ⟨0, gm, cm, ms, Nat.zero_le _, rfl, rfl, HM7, IM7, HBG, RA7, RL7, HU0, BB7⟩
                case round =>
                  clear HM7 IM7 HBG RA7 RL7 HU0 BB7
                  obtain ⟨j, gm, cm, ms, hj, rfl, rfl, HMM, IM, HBG, RA, RL, HU, BB⟩ := hrel
                  by_cases hlt2 : j < L.length
                  · have i3 : (j : Int) < (L.length : Int) := by omega
                    obtain ⟨z, hz⟩ : ∃ z, (numsL xs m l)[j]? = some z := by
                      have : j < (numsL xs m l).length := by rw [HL.out, intL_len] at hlt2; exact hlt2
                      exact ⟨_, List.getElem?_eq_getElem this⟩
                    have HZ := Lib.hid hz
                    have hLj : (L.map (Value.int .i64))[j]? = some (.int .i64 (z : Int)) := by rw [HL.out, List.getElem?_map, intL_get hz]; rfl
                    have HLJ := Lib.hid hLj
                    have CLJ : Hid (∀ W, RowOff W gm (some ⟨gl, 0, none⟩) (L.map (Value.int .i64)) → W.cell? ⟨gl, j, none⟩ = some (.int .i64 (z : Int))) := fun W hW => by
                      obtain ⟨b, o, hA, hc⟩ := hW.at_ (by rw [List.length_map]; omega)
                      injection hA with hA
                      injection hA with h1 h2 _
                      have := hc j _ HLJ.out
                      rw [← h1, ← h2, Nat.zero_add] at this
                      exact this
                    have q1 := CLJ.out wr RL.out
                    clear hz hLj
                    by_cases hz0 : z = 0
                    · subst hz0
                      have HU2 : Hid (UnJ xs (numsL xs m l) ms (j + 1)) := HU.out.skip HZ.out
                      have HM2 : Hid (ms.length ≤ 72 * k + (j + 1)) := by have := HMM.out; show _ ≤ _; omega
                      clear HU HMM
                      go_wp2
                      go_roundw
                      case rel => exact ⟨j + 1, gm, cm, ms, by omega, by go_num, rfl, HM2, IM, HBG, RA, RL, HU2, BB⟩
                      case measure => simp [intOf]; omega
                    · have hz1 : ¬ ((z : Int) = 0) := by omega
                      have hz2 : ((z : Int) == 0) = false := beq_eq_false_iff_ne.2 (by omega)
                      have G9 := Lib.hid (g2.out.below BB.out (by have := S2.out; omega))
                      have u1 : ∀ u : Ext wr, u.val.cell? ⟨gl, j, none⟩ = some (.int .i64 (z : Int)) := fun u => u.cell q1
                      have u2 : ∀ u : Ext wr, u.val.cell? ⟨g0, 0, none⟩ = some (.int .i64 (xs.length : Int)) := fun u => u.cell (G9.out.cell 0 rfl)
                      have u3 : ∀ u : Ext wr, u.val.cell? ⟨g0, 5, none⟩ = some (.int .i64 (d : Int)) := fun u => u.cell (G9.out.cell 5 rfl)
                      have RVr := Lib.hid ((RV2.out.below BB.out).mono BB.out.size)
                      have QU : Hid (∀ u : Ext wr, Calls Try.prog 45 #[.slice A xs.length c, .int .i64 (z : Int)] u.val fun e w' => e = .returned (.bool (usedR xs (z : Int))) ∧ Below u.val.heap.size u.val w') := fun u => CU.out _ _ (RVr.out.ext u)
                      have BWr := Lib.hid (BW2.out.trans (BB.out.mono BW2.out.size))
                      clear G9 RVr
                      by_cases c1 : z < d
                      · have e1 : decide ((z : Int) < (d : Int)) = true := decide_eq_true (by omega)
                        have c1' : (z : Int) < (d : Int) := by omega
                        go_wp2
                        refine wp_region_ext (by kernel_rfl) (by kernel_rfl) ?_
                        repeat (go_big_quiet_step (first | (go_at_call 45; with_reducible exact Ext.call (QU.out _))))
                        refine wpQuiet_nil ?_
                        rintro _ ⟨u, rfl⟩
                        have BWu := Lib.hid (BWr.out.trans (u.below.mono BWr.out.size))
                        go_wp2
                        go_ret
                        exact sound_zero BWu.out
                      · have e1 : decide ((z : Int) < (d : Int)) = false := decide_eq_false (by omega)
                        have c1' : ¬ (z : Int) < (d : Int) := by omega
                        by_cases c2 : xs.length ≤ z
                        · have e2 : decide ((xs.length : Int) ≤ (z : Int)) = true := decide_eq_true (by omega)
                          have c2' : (xs.length : Int) ≤ (z : Int) := by omega
                          go_wp2
                          refine wp_region_ext (by kernel_rfl) (by kernel_rfl) ?_
                          repeat (go_big_quiet_step (first | (go_at_call 45; with_reducible exact Ext.call (QU.out _))))
                          refine wpQuiet_nil ?_
                          rintro _ ⟨u, rfl⟩
                          have BWu := Lib.hid (BWr.out.trans (u.below.mono BWr.out.size))
                          go_wp2
                          go_ret
                          exact sound_zero BWu.out
                        · have e2 : decide ((xs.length : Int) ≤ (z : Int)) = false := decide_eq_false (by omega)
                          have c2' : ¬ (xs.length : Int) ≤ (z : Int) := by omega
                          cases hus : usedR xs (z : Int) with
                          | false =>
                            rw [hus] at QU
                            go_wp2
                            refine wp_region_ext (by kernel_rfl) (by kernel_rfl) ?_
                            repeat (go_big_quiet_step (first | (go_at_call 45; with_reducible exact Ext.call (QU.out _))))
                            refine wpQuiet_nil ?_
                            rintro _ ⟨u, rfl⟩
                            have BWu := Lib.hid (BWr.out.trans (u.below.mono BWr.out.size))
                            go_wp2
                            go_ret
                            exact sound_zero BWu.out
                          | true =>
                            rw [hus] at QU
                            have HU2 := Lib.hid (fun hn => HU.out.push HZ.out hus hn)
                            clear hus HU
                            have hml : ms.length ≤ 10000 := by have := HMM.out; omega
                            go_wp2
                            refine wp_region_ext (by kernel_rfl) (by kernel_rfl) ?_
                            repeat (go_big_quiet_step (first | (go_at_call 45; with_reducible exact Ext.call (QU.out _))))
                            refine wpQuiet_nil ?_
                            rintro _ ⟨u, rfl⟩
                            have IM8 := Lib.hid (IM.out.below u.below IM.out.lt)
                            have RA8 := Lib.hid (RA.out.below u.below)
                            have RL8 := Lib.hid (RL.out.below u.below)
                            have BB8 := Lib.hid (BB.out.trans (u.below.mono BB.out.size))
                            have BWu := Lib.hid (BWr.out.trans (u.below.mono BWr.out.size))
                            clear u1 u2 u3 QU IM RA RL BB BWr q1
                            generalize u.val = w8 at *
                            go_wp2
                            go_loopw [124] (fun i wr => ∃ p : Nat, p ≤ ms.length ∧ i = .int .i64 (p : Int) ∧ Hid (∀ q, q < p → ms[q]? ≠ some (z : Int)) ∧ Hid (Below w8.heap.size w8 wr)) (fun i _ => ms.length - (intOf i).toNat)
                            case atStart => exact ⟨0, Nat.zero_le _, rfl, Lib.hid (fun q h => absurd h (Nat.not_lt_zero _)), Lib.hid (Below.refl _ _)⟩
                            case round =>
                              obtain ⟨p, hp, rfl, HQ, BP⟩ := hrel
                              have q1 := CLJ.out wr (RL8.out.below BP.out)
                              by_cases hlt3 : p < ms.length
                              · have i4 : (p : Int) < (ms.length : Int) := by omega
                                obtain ⟨y, hy⟩ : ∃ y, ms[p]? = some y := ⟨_, List.getElem?_eq_getElem hlt3⟩
                                have q2 := (IM8.out.below BP.out IM8.out.lt).cell p y hy
                                have u1 : ∀ u : Ext wr, u.val.cell? ⟨gl, j, none⟩ = some (.int .i64 (z : Int)) := fun u => u.cell q1
                                have u2 : ∀ u : Ext wr, u.val.cell? ⟨gm, p, none⟩ = some (.int .i64 y) := fun u => u.cell q2
                                have HY := Lib.hid hy
                                clear hy
                                go_wp2
                                refine wp_region_ext (by kernel_rfl) (by kernel_rfl) ?_
                                repeat (go_big_quiet_step (fail))
                                refine wpQuiet_nil ?_
                                rintro _ ⟨u, rfl⟩
                                have BPu := Lib.hid (BP.out.trans (u.below.mono BP.out.size))
                                clear u1 u2 q1 q2
                                generalize u.val = w9 at *
                                by_cases hyz : y = (z : Int)
                                · have hyz1 : (y == (z : Int)) = true := by rw [hyz]; simp
                                  go_wp2
                                  go_ret
                                  exact sound_zero (BWu.out.trans (BPu.out.mono BWu.out.size))
                                · have hyz1 : (y == (z : Int)) = false := beq_eq_false_iff_ne.2 hyz
                                  have HQ2 : Hid (∀ q, q < p + 1 → ms[q]? ≠ some (z : Int)) := fun q hq e => by
                                    by_cases e2 : q = p
                                    · rw [e2, HY.out] at e
                                      exact hyz (Option.some.inj e)
                                    · exact HQ.out q (by omega) e
                                  go_wp2
                                  go_roundw
                                  case rel => exact ⟨p + 1, by omega, by go_num, HQ2, BPu⟩
                                  case measure => simp [intOf]; omega
                              · have hpe : p = ms.length := by omega
                                have IMa := Lib.hid ((IM8.out.below BP.out IM8.out.lt).below ((Below.refl _ _).alloc (Nat.le_refl _) (.cells #[.int .i64 (z : Int)] 3)) (IM8.out.below BP.out IM8.out.lt).lt)
                                have HC : Hid ((wr.alloc (.cells #[.int .i64 (z : Int)] 3)).cell? ⟨wr.heap.size, 0, none⟩ = some (.int .i64 (z : Int))) := (Blk.new wr _ _).cell 0 rfl
                                have hmb : ms.length + 1 ≤ 1000000 := by have := HMM.out; omega
                                have HU3 : Hid (UnJ xs (numsL xs m l) (ms ++ [(z : Int)]) (j + 1)) := HU2.out fun hm => by
                                  obtain ⟨q, hq⟩ := List.mem_iff_getElem?.1 hm
                                  exact HQ.out q (by rw [hpe]; exact (List.getElem?_eq_some_iff.1 hq).1) hq
                                clear hpe
                                go_wp2_with (at_builtin; refine wpList_ints_push _ rfl (.tmp 137) (.tmp 142) 71 rfl 3 i0 Try.underlying71 I0.out.1 I0.out.2.1 I0.out.2.2.1 I0.out.2.2.2 gm cm ms rfl IMa.out ⟨wr.heap.size, 0, none⟩ 1 (z : Int) rfl HC.out hmb ?_; intro g9 c9 w9 own hg9 hgr9)
                                have hall : Below wr.heap.size wr (wr.alloc (.cells #[.int .i64 (z : Int)] 3)) := (Below.refl _ _).alloc (Nat.le_refl _) _
                                have hsz8 : w2.heap.size ≤ (wr.alloc (.cells #[.int .i64 (z : Int)] 3)).heap.size := Nat.le_trans BB8.out.size (Nat.le_trans BP.out.size hall.size)
                                have RA9 := Lib.hid (((RA8.out.below BP.out).below hall).push hg9 hgr9)
                                have RL9 := Lib.hid (((RL8.out.below BP.out).below hall).push hg9 hgr9)
                                have BB9 := Lib.hid (below_push ((BB8.out.trans (BP.out.mono BB8.out.size)).trans (hall.mono (Nat.le_trans BB8.out.size BP.out.size))) hgr9 hsz8 HBG.out)
                                have HG9 : Hid (w2.heap.size ≤ g9) := by
                                  show _ ≤ _
                                  rcases hg9 with e | e
                                  · rw [e]; exact HBG.out
                                  · omega
                                have IM9 := Lib.hid own
                                have HM9 : Hid ((ms ++ [(z : Int)]).length ≤ 72 * k + (j + 1)) := by have := HMM.out; show _ ≤ _; rw [List.length_append]; show _ + 1 ≤ _; omega
                                clear own hg9 hgr9 hall hsz8 IM8 RA8 RL8 BB8 BP HMM IMa HC
                                go_wp2
                                go_roundw
                                case rel => exact ⟨j + 1, g9, c9, ms ++ [(z : Int)], by omega, by go_num, by rw [List.length_append]; rfl, HM9, IM9, HG9, RA9, RL9, HU3, BB9⟩
                                case measure => simp [intOf]; omega
                  · have hje : j = L.length := by omega
                    have HM2 : Hid (ms.length ≤ 72 * (k + 1)) := by have := HMM.out; show _ ≤ _; omega
                    have HS2 : Hid (SndU xs m (ns.take (k + 1))) := by
                      show SndU _ _ _
                      rw [List.take_add_one, List.getElem?_eq_getElem hlt, HNK.out]
                      refine HSU.out.snoc ?_
                      rw [HLL.out]
                      exact HU.out.all (by rw [hje, HL.out, intL_len])
                    clear HU HMM
                    go_wp2
                    go_roundw
                    case rel => exact ⟨k + 1, gm, cm, ms, by omega, by go_num, rfl, HM2, IM, HBG, RA, HS2, BB⟩
                    case measure => simp [intOf]; omega
              · go_wp2
                clear k10 kd kb
                clear IL G6 HLT
                have HLN : Hid (L.length ≤ 72) := by show _ ≤ _; rw [HL.out, intL_len]; exact numsL_len _ _ _
                have hln := HLN.out
                have IM7 := Lib.hid (IM6.out.below BL.out HG6.out)
                have RA7 := Lib.hid (RA6.out.below BL.out)
                have RL7 := Lib.hid (RowOff.of_irow ILf.out (g := gm) (by have h1 := HGL.out; have h2 := HG6.out; omega))
                have BB7 := Lib.hid (BB6.out.trans (BL.out.mono BB6.out.size))
                have HU0 : Hid (UnJ xs (numsL xs m l) ms 0) := UnJ.zero
                have HM7 : Hid (ms.length ≤ 72 * k + 0) := HMM.out
                clear IM6 RA6 ILf BB6 HGL HG6 BL HMM
                generalize wr = w7 at *
                go_wp2
                go_loopw [5, 89] (fun met i wr => ∃ (j gm cm : Nat) (ms : List Int), j ≤ L.length ∧ i = .int .i64 (j : Int) ∧ met = .slice (some ⟨gm, 0, none⟩) ms.length cm ∧ Hid (ms.length ≤ 72 * k + j) ∧ Hid (IRow wr gm cm ms) ∧ Hid (w2.heap.size ≤ gm) ∧ Hid (RowOff wr gm (some ⟨ba, oa, none⟩) (numsC ns)) ∧ Hid (RowOff wr gm (some ⟨gl, 0, none⟩) (L.map (Value.int .i64))) ∧ Hid (UnJ xs (numsL xs m l) ms j) ∧ Hid (Below w2.heap.size w2 wr)) (fun _ i _ => L.length - (intOf i).toNat)
                case atStart => exact ⟨0, gm, cm, ms, Nat.zero_le _, rfl, rfl, HM7, IM7, HBG, RA7, RL7, HU0, BB7⟩
                case round =>
                  clear HM7 IM7 HBG RA7 RL7 HU0 BB7
                  obtain ⟨j, gm, cm, ms, hj, rfl, rfl, HMM, IM, HBG, RA, RL, HU, BB⟩ := hrel
                  by_cases hlt2 : j < L.length
                  · have i3 : (j : Int) < (L.length : Int) := by omega
                    obtain ⟨z, hz⟩ : ∃ z, (numsL xs m l)[j]? = some z := by
                      have : j < (numsL xs m l).length := by rw [HL.out, intL_len] at hlt2; exact hlt2
                      exact ⟨_, List.getElem?_eq_getElem this⟩
                    have HZ := Lib.hid hz
                    have hLj : (L.map (Value.int .i64))[j]? = some (.int .i64 (z : Int)) := by rw [HL.out, List.getElem?_map, intL_get hz]; rfl
                    have HLJ := Lib.hid hLj
                    have CLJ : Hid (∀ W, RowOff W gm (some ⟨gl, 0, none⟩) (L.map (Value.int .i64)) → W.cell? ⟨gl, j, none⟩ = some (.int .i64 (z : Int))) := fun W hW => by
                      obtain ⟨b, o, hA, hc⟩ := hW.at_ (by rw [List.length_map]; omega)
                      injection hA with hA
                      injection hA with h1 h2 _
                      have := hc j _ HLJ.out
                      rw [← h1, ← h2, Nat.zero_add] at this
                      exact this
                    have q1 := CLJ.out wr RL.out
                    clear hz hLj
                    by_cases hz0 : z = 0
                    · subst hz0
                      have HU2 : Hid (UnJ xs (numsL xs m l) ms (j + 1)) := HU.out.skip HZ.out
                      have HM2 : Hid (ms.length ≤ 72 * k + (j + 1)) := by have := HMM.out; show _ ≤ _; omega
                      clear HU HMM
                      go_wp2
                      go_roundw
                      case rel => exact ⟨j + 1, gm, cm, ms, by omega, by go_num, rfl, HM2, IM, HBG, RA, RL, HU2, BB⟩
                      case measure => simp [intOf]; omega
                    · have hz1 : ¬ ((z : Int) = 0) := by omega
                      have hz2 : ((z : Int) == 0) = false := beq_eq_false_iff_ne.2 (by omega)
                      have G9 := Lib.hid (g2.out.below BB.out (by have := S2.out; omega))
                      have u1 : ∀ u : Ext wr, u.val.cell? ⟨gl, j, none⟩ = some (.int .i64 (z : Int)) := fun u => u.cell q1
                      have u2 : ∀ u : Ext wr, u.val.cell? ⟨g0, 0, none⟩ = some (.int .i64 (xs.length : Int)) := fun u => u.cell (G9.out.cell 0 rfl)
                      have u3 : ∀ u : Ext wr, u.val.cell? ⟨g0, 5, none⟩ = some (.int .i64 (d : Int)) := fun u => u.cell (G9.out.cell 5 rfl)
                      have RVr := Lib.hid ((RV2.out.below BB.out).mono BB.out.size)
                      have QU : Hid (∀ u : Ext wr, Calls Try.prog 45 #[.slice A xs.length c, .int .i64 (z : Int)] u.val fun e w' => e = .returned (.bool (usedR xs (z : Int))) ∧ Below u.val.heap.size u.val w') := fun u => CU.out _ _ (RVr.out.ext u)
                      have BWr := Lib.hid (BW2.out.trans (BB.out.mono BW2.out.size))
                      clear G9 RVr
                      by_cases c1 : z < d
                      · have e1 : decide ((z : Int) < (d : Int)) = true := decide_eq_true (by omega)
                        have c1' : (z : Int) < (d : Int) := by omega
                        go_wp2
                        refine wp_region_ext (by kernel_rfl) (by kernel_rfl) ?_
                        repeat (go_big_quiet_step (first | (go_at_call 45; with_reducible exact Ext.call (QU.out _))))
                        refine wpQuiet_nil ?_
                        rintro _ ⟨u, rfl⟩
                        have BWu := Lib.hid (BWr.out.trans (u.below.mono BWr.out.size))
                        go_wp2
                        go_ret
                        exact sound_zero BWu.out
                      · have e1 : decide ((z : Int) < (d : Int)) = false := decide_eq_false (by omega)
                        have c1' : ¬ (z : Int) < (d : Int) := by omega
                        by_cases c2 : xs.length ≤ z
                        · have e2 : decide ((xs.length : Int) ≤ (z : Int)) = true := decide_eq_true (by omega)
                          have c2' : (xs.length : Int) ≤ (z : Int) := by omega
                          go_wp2
                          refine wp_region_ext (by kernel_rfl) (by kernel_rfl) ?_
                          repeat (go_big_quiet_step (first | (go_at_call 45; with_reducible exact Ext.call (QU.out _))))
                          refine wpQuiet_nil ?_
                          rintro _ ⟨u, rfl⟩
                          have BWu := Lib.hid (BWr.out.trans (u.below.mono BWr.out.size))
                          go_wp2
                          go_ret
                          exact sound_zero BWu.out
                        · have e2 : decide ((xs.length : Int) ≤ (z : Int)) = false := decide_eq_false (by omega)
                          have c2' : ¬ (xs.length : Int) ≤ (z : Int) := by omega
                          cases hus : usedR xs (z : Int) with
                          | false =>
                            rw [hus] at QU
                            go_wp2
                            refine wp_region_ext (by kernel_rfl) (by kernel_rfl) ?_
                            repeat (go_big_quiet_step (first | (go_at_call 45; with_reducible exact Ext.call (QU.out _))))
                            refine wpQuiet_nil ?_
                            rintro _ ⟨u, rfl⟩
                            have BWu := Lib.hid (BWr.out.trans (u.below.mono BWr.out.size))
                            go_wp2
                            go_ret
                            exact sound_zero BWu.out
                          | true =>
                            rw [hus] at QU
                            have HU2 := Lib.hid (fun hn => HU.out.push HZ.out hus hn)
                            clear hus HU
                            have hml : ms.length ≤ 10000 := by have := HMM.out; omega
                            go_wp2
                            refine wp_region_ext (by kernel_rfl) (by kernel_rfl) ?_
                            repeat (go_big_quiet_step (first | (go_at_call 45; with_reducible exact Ext.call (QU.out _))))
                            refine wpQuiet_nil ?_
                            rintro _ ⟨u, rfl⟩
                            have IM8 := Lib.hid (IM.out.below u.below IM.out.lt)
                            have RA8 := Lib.hid (RA.out.below u.below)
                            have RL8 := Lib.hid (RL.out.below u.below)
                            have BB8 := Lib.hid (BB.out.trans (u.below.mono BB.out.size))
                            have BWu := Lib.hid (BWr.out.trans (u.below.mono BWr.out.size))
                            clear u1 u2 u3 QU IM RA RL BB BWr q1
                            generalize u.val = w8 at *
                            go_wp2
                            go_loopw [124] (fun i wr => ∃ p : Nat, p ≤ ms.length ∧ i = .int .i64 (p : Int) ∧ Hid (∀ q, q < p → ms[q]? ≠ some (z : Int)) ∧ Hid (Below w8.heap.size w8 wr)) (fun i _ => ms.length - (intOf i).toNat)
                            case atStart => exact ⟨0, Nat.zero_le _, rfl, Lib.hid (fun q h => absurd h (Nat.not_lt_zero _)), Lib.hid (Below.refl _ _)⟩
                            case round =>
                              obtain ⟨p, hp, rfl, HQ, BP⟩ := hrel
                              have q1 := CLJ.out wr (RL8.out.below BP.out)
                              by_cases hlt3 : p < ms.length
                              · have i4 : (p : Int) < (ms.length : Int) := by omega
                                obtain ⟨y, hy⟩ : ∃ y, ms[p]? = some y := ⟨_, List.getElem?_eq_getElem hlt3⟩
                                have q2 := (IM8.out.below BP.out IM8.out.lt).cell p y hy
                                have u1 : ∀ u : Ext wr, u.val.cell? ⟨gl, j, none⟩ = some (.int .i64 (z : Int)) := fun u => u.cell q1
                                have u2 : ∀ u : Ext wr, u.val.cell? ⟨gm, p, none⟩ = some (.int .i64 y) := fun u => u.cell q2
                                have HY := Lib.hid hy
                                clear hy
                                go_wp2
                                refine wp_region_ext (by kernel_rfl) (by kernel_rfl) ?_
                                repeat (go_big_quiet_step (fail))
                                refine wpQuiet_nil ?_
                                rintro _ ⟨u, rfl⟩
                                have BPu := Lib.hid (BP.out.trans (u.below.mono BP.out.size))
                                clear u1 u2 q1 q2
                                generalize u.val = w9 at *
                                by_cases hyz : y = (z : Int)
                                · have hyz1 : (y == (z : Int)) = true := by rw [hyz]; simp
                                  go_wp2
                                  go_ret
                                  exact sound_zero (BWu.out.trans (BPu.out.mono BWu.out.size))
                                · have hyz1 : (y == (z : Int)) = false := beq_eq_false_iff_ne.2 hyz
                                  have HQ2 : Hid (∀ q, q < p + 1 → ms[q]? ≠ some (z : Int)) := fun q hq e => by
                                    by_cases e2 : q = p
                                    · rw [e2, HY.out] at e
                                      exact hyz (Option.some.inj e)
                                    · exact HQ.out q (by omega) e
                                  go_wp2
                                  go_roundw
                                  case rel => exact ⟨p + 1, by omega, by go_num, HQ2, BPu⟩
                                  case measure => simp [intOf]; omega
                              · have hpe : p = ms.length := by omega
                                have IMa := Lib.hid ((IM8.out.below BP.out IM8.out.lt).below ((Below.refl _ _).alloc (Nat.le_refl _) (.cells #[.int .i64 (z : Int)] 3)) (IM8.out.below BP.out IM8.out.lt).lt)
                                have HC : Hid ((wr.alloc (.cells #[.int .i64 (z : Int)] 3)).cell? ⟨wr.heap.size, 0, none⟩ = some (.int .i64 (z : Int))) := (Blk.new wr _ _).cell 0 rfl
                                have hmb : ms.length + 1 ≤ 1000000 := by have := HMM.out; omega
                                have HU3 : Hid (UnJ xs (numsL xs m l) (ms ++ [(z : Int)]) (j + 1)) := HU2.out fun hm => by
                                  obtain ⟨q, hq⟩ := List.mem_iff_getElem?.1 hm
                                  exact HQ.out q (by rw [hpe]; exact (List.getElem?_eq_some_iff.1 hq).1) hq
                                clear hpe
                                go_wp2_with (at_builtin; refine wpList_ints_push _ rfl (.tmp 137) (.tmp 142) 71 rfl 3 i0 Try.underlying71 I0.out.1 I0.out.2.1 I0.out.2.2.1 I0.out.2.2.2 gm cm ms rfl IMa.out ⟨wr.heap.size, 0, none⟩ 1 (z : Int) rfl HC.out hmb ?_; intro g9 c9 w9 own hg9 hgr9)
                                have hall : Below wr.heap.size wr (wr.alloc (.cells #[.int .i64 (z : Int)] 3)) := (Below.refl _ _).alloc (Nat.le_refl _) _
                                have hsz8 : w2.heap.size ≤ (wr.alloc (.cells #[.int .i64 (z : Int)] 3)).heap.size := Nat.le_trans BB8.out.size (Nat.le_trans BP.out.size hall.size)
                                have RA9 := Lib.hid (((RA8.out.below BP.out).below hall).push hg9 hgr9)
                                have RL9 := Lib.hid (((RL8.out.below BP.out).below hall).push hg9 hgr9)
                                have BB9 := Lib.hid (below_push ((BB8.out.trans (BP.out.mono BB8.out.size)).trans (hall.mono (Nat.le_trans BB8.out.size BP.out.size))) hgr9 hsz8 HBG.out)
                                have HG9 : Hid (w2.heap.size ≤ g9) := by
                                  show _ ≤ _
                                  rcases hg9 with e | e
                                  · rw [e]; exact HBG.out
                                  · omega
                                have IM9 := Lib.hid own
                                have HM9 : Hid ((ms ++ [(z : Int)]).length ≤ 72 * k + (j + 1)) := by have := HMM.out; show _ ≤ _; rw [List.length_append]; show _ + 1 ≤ _; omega
                                clear own hg9 hgr9 hall hsz8 IM8 RA8 RL8 BB8 BP HMM IMa HC
                                go_wp2
                                go_roundw
                                case rel => exact ⟨j + 1, g9, c9, ms ++ [(z : Int)], by omega, by go_num, by rw [List.length_append]; rfl, HM9, IM9, HG9, RA9, RL9, HU3, BB9⟩
                                case measure => simp [intOf]; omega
                  · have hje : j = L.length := by omega
                    have HM2 : Hid (ms.length ≤ 72 * (k + 1)) := by have := HMM.out; show _ ≤ _; omega
                    have HS2 : Hid (SndU xs m (ns.take (k + 1))) := by
                      show SndU _ _ _
                      rw [List.take_add_one, List.getElem?_eq_getElem hlt, HNK.out]
                      refine HSU.out.snoc ?_
                      rw [HLL.out]
                      exact HU.out.all (by rw [hje, HL.out, intL_len])
                    clear HU HMM
                    go_wp2
                    go_roundw
                    case rel => exact ⟨k + 1, gm, cm, ms, by omega, by go_num, rfl, HM2, IM, HBG, RA, HS2, BB⟩
                    case measure => simp [intOf]; omega
      · have hke : k = ns.length := by omega
        have HSF : Hid (SndU xs m ns) := by
          have := HSU.out
          rwa [hke, List.take_length] at this
        go_wp2
        go_ret
        exact ⟨⟨1, rfl, fun _ => ⟨m, HV.out, by rw [HNS.out]; exact HSF.out⟩⟩, BW2.out.trans (BB.out.mono BW2.out.size)⟩
end Go.Proofs.Ytoanladhikdcaaa

namespace Go.Proofs.Ytoanladhikdcaaa
set_option linter.unusedVariables false
set_option linter.unusedSimpArgs false
set_option maxRecDepth 100000
theorem writeO_le {xs : List ByteArray} (hx : xs.length ≤ 1000000) (n off : Int) (d : List UInt8) : (writeO xs n off d).1.length ≤ 1000000 := by
  by_cases h0 : inoE xs n = 0
  · obtain ⟨m, nn, hv, rfl, h1, h2, _⟩ := inoE_ok h0
    unfold writeO
    rw [h0, if_neg (by simp)]
    by_cases hneg : off < 0
    · rw [if_pos hneg]; simp
    · rw [if_neg hneg]
      by_cases hbig : 8960 < off ∨ 8960 < off + (d.length : Int)
      · rw [if_pos hbig]; simp
      · rw [if_neg hbig, mO_vol hv]
        cases hw : wriG noK xs m (getR xs (nn : Int)) off.toNat d with
        | none => simp
        | some r =>
          have := wriG_ok (noK_ok m) (⟨hv, rfl, getR_fit hv h1 h2⟩ : OkS xs.length m (xs, getR xs (nn : Int))) (by omega) hw
          dsimp only
          rw [putV_length, this.len]; exact hx
  · unfold writeO
    rw [if_pos h0]; simp
theorem cutO_le {xs : List ByteArray} (hx : xs.length ≤ 1000000) (n size : Int) : (cutO xs n size).1.length ≤ 1000000 := by
  by_cases h0 : inoE xs n = 0
  · obtain ⟨m, nn, hv, rfl, h1, h2, _⟩ := inoE_ok h0
    unfold cutO
    rw [h0, if_neg (by simp)]
    by_cases hneg : size < 0
    · rw [if_pos hneg]; simp
    · rw [if_neg hneg]
      by_cases hbig : 8960 < size
      · rw [if_pos hbig]; simp
      · rw [if_neg hbig, mO_vol hv]
        have := cutG_ok (noK_ok m) (⟨hv, rfl, getR_fit hv h1 h2⟩ : OkS xs.length m (xs, getR xs (nn : Int))) (size := size.toNat) (by omega)
        dsimp only
        rw [putV_length, this.len]; exact hx
  · unfold cutO
    rw [if_pos h0]; simp
end Go.Proofs.Ytoanladhikdcaaa

namespace Go.Proofs.Ytoanladhikdcaaa
open Go.RowKit
set_option linter.unusedVariables false
set_option linter.unusedSimpArgs false
set_option maxRecDepth 100000
theorem exec_appE {P : Program} {w w' : World} {o : Oper} {ev : Operand → Value} {v v' : Value} {ad : Addr} {m c : Nat} (s x : Operand) (t : TypeId) (ho : o.op = .call { callee := .builtin .append, args := #[s, x], argTypes := #[t, t] }) (hs : ev s = v) (hx : ev x = .slice (some ad) m c)
    (hrun : (Builtin.append_ #[t, t] o.type #[v, .slice (some ad) m c]).run P w = .ok v' w') : (execOp ev o).run P w = .ok (.value v') w' := by
  simp [execOp, ho, resolve, invoke, builtin, hs, hx, hrun, Result.andThen]
theorem del_row {w : World} {base k : Nat} {v : Value} {l L2 : List EntV} (h : w.ownsRow base 35 2 v (0 + k + (l.length - (k + 1))) ([] ++ entC (l.take k) ++ entC (l.drop (k + 1)))) (hk : k < l.length)
    (he : entC (l.take k) ++ entC (l.drop (k + 1)) = entC L2) : w.ownsRow base 35 2 v (l.length - 1) (entC L2) := by
  rw [List.nil_append, he, show 0 + k + (l.length - (k + 1)) = l.length - 1 by omega] at h
  exact h
theorem bt_nil {b : ByteArray} (h : b.size = 32 * 0) : b.toList = [] := by
  rw [str_data]
  exact List.eq_nil_of_length_eq_zero (by rw [Array.length_toList]; exact h)
theorem bt_some {b : ByteArray} (h : b.size ≠ 0) : ¬ b.toList = [] := by
  rw [str_data]
  intro e
  have := congrArg List.length e
  rw [Array.length_toList] at this
  exact h this
theorem drop_plain {xs : List ByteArray} {n : Int} {nm : ByteArray} {l : List EntV} (hm : mayB nm.data.toList = true) (hl : listO xs n = (l, 0)) (hh : hasE l nm = true) :
    dropO xs n nm = if outE l nm = [] then cutO xs n 0 else if (writeO xs n 0 (bytesE (outE l nm))).2 ≠ 0 then ([], (writeO xs n 0 (bytesE (outE l nm))).2) else cutO (writeO xs n 0 (bytesE (outE l nm))).1 n ((32 * (outE l nm).length : Nat) : Int) := by
  unfold dropO
  rw [if_neg (by rw [hm]; simp), hl]
  dsimp only
  rw [if_neg (by simp), if_neg (by rw [hh]; simp)]
set_option maxHeartbeats 8000000 in
theorem drop_main (A : Option Addr) (c : Nat) (xs : List ByteArray) (n : Int) (nm : ByteArray) (w : World) (hx : xs.length ≤ 1000000) (hs : nm.size ≤ 140737488355328) (h : RowAt w w.heap.size A (xs.map .string))
    (l : List EntV) (hm : mayB nm.data.toList = true) (hl : listO xs n = (l, 0)) (hh : hasE l nm = true) :
    Calls Try.prog 25 #[.slice A xs.length c, .int .i64 n, .string nm] w (RowCode (dropO xs n nm).1 (dropO xs n nm).2 w) := by
  have CM := Lib.hid (may_any nm w hs)
  have CL := Lib.hid (fun w h => list_any A c xs n w hx h)
  have HR := Lib.hid h
  have hv := listO_valid (xs := xs) (n := n)
  have hn := listO_len (xs := xs) (n := n)
  rw [hl] at CL hv hn
  dsimp only at hv hn
  have HV := Lib.hid hv
  have HN := Lib.hid hn
  obtain ⟨r, hr⟩ : ∃ r, dropO xs n nm = r := ⟨_, rfl⟩
  rw [hr]
  rw [drop_plain hm hl hh] at hr
  rw [hm] at CM
  unfold ListPost at CL
  dsimp only at CL
  have CS := Lib.hid (fun A c w h => search_any A c l nm w hn HV.out.rise h)
  rw [hh] at CS
  obtain ⟨hk, hnk⟩ := (at_has HV.out.rise).1 hh
  have ho := at_out HV.out.rise hk hnk
  have HVO := Lib.hid (outE_valid HV.out nm)
  have hlen : (outE l nm).length = l.length - 1 := by rw [ho, List.length_append, List.length_take, List.length_drop]; omega
  have hb := bytesE_len HVO.out.ok
  rw [hlen] at hb
  have CB := Lib.hid (fun A c w h => bytes_any A c (outE l nm) w (by rw [hlen]; omega) (fun x hx => by have := okE_ok (HVO.out.ok x hx); omega) h)
  have CW := Lib.hid (fun w h => write_any A c xs n 0 ⟨(bytesE (outE l nm)).toArray⟩ w hx (by omega) (by show (bytesE (outE l nm)).toArray.size ≤ _; rw [List.size_toArray, hb]; omega) h)
  rw [hlen] at CB
  dsimp only at CW
  have HIE : Hid (entC (l.take (atE l nm)) ++ entC (l.drop (atE l nm + 1)) = entC (outE l nm)) := by
    show _ = _
    rw [ho, entC_app]
  have HLO := Lib.hid hlen
  have HBT : Hid ((⟨(bytesE (outE l nm)).toArray⟩ : ByteArray).size = 32 * (l.length - 1)) := by show (bytesE (outE l nm)).toArray.size = _; rw [List.size_toArray, hb]
  have hbt := HBT.out
  have HR0 : Hid (l.length - 1 = 0 → r = cutO xs n (((⟨(bytesE (outE l nm)).toArray⟩ : ByteArray).size : Nat) : Int)) := fun e => by
    rw [← hr, if_pos (List.eq_nil_of_length_eq_zero (hlen.trans e)), hbt, e]; rfl
  have HR1 : Hid (l.length - 1 ≠ 0 → r = if (writeO xs n 0 (bytesE (outE l nm))).2 ≠ 0 then ([], (writeO xs n 0 (bytesE (outE l nm))).2) else cutO (writeO xs n 0 (bytesE (outE l nm))).1 n (((⟨(bytesE (outE l nm)).toArray⟩ : ByteArray).size : Nat) : Int)) := fun e => by
    rw [← hr, if_neg (fun h => e (by rw [← hlen, h]; rfl)), hbt, hlen]
  have hle := writeO_le hx n 0 (bytesE (outE l nm))
  have CC := Lib.hid (fun A c xs w hx h => cut_any A c xs n (((⟨(bytesE (outE l nm)).toArray⟩ : ByteArray).size : Nat) : Int) w hx h)
  generalize writeO xs n 0 (bytesE (outE l nm)) = wo at *
  generalize outE l nm = L2 at *
  generalize (⟨(bytesE L2).toArray⟩ : ByteArray) = bt at *
  generalize atE l nm = k at *
  obtain ⟨i0, q1, q2, q3, q4⟩ := info_parts ent_info
  have I0 := Lib.hid (And.intro q1 (And.intro q2 (And.intro q3 q4)))
  obtain ⟨ys, ye⟩ := wo
  dsimp only at CW HR1 hle
  unfold RowCode at CW
  have HLE := Lib.hid hle
  clear q1 q2 q3 q4 h hm hh hlen hb HVO hv hl ho hnk hr hle hbt
  go_enter Try.func25, Try.ntmps25
  go_wp2_with fail
  refine CM.out.mono ?_
  rintro e w1 ⟨rfl, hb1⟩
  have B1 := Lib.hid hb1
  clear hb1 CM
  go_wp2_with fail
  refine (CL.out _ ((HR.out.below B1.out).mono B1.out.size)).mono ?_
  rintro e w2 ⟨⟨v, rfl, hv⟩, hb2⟩
  have B2 := Lib.hid (B1.out.trans (hb2.mono B1.out.size))
  obtain ⟨A2, c2, hA2, hr2⟩ := OwnEnts.read2 hv
  have HF := Lib.hid (hA2 ▸ hv.form)
  have R2 := Lib.hid hr2
  subst hA2
  clear hb2 hv hr2 CL
  go_wp2_with fail
  refine (CS.out _ _ _ R2.out).mono ?_
  rintro e w3 ⟨rfl, hb3⟩
  have B3 := Lib.hid (B2.out.trans (hb3.mono B2.out.size))
  have G0 := Lib.hid (Below.refl w3.heap.size w3)
  obtain ⟨g, cc, hvv, hc1, hc2, hg1, hg2, hcells⟩ : ∃ g c', Value.slice A2 l.length c2 = .slice (some ⟨g, 0, none⟩) l.length c' ∧ l.length ≤ c' ∧ c' ≤ maxLen ∧ w1.heap.size ≤ g ∧ g < w2.heap.size ∧ ∀ j u, (entC l)[j]? = some u → w2.cell? ⟨g, j, none⟩ = some u := by
    rcases HF.out with ⟨_, h⟩ | h
    · rw [h] at hk; exact absurd hk (Nat.not_lt_zero _)
    · exact h
  injection hvv with e1 e2 e3
  subst e1
  subst e3
  have HC3 : Hid (∀ j u, (entC l)[j]? = some u → w3.cell? ⟨g, j, none⟩ = some u) := fun j u hu => (hb3.cell (p := ⟨g, j, none⟩) hg2).trans (hcells j u hu)
  have HG3 : Hid (g < w3.heap.size) := Nat.lt_of_lt_of_le hg2 hb3.size
  have k1 : (k : Int) ≤ (c2 : Int) := by omega
  have k2 : (0 : Int) ≤ (k : Int) := by omega
  have k3 : IntKind.i64.wrap ((k : Int) + 1) = ((k + 1 : Nat) : Int) := by rw [show (k : Int) + 1 = ((k + 1 : Nat) : Int) by omega]; exact IntWalk.i64_in _ (by unfold maxLen at hc2; omega)
  have k4 : ((k + 1 : Nat) : Int) ≤ (l.length : Int) := by omega
  have k5 : (0 : Int) ≤ ((k + 1 : Nat) : Int) := by omega
  have hT : ∀ w', Below w3.heap.size w3 w' → ∀ j u, (entC (l.take k))[j]? = some u → w'.cell? ((⟨g, 0, none⟩ : Addr).add j) = some u := fun w' hb j u hu => by
    rw [add_zero_addr, Nat.zero_add]
    refine (hb.cell (p := ⟨g, j, none⟩) HG3.out).trans (HC3.out j u ?_)
    rw [← entC_take, List.getElem?_take] at hu
    split at hu
    · exact hu
    · cases hu
  have HT := Lib.hid hT
  have HC1 := Lib.hid hc1
  clear hb3 CS R2 HF hcells e2 hT hc1
  by_cases hkc : k + 1 = c2
  · subst hkc
    by_cases hone : l.length - 1 = 0
    · have HRR := Lib.hid (HR0.out hone)
      have b1 : bt.toList = [] := bt_nil (by rw [HBT.out, hone])
      have b2 : (bt.toList == []) = true := by rw [b1]; rfl
      have b3 : bt.toList.isEmpty = true := by rw [b1]; rfl
      have HONE := Lib.hid hone
      clear hone
      go_wp2_with fail
      apply wp_region_free (a2 := { tmps := #[Value.slice A xs.length c, Value.int .i64 n, Value.string nm, undef, undef, undef, Value.slice none 0 0, Value.int .i64 0, Value.slice (some ⟨g, 0, none⟩) l.length (k + 1), Value.int .i64 0, Value.int .i64 (k : Int), Value.bool true, undef, Value.string nm, Value.bool true, Value.bool false, Value.tuple #[Value.slice (some ⟨g, 0, none⟩) l.length (k + 1), Value.int .i64 0], Value.slice A xs.length c, Value.int .i64 n, Value.tuple #[Value.slice (some ⟨g, 0, none⟩) l.length (k + 1), Value.int .i64 0], Value.slice (some ⟨g, 0, none⟩) l.length (k + 1), Value.int .i64 0, Value.int .i64 0, Value.bool false, undef, Value.tuple #[Value.int .i64 (k : Int), Value.bool true], Value.slice (some ⟨g, 0, none⟩) l.length (k + 1), Value.string nm, Value.tuple #[Value.int .i64 (k : Int), Value.bool true], Value.int .i64 (k : Int), Value.bool true, Value.bool true, Value.bool false, Value.slice (some ⟨g, 0, none⟩) l.length (k + 1), Value.int .i64 (k : Int), Value.slice (some ⟨g, 0, none⟩) k (k + 1), undef, Value.slice (some ⟨g, 0, none⟩) l.length (k + 1), Value.int .i64 (k : Int), Value.int .i64 ((k : Int) + 1), Value.slice (some ⟨g, 0, none⟩) (l.length - (k + 1)) 0, undef, undef, undef, undef, undef, undef, undef, undef, undef, undef, undef, undef, undef, undef, undef, undef, undef, undef, undef, undef, undef], defers := [] }) 3 0 4 36 _ (fun X w' => w'.ownsRow w3.heap.size 35 2 X (0 + k) ([] ++ entC (l.take k))) (by kernel_rfl) (by kernel_rfl) rfl
      case hΦ => exact fun X u u' h hu => own_below h hu
      case W1 =>
        intro wb hwb
        unfold ExtC
        simp only [List.take_succ_cons, List.take_zero, List.drop_succ_cons, List.drop_zero]
        repeat (go_big_quiet_step (fail))
        exact wpQuiet_nil rfl
      case MK =>
        intro wb hwb
        obtain ⟨v', w', hrun, own, hg, _⟩ := run_append_own (P := Try.prog) (w := wb) w3.heap.size 31 _ 35 i0 (.agg #[.string ⟨#[]⟩, .int .i64 0]) 2 24 Try.underlying31 I0.out.1 I0.out.2.1 I0.out.2.2.1 I0.out.2.2.2 rfl (by decide) (.slice none 0 0) 0 [] (World.ownsRow_nil _ _ _ _) ⟨g, 0, none⟩ k (k + 1) (entC (l.take k)) (by rw [entC_len, List.length_take]; omega) (HT.out wb hwb) (entC_one _) (by unfold maxLen; omega) (by omega) hwb.size
        exact ⟨v', w', exec_appE (.const (.slice none 0 0)) (.tmp 35) 31 rfl rfl rfl hrun, own, (Below.refl _ _).grown hg (Nat.le_refl _) (fun j e => by cases e)⟩
      case UM =>
        intro X wb hwb hX
        exact wpQuiet_nil rfl
      case W2 =>
        intro X wb hwb
        unfold ExtC
        simp only [List.take_succ_cons, List.take_zero, List.drop_succ_cons, List.drop_zero]
        go_frame
        repeat (go_big_quiet_step (fail))
        exact wpQuiet_nil rfl
      intro v4 w4 hb4 own4
      have O4 : Hid (w4.ownsRow w3.heap.size 35 2 v4 (0 + k) ([] ++ entC (l.take k))) := own4
      have G4 : Hid (Below w3.heap.size w3 w4) := hb4
      have HC4 : Hid (∀ j u, (entC (l.drop (k + 1)))[j]? = some u → w4.cell? ((⟨g, 0, none⟩ : Addr).add j) = some u) := fun j u hu => row_past (w := w4) (g := g) (k := k + 1) HC1.out hu
      simp only [List.take_succ_cons, List.take_zero, List.drop_succ_cons, List.drop_zero]
      clear hb4 own4
      go_wp2_with (first
        | (at_builtin; refine wpList_append_own _ rfl (.tmp 36) (.tmp 40) 31 rfl w3.heap.size 35 i0 (.agg #[.string ⟨#[]⟩, .int .i64 0]) 2 24 Try.underlying31 I0.out.1 I0.out.2.1 I0.out.2.2.1 I0.out.2.2.2 rfl (by decide) _ (0 + k) ([] ++ entC (l.take k)) rfl O4.out ⟨g, 0, none⟩ (l.length - (k + 1)) 0 (entC (l.drop (k + 1))) rfl (by rw [entC_len, List.length_drop]) HC4.out (entC_one _) (by unfold maxLen; omega) (by omega) G4.out.size ?_; intro v8 w8 own hg hv8; have O8 := Lib.hid own; have G8 := Lib.hid (G4.out.grown hg G4.out.size (fun j e => (O4.out.lt j e).1)); have O9 : Hid (w8.ownsRow w3.heap.size 35 2 v8 (l.length - 1) (entC L2)) := del_row O8.out hk HIE.out; obtain ⟨A8, c8, hv8, hr8⟩ := own_ents O9.out HLO.out; subst hv8; have R8 := Lib.hid hr8; clear own hg O4 G4 HC4 O8 hr8)
        | (go_at_call 31; refine (CB.out _ _ _ R8.out).mono ?_; rintro e w9 ⟨rfl, hb9⟩; have B9 := Lib.hid (B3.out.trans ((G8.out.trans (hb9.mono G8.out.size)).mono B3.out.size)); clear hb9)
        | (go_at_call 30; refine (CW.out _ ((HR.out.below B9.out).mono B9.out.size)).mono ?_; rintro e w10 ⟨⟨v10, rfl, hv10⟩, hb10⟩; obtain ⟨A10, c10, rfl, hr10⟩ := hv10.read; have R10 := Lib.hid hr10; have B10 := Lib.hid (B9.out.trans (hb10.mono B9.out.size)); clear hv10 hb10 hr10)
        | (go_at_call 46; refine (CC.out A c xs _ hx ((HR.out.below B9.out).mono B9.out.size)).mono ?_; rintro e w11 ⟨⟨v11, rfl, hv11⟩, hb11⟩; have B11 := Lib.hid (B9.out.trans (hb11.mono B9.out.size)); have O11 := Lib.hid (own_low hv11 B9.out.size); clear hv11 hb11))
      go_ret2
      rw [HRR.out]
      exact ⟨⟨_, rfl, O11.out⟩, B11.out⟩
    · have HR2 := Lib.hid (HR1.out hone)
      have b1 : ¬ bt.toList = [] := bt_some (by rw [HBT.out]; omega)
      have b2 : (bt.toList == []) = false := by simpa using b1
      have b3 : bt.toList.isEmpty = false := by simpa using b1
      have HONE := Lib.hid hone
      clear hone
      by_cases hye : ye = 0
      · subst hye
        have HRR : Hid (r = cutO ys n ((bt.size : Nat) : Int)) := by show _ = _; rw [HR2.out, if_neg (by simp)]
        go_wp2_with fail
        apply wp_region_free (a2 := { tmps := #[Value.slice A xs.length c, Value.int .i64 n, Value.string nm, undef, undef, undef, Value.slice none 0 0, Value.int .i64 0, Value.slice (some ⟨g, 0, none⟩) l.length (k + 1), Value.int .i64 0, Value.int .i64 (k : Int), Value.bool true, undef, Value.string nm, Value.bool true, Value.bool false, Value.tuple #[Value.slice (some ⟨g, 0, none⟩) l.length (k + 1), Value.int .i64 0], Value.slice A xs.length c, Value.int .i64 n, Value.tuple #[Value.slice (some ⟨g, 0, none⟩) l.length (k + 1), Value.int .i64 0], Value.slice (some ⟨g, 0, none⟩) l.length (k + 1), Value.int .i64 0, Value.int .i64 0, Value.bool false, undef, Value.tuple #[Value.int .i64 (k : Int), Value.bool true], Value.slice (some ⟨g, 0, none⟩) l.length (k + 1), Value.string nm, Value.tuple #[Value.int .i64 (k : Int), Value.bool true], Value.int .i64 (k : Int), Value.bool true, Value.bool true, Value.bool false, Value.slice (some ⟨g, 0, none⟩) l.length (k + 1), Value.int .i64 (k : Int), Value.slice (some ⟨g, 0, none⟩) k (k + 1), undef, Value.slice (some ⟨g, 0, none⟩) l.length (k + 1), Value.int .i64 (k : Int), Value.int .i64 ((k : Int) + 1), Value.slice (some ⟨g, 0, none⟩) (l.length - (k + 1)) 0, undef, undef, undef, undef, undef, undef, undef, undef, undef, undef, undef, undef, undef, undef, undef, undef, undef, undef, undef, undef, undef], defers := [] }) 3 0 4 36 _ (fun X w' => w'.ownsRow w3.heap.size 35 2 X (0 + k) ([] ++ entC (l.take k))) (by kernel_rfl) (by kernel_rfl) rfl
        case hΦ => exact fun X u u' h hu => own_below h hu
        case W1 =>
          intro wb hwb
          unfold ExtC
          simp only [List.take_succ_cons, List.take_zero, List.drop_succ_cons, List.drop_zero]
          repeat (go_big_quiet_step (fail))
          exact wpQuiet_nil rfl
        case MK =>
          intro wb hwb
          obtain ⟨v', w', hrun, own, hg, _⟩ := run_append_own (P := Try.prog) (w := wb) w3.heap.size 31 _ 35 i0 (.agg #[.string ⟨#[]⟩, .int .i64 0]) 2 24 Try.underlying31 I0.out.1 I0.out.2.1 I0.out.2.2.1 I0.out.2.2.2 rfl (by decide) (.slice none 0 0) 0 [] (World.ownsRow_nil _ _ _ _) ⟨g, 0, none⟩ k (k + 1) (entC (l.take k)) (by rw [entC_len, List.length_take]; omega) (HT.out wb hwb) (entC_one _) (by unfold maxLen; omega) (by omega) hwb.size
          exact ⟨v', w', exec_appE (.const (.slice none 0 0)) (.tmp 35) 31 rfl rfl rfl hrun, own, (Below.refl _ _).grown hg (Nat.le_refl _) (fun j e => by cases e)⟩
        case UM =>
          intro X wb hwb hX
          exact wpQuiet_nil rfl
        case W2 =>
          intro X wb hwb
          unfold ExtC
          simp only [List.take_succ_cons, List.take_zero, List.drop_succ_cons, List.drop_zero]
          go_frame
          repeat (go_big_quiet_step (fail))
          exact wpQuiet_nil rfl
        intro v4 w4 hb4 own4
        have O4 : Hid (w4.ownsRow w3.heap.size 35 2 v4 (0 + k) ([] ++ entC (l.take k))) := own4
        have G4 : Hid (Below w3.heap.size w3 w4) := hb4
        have HC4 : Hid (∀ j u, (entC (l.drop (k + 1)))[j]? = some u → w4.cell? ((⟨g, 0, none⟩ : Addr).add j) = some u) := fun j u hu => row_past (w := w4) (g := g) (k := k + 1) HC1.out hu
        simp only [List.take_succ_cons, List.take_zero, List.drop_succ_cons, List.drop_zero]
        clear hb4 own4
        go_wp2_with (first
          | (at_builtin; refine wpList_append_own _ rfl (.tmp 36) (.tmp 40) 31 rfl w3.heap.size 35 i0 (.agg #[.string ⟨#[]⟩, .int .i64 0]) 2 24 Try.underlying31 I0.out.1 I0.out.2.1 I0.out.2.2.1 I0.out.2.2.2 rfl (by decide) _ (0 + k) ([] ++ entC (l.take k)) rfl O4.out ⟨g, 0, none⟩ (l.length - (k + 1)) 0 (entC (l.drop (k + 1))) rfl (by rw [entC_len, List.length_drop]) HC4.out (entC_one _) (by unfold maxLen; omega) (by omega) G4.out.size ?_; intro v8 w8 own hg hv8; have O8 := Lib.hid own; have G8 := Lib.hid (G4.out.grown hg G4.out.size (fun j e => (O4.out.lt j e).1)); have O9 : Hid (w8.ownsRow w3.heap.size 35 2 v8 (l.length - 1) (entC L2)) := del_row O8.out hk HIE.out; obtain ⟨A8, c8, hv8, hr8⟩ := own_ents O9.out HLO.out; subst hv8; have R8 := Lib.hid hr8; clear own hg O4 G4 HC4 O8 hr8)
          | (go_at_call 31; refine (CB.out _ _ _ R8.out).mono ?_; rintro e w9 ⟨rfl, hb9⟩; have B9 := Lib.hid (B3.out.trans ((G8.out.trans (hb9.mono G8.out.size)).mono B3.out.size)); clear hb9)
          | (go_at_call 30; refine (CW.out _ ((HR.out.below B9.out).mono B9.out.size)).mono ?_; rintro e w10 ⟨⟨v10, rfl, hv10⟩, hb10⟩; obtain ⟨A10, c10, rfl, hr10⟩ := hv10.read; have R10 := Lib.hid hr10; have B10 := Lib.hid (B9.out.trans (hb10.mono B9.out.size)); clear hv10 hb10 hr10)
          | (go_at_call 46; refine (CC.out A10 c10 ys _ HLE.out R10.out).mono ?_; rintro e w11 ⟨⟨v11, rfl, hv11⟩, hb11⟩; have B11 := Lib.hid (B10.out.trans (hb11.mono B10.out.size)); have O11 := Lib.hid (own_low hv11 B10.out.size); clear hv11 hb11))
        go_ret2
        rw [HRR.out]
        exact ⟨⟨_, rfl, O11.out⟩, B11.out⟩
      · have HRR : Hid (r = ([], ye)) := by show _ = _; rw [HR2.out, if_pos hye]
        have h01 : (ye != 0) = true := by simpa using hye
        clear hye
        go_wp2_with fail
        apply wp_region_free (a2 := { tmps := #[Value.slice A xs.length c, Value.int .i64 n, Value.string nm, undef, undef, undef, Value.slice none 0 0, Value.int .i64 0, Value.slice (some ⟨g, 0, none⟩) l.length (k + 1), Value.int .i64 0, Value.int .i64 (k : Int), Value.bool true, undef, Value.string nm, Value.bool true, Value.bool false, Value.tuple #[Value.slice (some ⟨g, 0, none⟩) l.length (k + 1), Value.int .i64 0], Value.slice A xs.length c, Value.int .i64 n, Value.tuple #[Value.slice (some ⟨g, 0, none⟩) l.length (k + 1), Value.int .i64 0], Value.slice (some ⟨g, 0, none⟩) l.length (k + 1), Value.int .i64 0, Value.int .i64 0, Value.bool false, undef, Value.tuple #[Value.int .i64 (k : Int), Value.bool true], Value.slice (some ⟨g, 0, none⟩) l.length (k + 1), Value.string nm, Value.tuple #[Value.int .i64 (k : Int), Value.bool true], Value.int .i64 (k : Int), Value.bool true, Value.bool true, Value.bool false, Value.slice (some ⟨g, 0, none⟩) l.length (k + 1), Value.int .i64 (k : Int), Value.slice (some ⟨g, 0, none⟩) k (k + 1), undef, Value.slice (some ⟨g, 0, none⟩) l.length (k + 1), Value.int .i64 (k : Int), Value.int .i64 ((k : Int) + 1), Value.slice (some ⟨g, 0, none⟩) (l.length - (k + 1)) 0, undef, undef, undef, undef, undef, undef, undef, undef, undef, undef, undef, undef, undef, undef, undef, undef, undef, undef, undef, undef, undef], defers := [] }) 3 0 4 36 _ (fun X w' => w'.ownsRow w3.heap.size 35 2 X (0 + k) ([] ++ entC (l.take k))) (by kernel_rfl) (by kernel_rfl) rfl
        case hΦ => exact fun X u u' h hu => own_below h hu
        case W1 =>
          intro wb hwb
          unfold ExtC
          simp only [List.take_succ_cons, List.take_zero, List.drop_succ_cons, List.drop_zero]
          repeat (go_big_quiet_step (fail))
          exact wpQuiet_nil rfl
        case MK =>
          intro wb hwb
          obtain ⟨v', w', hrun, own, hg, _⟩ := run_append_own (P := Try.prog) (w := wb) w3.heap.size 31 _ 35 i0 (.agg #[.string ⟨#[]⟩, .int .i64 0]) 2 24 Try.underlying31 I0.out.1 I0.out.2.1 I0.out.2.2.1 I0.out.2.2.2 rfl (by decide) (.slice none 0 0) 0 [] (World.ownsRow_nil _ _ _ _) ⟨g, 0, none⟩ k (k + 1) (entC (l.take k)) (by rw [entC_len, List.length_take]; omega) (HT.out wb hwb) (entC_one _) (by unfold maxLen; omega) (by omega) hwb.size
          exact ⟨v', w', exec_appE (.const (.slice none 0 0)) (.tmp 35) 31 rfl rfl rfl hrun, own, (Below.refl _ _).grown hg (Nat.le_refl _) (fun j e => by cases e)⟩
        case UM =>
          intro X wb hwb hX
          exact wpQuiet_nil rfl
        case W2 =>
          intro X wb hwb
          unfold ExtC
          simp only [List.take_succ_cons, List.take_zero, List.drop_succ_cons, List.drop_zero]
          go_frame
          repeat (go_big_quiet_step (fail))
          exact wpQuiet_nil rfl
        intro v4 w4 hb4 own4
        have O4 : Hid (w4.ownsRow w3.heap.size 35 2 v4 (0 + k) ([] ++ entC (l.take k))) := own4
        have G4 : Hid (Below w3.heap.size w3 w4) := hb4
        have HC4 : Hid (∀ j u, (entC (l.drop (k + 1)))[j]? = some u → w4.cell? ((⟨g, 0, none⟩ : Addr).add j) = some u) := fun j u hu => row_past (w := w4) (g := g) (k := k + 1) HC1.out hu
        simp only [List.take_succ_cons, List.take_zero, List.drop_succ_cons, List.drop_zero]
        clear hb4 own4
        go_wp2_with (first
          | (at_builtin; refine wpList_append_own _ rfl (.tmp 36) (.tmp 40) 31 rfl w3.heap.size 35 i0 (.agg #[.string ⟨#[]⟩, .int .i64 0]) 2 24 Try.underlying31 I0.out.1 I0.out.2.1 I0.out.2.2.1 I0.out.2.2.2 rfl (by decide) _ (0 + k) ([] ++ entC (l.take k)) rfl O4.out ⟨g, 0, none⟩ (l.length - (k + 1)) 0 (entC (l.drop (k + 1))) rfl (by rw [entC_len, List.length_drop]) HC4.out (entC_one _) (by unfold maxLen; omega) (by omega) G4.out.size ?_; intro v8 w8 own hg hv8; have O8 := Lib.hid own; have G8 := Lib.hid (G4.out.grown hg G4.out.size (fun j e => (O4.out.lt j e).1)); have O9 : Hid (w8.ownsRow w3.heap.size 35 2 v8 (l.length - 1) (entC L2)) := del_row O8.out hk HIE.out; obtain ⟨A8, c8, hv8, hr8⟩ := own_ents O9.out HLO.out; subst hv8; have R8 := Lib.hid hr8; clear own hg O4 G4 HC4 O8 hr8)
          | (go_at_call 31; refine (CB.out _ _ _ R8.out).mono ?_; rintro e w9 ⟨rfl, hb9⟩; have B9 := Lib.hid (B3.out.trans ((G8.out.trans (hb9.mono G8.out.size)).mono B3.out.size)); clear hb9)
          | (go_at_call 30; refine (CW.out _ ((HR.out.below B9.out).mono B9.out.size)).mono ?_; rintro e w10 ⟨⟨v10, rfl, hv10⟩, hb10⟩; obtain ⟨A10, c10, rfl, hr10⟩ := hv10.read; have R10 := Lib.hid hr10; have B10 := Lib.hid (B9.out.trans (hb10.mono B9.out.size)); clear hv10 hb10 hr10)
          | (go_at_call 46; refine (CC.out A10 c10 ys _ HLE.out R10.out).mono ?_; rintro e w11 ⟨⟨v11, rfl, hv11⟩, hb11⟩; have B11 := Lib.hid (B10.out.trans (hb11.mono B10.out.size)); have O11 := Lib.hid (own_low hv11 B10.out.size); clear hv11 hb11))
        go_ret2
        rw [HRR.out]
        exact RowCode.none B10.out
  · have k6 : ¬ c2 = k + 1 := fun e => hkc e.symm
    have k7 : ((k + 1 : Nat) : Int) < (c2 : Int) := by have := HC1.out; omega
    by_cases hone : l.length - 1 = 0
    · have HRR := Lib.hid (HR0.out hone)
      have b1 : bt.toList = [] := bt_nil (by rw [HBT.out, hone])
      have b2 : (bt.toList == []) = true := by rw [b1]; rfl
      have b3 : bt.toList.isEmpty = true := by rw [b1]; rfl
      have HONE := Lib.hid hone
      clear hone
      go_wp2_with fail
      apply wp_region_free (a2 := { tmps := #[Value.slice A xs.length c, Value.int .i64 n, Value.string nm, undef, undef, undef, Value.slice none 0 0, Value.int .i64 0, Value.slice (some ⟨g, 0, none⟩) l.length c2, Value.int .i64 0, Value.int .i64 (k : Int), Value.bool true, undef, Value.string nm, Value.bool true, Value.bool false, Value.tuple #[Value.slice (some ⟨g, 0, none⟩) l.length c2, Value.int .i64 0], Value.slice A xs.length c, Value.int .i64 n, Value.tuple #[Value.slice (some ⟨g, 0, none⟩) l.length c2, Value.int .i64 0], Value.slice (some ⟨g, 0, none⟩) l.length c2, Value.int .i64 0, Value.int .i64 0, Value.bool false, undef, Value.tuple #[Value.int .i64 (k : Int), Value.bool true], Value.slice (some ⟨g, 0, none⟩) l.length c2, Value.string nm, Value.tuple #[Value.int .i64 (k : Int), Value.bool true], Value.int .i64 (k : Int), Value.bool true, Value.bool true, Value.bool false, Value.slice (some ⟨g, 0, none⟩) l.length c2, Value.int .i64 (k : Int), Value.slice (some ⟨g, 0, none⟩) k c2, undef, Value.slice (some ⟨g, 0, none⟩) l.length c2, Value.int .i64 (k : Int), Value.int .i64 ((k : Int) + 1), Value.slice (some ⟨g, (k + 1) * 2, none⟩) (l.length - (k + 1)) (c2 - (k + 1)), undef, undef, undef, undef, undef, undef, undef, undef, undef, undef, undef, undef, undef, undef, undef, undef, undef, undef, undef, undef, undef], defers := [] }) 3 0 4 36 _ (fun X w' => w'.ownsRow w3.heap.size 35 2 X (0 + k) ([] ++ entC (l.take k))) (by kernel_rfl) (by kernel_rfl) rfl
      case hΦ => exact fun X u u' h hu => own_below h hu
      case W1 =>
        intro wb hwb
        unfold ExtC
        simp only [List.take_succ_cons, List.take_zero, List.drop_succ_cons, List.drop_zero]
        repeat (go_big_quiet_step (fail))
        exact wpQuiet_nil rfl
      case MK =>
        intro wb hwb
        obtain ⟨v', w', hrun, own, hg, _⟩ := run_append_own (P := Try.prog) (w := wb) w3.heap.size 31 _ 35 i0 (.agg #[.string ⟨#[]⟩, .int .i64 0]) 2 24 Try.underlying31 I0.out.1 I0.out.2.1 I0.out.2.2.1 I0.out.2.2.2 rfl (by decide) (.slice none 0 0) 0 [] (World.ownsRow_nil _ _ _ _) ⟨g, 0, none⟩ k c2 (entC (l.take k)) (by rw [entC_len, List.length_take]; omega) (HT.out wb hwb) (entC_one _) (by unfold maxLen; omega) (by omega) hwb.size
        exact ⟨v', w', exec_appE (.const (.slice none 0 0)) (.tmp 35) 31 rfl rfl rfl hrun, own, (Below.refl _ _).grown hg (Nat.le_refl _) (fun j e => by cases e)⟩
      case UM =>
        intro X wb hwb hX
        exact wpQuiet_nil rfl
      case W2 =>
        intro X wb hwb
        unfold ExtC
        simp only [List.take_succ_cons, List.take_zero, List.drop_succ_cons, List.drop_zero]
        go_frame
        repeat (go_big_quiet_step (fail))
        exact wpQuiet_nil rfl
      intro v4 w4 hb4 own4
      have O4 : Hid (w4.ownsRow w3.heap.size 35 2 v4 (0 + k) ([] ++ entC (l.take k))) := own4
      have G4 : Hid (Below w3.heap.size w3 w4) := hb4
      have HC4 : Hid (∀ j u, (entC (l.drop (k + 1)))[j]? = some u → w4.cell? ((⟨g, (k + 1) * 2, none⟩ : Addr).add j) = some u) := fun j u hu => row_drop G4.out HG3.out HC3.out (k := k + 1) hu
      simp only [List.take_succ_cons, List.take_zero, List.drop_succ_cons, List.drop_zero]
      clear hb4 own4
      go_wp2_with (first
        | (at_builtin; refine wpList_append_own _ rfl (.tmp 36) (.tmp 40) 31 rfl w3.heap.size 35 i0 (.agg #[.string ⟨#[]⟩, .int .i64 0]) 2 24 Try.underlying31 I0.out.1 I0.out.2.1 I0.out.2.2.1 I0.out.2.2.2 rfl (by decide) _ (0 + k) ([] ++ entC (l.take k)) rfl O4.out ⟨g, (k + 1) * 2, none⟩ (l.length - (k + 1)) (c2 - (k + 1)) (entC (l.drop (k + 1))) rfl (by rw [entC_len, List.length_drop]) HC4.out (entC_one _) (by unfold maxLen; omega) (by omega) G4.out.size ?_; intro v8 w8 own hg hv8; have O8 := Lib.hid own; have G8 := Lib.hid (G4.out.grown hg G4.out.size (fun j e => (O4.out.lt j e).1)); have O9 : Hid (w8.ownsRow w3.heap.size 35 2 v8 (l.length - 1) (entC L2)) := del_row O8.out hk HIE.out; obtain ⟨A8, c8, hv8, hr8⟩ := own_ents O9.out HLO.out; subst hv8; have R8 := Lib.hid hr8; clear own hg O4 G4 HC4 O8 hr8)
        | (go_at_call 31; refine (CB.out _ _ _ R8.out).mono ?_; rintro e w9 ⟨rfl, hb9⟩; have B9 := Lib.hid (B3.out.trans ((G8.out.trans (hb9.mono G8.out.size)).mono B3.out.size)); clear hb9)
        | (go_at_call 30; refine (CW.out _ ((HR.out.below B9.out).mono B9.out.size)).mono ?_; rintro e w10 ⟨⟨v10, rfl, hv10⟩, hb10⟩; obtain ⟨A10, c10, rfl, hr10⟩ := hv10.read; have R10 := Lib.hid hr10; have B10 := Lib.hid (B9.out.trans (hb10.mono B9.out.size)); clear hv10 hb10 hr10)
        | (go_at_call 46; refine (CC.out A c xs _ hx ((HR.out.below B9.out).mono B9.out.size)).mono ?_; rintro e w11 ⟨⟨v11, rfl, hv11⟩, hb11⟩; have B11 := Lib.hid (B9.out.trans (hb11.mono B9.out.size)); have O11 := Lib.hid (own_low hv11 B9.out.size); clear hv11 hb11))
      go_ret2
      rw [HRR.out]
      exact ⟨⟨_, rfl, O11.out⟩, B11.out⟩
    · have HR2 := Lib.hid (HR1.out hone)
      have b1 : ¬ bt.toList = [] := bt_some (by rw [HBT.out]; omega)
      have b2 : (bt.toList == []) = false := by simpa using b1
      have b3 : bt.toList.isEmpty = false := by simpa using b1
      have HONE := Lib.hid hone
      clear hone
      by_cases hye : ye = 0
      · subst hye
        have HRR : Hid (r = cutO ys n ((bt.size : Nat) : Int)) := by show _ = _; rw [HR2.out, if_neg (by simp)]
        go_wp2_with fail
        apply wp_region_free (a2 := { tmps := #[Value.slice A xs.length c, Value.int .i64 n, Value.string nm, undef, undef, undef, Value.slice none 0 0, Value.int .i64 0, Value.slice (some ⟨g, 0, none⟩) l.length c2, Value.int .i64 0, Value.int .i64 (k : Int), Value.bool true, undef, Value.string nm, Value.bool true, Value.bool false, Value.tuple #[Value.slice (some ⟨g, 0, none⟩) l.length c2, Value.int .i64 0], Value.slice A xs.length c, Value.int .i64 n, Value.tuple #[Value.slice (some ⟨g, 0, none⟩) l.length c2, Value.int .i64 0], Value.slice (some ⟨g, 0, none⟩) l.length c2, Value.int .i64 0, Value.int .i64 0, Value.bool false, undef, Value.tuple #[Value.int .i64 (k : Int), Value.bool true], Value.slice (some ⟨g, 0, none⟩) l.length c2, Value.string nm, Value.tuple #[Value.int .i64 (k : Int), Value.bool true], Value.int .i64 (k : Int), Value.bool true, Value.bool true, Value.bool false, Value.slice (some ⟨g, 0, none⟩) l.length c2, Value.int .i64 (k : Int), Value.slice (some ⟨g, 0, none⟩) k c2, undef, Value.slice (some ⟨g, 0, none⟩) l.length c2, Value.int .i64 (k : Int), Value.int .i64 ((k : Int) + 1), Value.slice (some ⟨g, (k + 1) * 2, none⟩) (l.length - (k + 1)) (c2 - (k + 1)), undef, undef, undef, undef, undef, undef, undef, undef, undef, undef, undef, undef, undef, undef, undef, undef, undef, undef, undef, undef, undef], defers := [] }) 3 0 4 36 _ (fun X w' => w'.ownsRow w3.heap.size 35 2 X (0 + k) ([] ++ entC (l.take k))) (by kernel_rfl) (by kernel_rfl) rfl
        case hΦ => exact fun X u u' h hu => own_below h hu
        case W1 =>
          intro wb hwb
          unfold ExtC
          simp only [List.take_succ_cons, List.take_zero, List.drop_succ_cons, List.drop_zero]
          repeat (go_big_quiet_step (fail))
          exact wpQuiet_nil rfl
        case MK =>
          intro wb hwb
          obtain ⟨v', w', hrun, own, hg, _⟩ := run_append_own (P := Try.prog) (w := wb) w3.heap.size 31 _ 35 i0 (.agg #[.string ⟨#[]⟩, .int .i64 0]) 2 24 Try.underlying31 I0.out.1 I0.out.2.1 I0.out.2.2.1 I0.out.2.2.2 rfl (by decide) (.slice none 0 0) 0 [] (World.ownsRow_nil _ _ _ _) ⟨g, 0, none⟩ k c2 (entC (l.take k)) (by rw [entC_len, List.length_take]; omega) (HT.out wb hwb) (entC_one _) (by unfold maxLen; omega) (by omega) hwb.size
          exact ⟨v', w', exec_appE (.const (.slice none 0 0)) (.tmp 35) 31 rfl rfl rfl hrun, own, (Below.refl _ _).grown hg (Nat.le_refl _) (fun j e => by cases e)⟩
        case UM =>
          intro X wb hwb hX
          exact wpQuiet_nil rfl
        case W2 =>
          intro X wb hwb
          unfold ExtC
          simp only [List.take_succ_cons, List.take_zero, List.drop_succ_cons, List.drop_zero]
          go_frame
          repeat (go_big_quiet_step (fail))
          exact wpQuiet_nil rfl
        intro v4 w4 hb4 own4
        have O4 : Hid (w4.ownsRow w3.heap.size 35 2 v4 (0 + k) ([] ++ entC (l.take k))) := own4
        have G4 : Hid (Below w3.heap.size w3 w4) := hb4
        have HC4 : Hid (∀ j u, (entC (l.drop (k + 1)))[j]? = some u → w4.cell? ((⟨g, (k + 1) * 2, none⟩ : Addr).add j) = some u) := fun j u hu => row_drop G4.out HG3.out HC3.out (k := k + 1) hu
        simp only [List.take_succ_cons, List.take_zero, List.drop_succ_cons, List.drop_zero]
        clear hb4 own4
        go_wp2_with (first
          | (at_builtin; refine wpList_append_own _ rfl (.tmp 36) (.tmp 40) 31 rfl w3.heap.size 35 i0 (.agg #[.string ⟨#[]⟩, .int .i64 0]) 2 24 Try.underlying31 I0.out.1 I0.out.2.1 I0.out.2.2.1 I0.out.2.2.2 rfl (by decide) _ (0 + k) ([] ++ entC (l.take k)) rfl O4.out ⟨g, (k + 1) * 2, none⟩ (l.length - (k + 1)) (c2 - (k + 1)) (entC (l.drop (k + 1))) rfl (by rw [entC_len, List.length_drop]) HC4.out (entC_one _) (by unfold maxLen; omega) (by omega) G4.out.size ?_; intro v8 w8 own hg hv8; have O8 := Lib.hid own; have G8 := Lib.hid (G4.out.grown hg G4.out.size (fun j e => (O4.out.lt j e).1)); have O9 : Hid (w8.ownsRow w3.heap.size 35 2 v8 (l.length - 1) (entC L2)) := del_row O8.out hk HIE.out; obtain ⟨A8, c8, hv8, hr8⟩ := own_ents O9.out HLO.out; subst hv8; have R8 := Lib.hid hr8; clear own hg O4 G4 HC4 O8 hr8)
          | (go_at_call 31; refine (CB.out _ _ _ R8.out).mono ?_; rintro e w9 ⟨rfl, hb9⟩; have B9 := Lib.hid (B3.out.trans ((G8.out.trans (hb9.mono G8.out.size)).mono B3.out.size)); clear hb9)
          | (go_at_call 30; refine (CW.out _ ((HR.out.below B9.out).mono B9.out.size)).mono ?_; rintro e w10 ⟨⟨v10, rfl, hv10⟩, hb10⟩; obtain ⟨A10, c10, rfl, hr10⟩ := hv10.read; have R10 := Lib.hid hr10; have B10 := Lib.hid (B9.out.trans (hb10.mono B9.out.size)); clear hv10 hb10 hr10)
          | (go_at_call 46; refine (CC.out A10 c10 ys _ HLE.out R10.out).mono ?_; rintro e w11 ⟨⟨v11, rfl, hv11⟩, hb11⟩; have B11 := Lib.hid (B10.out.trans (hb11.mono B10.out.size)); have O11 := Lib.hid (own_low hv11 B10.out.size); clear hv11 hb11))
        go_ret2
        rw [HRR.out]
        exact ⟨⟨_, rfl, O11.out⟩, B11.out⟩
      · have HRR : Hid (r = ([], ye)) := by show _ = _; rw [HR2.out, if_pos hye]
        have h01 : (ye != 0) = true := by simpa using hye
        clear hye
        go_wp2_with fail
        apply wp_region_free (a2 := { tmps := #[Value.slice A xs.length c, Value.int .i64 n, Value.string nm, undef, undef, undef, Value.slice none 0 0, Value.int .i64 0, Value.slice (some ⟨g, 0, none⟩) l.length c2, Value.int .i64 0, Value.int .i64 (k : Int), Value.bool true, undef, Value.string nm, Value.bool true, Value.bool false, Value.tuple #[Value.slice (some ⟨g, 0, none⟩) l.length c2, Value.int .i64 0], Value.slice A xs.length c, Value.int .i64 n, Value.tuple #[Value.slice (some ⟨g, 0, none⟩) l.length c2, Value.int .i64 0], Value.slice (some ⟨g, 0, none⟩) l.length c2, Value.int .i64 0, Value.int .i64 0, Value.bool false, undef, Value.tuple #[Value.int .i64 (k : Int), Value.bool true], Value.slice (some ⟨g, 0, none⟩) l.length c2, Value.string nm, Value.tuple #[Value.int .i64 (k : Int), Value.bool true], Value.int .i64 (k : Int), Value.bool true, Value.bool true, Value.bool false, Value.slice (some ⟨g, 0, none⟩) l.length c2, Value.int .i64 (k : Int), Value.slice (some ⟨g, 0, none⟩) k c2, undef, Value.slice (some ⟨g, 0, none⟩) l.length c2, Value.int .i64 (k : Int), Value.int .i64 ((k : Int) + 1), Value.slice (some ⟨g, (k + 1) * 2, none⟩) (l.length - (k + 1)) (c2 - (k + 1)), undef, undef, undef, undef, undef, undef, undef, undef, undef, undef, undef, undef, undef, undef, undef, undef, undef, undef, undef, undef, undef], defers := [] }) 3 0 4 36 _ (fun X w' => w'.ownsRow w3.heap.size 35 2 X (0 + k) ([] ++ entC (l.take k))) (by kernel_rfl) (by kernel_rfl) rfl
        case hΦ => exact fun X u u' h hu => own_below h hu
        case W1 =>
          intro wb hwb
          unfold ExtC
          simp only [List.take_succ_cons, List.take_zero, List.drop_succ_cons, List.drop_zero]
          repeat (go_big_quiet_step (fail))
          exact wpQuiet_nil rfl
        case MK =>
          intro wb hwb
          obtain ⟨v', w', hrun, own, hg, _⟩ := run_append_own (P := Try.prog) (w := wb) w3.heap.size 31 _ 35 i0 (.agg #[.string ⟨#[]⟩, .int .i64 0]) 2 24 Try.underlying31 I0.out.1 I0.out.2.1 I0.out.2.2.1 I0.out.2.2.2 rfl (by decide) (.slice none 0 0) 0 [] (World.ownsRow_nil _ _ _ _) ⟨g, 0, none⟩ k c2 (entC (l.take k)) (by rw [entC_len, List.length_take]; omega) (HT.out wb hwb) (entC_one _) (by unfold maxLen; omega) (by omega) hwb.size
          exact ⟨v', w', exec_appE (.const (.slice none 0 0)) (.tmp 35) 31 rfl rfl rfl hrun, own, (Below.refl _ _).grown hg (Nat.le_refl _) (fun j e => by cases e)⟩
        case UM =>
          intro X wb hwb hX
          exact wpQuiet_nil rfl
        case W2 =>
          intro X wb hwb
          unfold ExtC
          simp only [List.take_succ_cons, List.take_zero, List.drop_succ_cons, List.drop_zero]
          go_frame
          repeat (go_big_quiet_step (fail))
          exact wpQuiet_nil rfl
        intro v4 w4 hb4 own4
        have O4 : Hid (w4.ownsRow w3.heap.size 35 2 v4 (0 + k) ([] ++ entC (l.take k))) := own4
        have G4 : Hid (Below w3.heap.size w3 w4) := hb4
        have HC4 : Hid (∀ j u, (entC (l.drop (k + 1)))[j]? = some u → w4.cell? ((⟨g, (k + 1) * 2, none⟩ : Addr).add j) = some u) := fun j u hu => row_drop G4.out HG3.out HC3.out (k := k + 1) hu
        simp only [List.take_succ_cons, List.take_zero, List.drop_succ_cons, List.drop_zero]
        clear hb4 own4
        go_wp2_with (first
          | (at_builtin; refine wpList_append_own _ rfl (.tmp 36) (.tmp 40) 31 rfl w3.heap.size 35 i0 (.agg #[.string ⟨#[]⟩, .int .i64 0]) 2 24 Try.underlying31 I0.out.1 I0.out.2.1 I0.out.2.2.1 I0.out.2.2.2 rfl (by decide) _ (0 + k) ([] ++ entC (l.take k)) rfl O4.out ⟨g, (k + 1) * 2, none⟩ (l.length - (k + 1)) (c2 - (k + 1)) (entC (l.drop (k + 1))) rfl (by rw [entC_len, List.length_drop]) HC4.out (entC_one _) (by unfold maxLen; omega) (by omega) G4.out.size ?_; intro v8 w8 own hg hv8; have O8 := Lib.hid own; have G8 := Lib.hid (G4.out.grown hg G4.out.size (fun j e => (O4.out.lt j e).1)); have O9 : Hid (w8.ownsRow w3.heap.size 35 2 v8 (l.length - 1) (entC L2)) := del_row O8.out hk HIE.out; obtain ⟨A8, c8, hv8, hr8⟩ := own_ents O9.out HLO.out; subst hv8; have R8 := Lib.hid hr8; clear own hg O4 G4 HC4 O8 hr8)
          | (go_at_call 31; refine (CB.out _ _ _ R8.out).mono ?_; rintro e w9 ⟨rfl, hb9⟩; have B9 := Lib.hid (B3.out.trans ((G8.out.trans (hb9.mono G8.out.size)).mono B3.out.size)); clear hb9)
          | (go_at_call 30; refine (CW.out _ ((HR.out.below B9.out).mono B9.out.size)).mono ?_; rintro e w10 ⟨⟨v10, rfl, hv10⟩, hb10⟩; obtain ⟨A10, c10, rfl, hr10⟩ := hv10.read; have R10 := Lib.hid hr10; have B10 := Lib.hid (B9.out.trans (hb10.mono B9.out.size)); clear hv10 hb10 hr10)
          | (go_at_call 46; refine (CC.out A10 c10 ys _ HLE.out R10.out).mono ?_; rintro e w11 ⟨⟨v11, rfl, hv11⟩, hb11⟩; have B11 := Lib.hid (B10.out.trans (hb11.mono B10.out.size)); have O11 := Lib.hid (own_low hv11 B10.out.size); clear hv11 hb11))
        go_ret2
        rw [HRR.out]
        exact RowCode.none B10.out
set_option maxHeartbeats 4000000 in
theorem drop_any (A : Option Addr) (c : Nat) (xs : List ByteArray) (n : Int) (nm : ByteArray) (w : World) (hx : xs.length ≤ 1000000) (hs : nm.size ≤ 140737488355328) (h : RowAt w w.heap.size A (xs.map .string)) :
    Calls Try.prog 25 #[.slice A xs.length c, .int .i64 n, .string nm] w (RowCode (dropO xs n nm).1 (dropO xs n nm).2 w) := by
  have CM := Lib.hid (may_any nm w hs)
  cases hm : mayB nm.data.toList with
  | false =>
    have HO : Hid (dropO xs n nm = ([], 7)) := by show _ = _; unfold dropO; rw [if_pos hm]
    rw [hm] at CM
    clear hm h
    go_enter Try.func25, Try.ntmps25
    go_wp2_with fail
    refine CM.out.mono ?_
    rintro e w1 ⟨rfl, hb1⟩
    have B1 := Lib.hid hb1
    go_wp2
    go_ret2
    rw [HO.out]
    exact RowCode.none B1.out
  | true =>
    have CL := Lib.hid (fun w h => list_any A c xs n w hx h)
    have HR := Lib.hid h
    by_cases h0 : (listO xs n).2 = 0
    · cases hh : hasE (listO xs n).1 nm with
      | true => exact drop_main A c xs n nm w hx hs h (listO xs n).1 hm (by rw [← h0]) hh
      | false =>
        have HO : Hid (dropO xs n nm = ([], 9)) := by show _ = _; unfold dropO; rw [if_neg (by rw [hm]; simp), if_neg (by rw [h0]; simp), if_pos hh]
        rw [hm] at CM
        have HV := Lib.hid (listO_valid (xs := xs) (n := n))
        have HN := Lib.hid (listO_len (xs := xs) (n := n))
        generalize listO xs n = lo at *
        obtain ⟨l, le⟩ := lo
        dsimp only at HV HN h0 hh
        subst h0
        have CS := Lib.hid (fun A c w h => search_any A c l nm w HN.out HV.out.rise h)
        rw [hh] at CS
        unfold ListPost at CL
        dsimp only at CL
        clear hm h hh
        go_enter Try.func25, Try.ntmps25
        go_wp2_with fail
        refine CM.out.mono ?_
        rintro e w1 ⟨rfl, hb1⟩
        have B1 := Lib.hid hb1
        clear hb1 CM
        go_wp2_with fail
        refine (CL.out _ ((HR.out.below B1.out).mono B1.out.size)).mono ?_
        rintro e w2 ⟨⟨v, rfl, hv⟩, hb2⟩
        have B2 := Lib.hid (B1.out.trans (hb2.mono B1.out.size))
        obtain ⟨A2, c2, rfl, hr2⟩ := OwnEnts.read2 hv
        have R2 := Lib.hid hr2
        clear hb2 hv hr2 CL
        go_wp2_with fail
        refine (CS.out _ _ _ R2.out).mono ?_
        rintro e w3 ⟨rfl, hb3⟩
        have B3 := Lib.hid (B2.out.trans (hb3.mono B2.out.size))
        clear hb3 CS
        go_wp2
        go_ret2
        rw [HO.out]
        exact RowCode.none B3.out
    · have HO : Hid (dropO xs n nm = ([], (listO xs n).2)) := by show _ = _; unfold dropO; rw [if_neg (by rw [hm]; simp), if_pos h0]
      rw [hm] at CM
      generalize listO xs n = lo at *
      obtain ⟨l, le⟩ := lo
      dsimp only at h0 HO
      unfold ListPost at CL
      dsimp only at CL
      have h01 : (le != 0) = true := by simpa using h0
      clear hm h h0
      go_enter Try.func25, Try.ntmps25
      go_wp2_with fail
      refine CM.out.mono ?_
      rintro e w1 ⟨rfl, hb1⟩
      have B1 := Lib.hid hb1
      clear hb1 CM
      go_wp2_with fail
      refine (CL.out _ ((HR.out.below B1.out).mono B1.out.size)).mono ?_
      rintro e w2 ⟨⟨v, rfl, hv⟩, hb2⟩
      have B2 := Lib.hid (B1.out.trans (hb2.mono B1.out.size))
      clear hb2 hv CL
      go_wp2
      go_ret2
      rw [HO.out]
      exact RowCode.none B2.out
end Go.Proofs.Ytoanladhikdcaaa

namespace Go.Proofs.Ytoanladhikdcaaa
open Go.RowKit
set_option linter.unusedVariables false
set_option linter.unusedSimpArgs false
set_option maxRecDepth 100000
theorem writeO_nil {xs : List ByteArray} {n off : Int} {d : List UInt8} (h : (writeO xs n off d).2 ≠ 0) : (writeO xs n off d).1 = [] := by
  unfold writeO at *
  by_cases h1 : inoE xs n ≠ 0
  · rw [if_pos h1]
  · rw [if_neg h1] at h ⊢
    by_cases h2 : off < 0
    · rw [if_pos h2]
    · rw [if_neg h2] at h ⊢
      by_cases h3 : 8960 < off ∨ 8960 < off + (d.length : Int)
      · rw [if_pos h3]
      · rw [if_neg h3] at h ⊢
        cases hw : wriG noK xs (mO xs) (getR xs n) off.toNat d with
        | none => rfl
        | some s => rw [hw] at h; exact absurd rfl h
theorem addO_nil {xs : List ByteArray} {n : Int} {nm : ByteArray} {ino : Int} (h : (addO xs n nm ino).2 ≠ 0) : (addO xs n nm ino).1 = [] := by
  unfold addO at *
  split
  · rfl
  · rename_i h1
    rw [if_neg h1] at h
    split
    · rfl
    · rename_i h2
      rw [if_neg h2] at h
      split
      · rfl
      · rename_i h3
        rw [if_neg h3] at h
        split
        · rfl
        · rename_i h4
          rw [if_neg h4] at h
          exact writeO_nil h
set_option maxHeartbeats 8000000 in
theorem law_keeps (A : Option Addr) (c : Nat) (xs : List ByteArray) (n : Int) (nm ot : ByteArray) (ino : Int) (w : World) (hx : xs.length ≤ maxLen) (hs : ∀ s ∈ xs, s.size ≤ 140737488355328) (hnm : nm.size ≤ 140737488355328) (hot : ot.size ≤ 140737488355328) (h : RowAt w w.heap.size A (xs.map .string)) :
    Calls Try.prog 7 #[.slice A xs.length c, .int .i64 n, .string nm, .string ot, .int .i64 ino] w fun e w' => e = .returned (.bool true) ∧ Below w.heap.size w w' := by
  have HX := Lib.hid hx
  have HS := Lib.hid hs
  have R0 := Lib.hid h
  have CA := Lib.hid (fun w => awake_any w)
  clear h hx hs
  go_enter Try.func7, Try.ntmps7
  go_wp2_with fail
  refine (great20_any A c xs _ HX.out (fun s h => Nat.le_trans (HS.out s h) (by decide)) R0.out).mono ?_
  rintro e w' ⟨⟨r, rfl, rfl | ⟨rfl, hl80⟩⟩, rfl⟩
  · go_wp2_with fail
    refine (CA.out _).mono ?_
    rintro e w1 ⟨rfl, hb1⟩
    go_wp2
    go_ret
    exact ⟨rfl, hb1⟩
  have HX6 : Hid (xs.length ≤ 1000000) := by show _ ≤ _; omega
  clear hl80
  by_cases h1 : 100 < nm.size
  · have e1 : (100 : Int) < (nm.size : Int) := by omega
    go_wp2_with fail
    refine (CA.out _).mono ?_
    rintro e w1 ⟨rfl, hb1⟩
    go_wp2
    go_ret
    exact ⟨rfl, hb1⟩
  have e1 : ¬ (100 : Int) < (nm.size : Int) := by omega
  have e1' : decide ((100 : Int) < (nm.size : Int)) = false := decide_eq_false e1
  by_cases h2 : 100 < ot.size
  · have e2 : (100 : Int) < (ot.size : Int) := by omega
    have e2' : decide ((100 : Int) < (ot.size : Int)) = true := decide_eq_true e2
    go_wp2_with fail
    refine (CA.out _).mono ?_
    rintro e w1 ⟨rfl, hb1⟩
    go_wp2
    go_ret
    exact ⟨rfl, hb1⟩
  have e2 : ¬ (100 : Int) < (ot.size : Int) := by omega
  have e2' : decide ((100 : Int) < (ot.size : Int)) = false := decide_eq_false e2
  by_cases h3 : nm = ot
  · subst h3
    have e3 : (nm.toList == nm.toList) = true := by simp
    go_wp2_with fail
    refine (CA.out _).mono ?_
    rintro e w1 ⟨rfl, hb1⟩
    go_wp2
    go_ret
    exact ⟨rfl, hb1⟩
  have e3 : (nm.toList == ot.toList) = false := by simpa using str_ne h3
  have HNE := Lib.hid h3
  clear h3
  go_wp2_with fail
  refine (sound_any A c xs _ HX6.out R0.out).mono ?_
  rintro e w1 ⟨⟨r, rfl, hr⟩, hb1⟩
  have B1 := Lib.hid hb1
  have R1 := Lib.hid ((R0.out.below hb1).mono hb1.size)
  clear hb1 R0
  by_cases hr0 : r = 0
  · subst hr0
    clear hr
    go_wp2_with fail
    refine (CA.out _).mono ?_
    rintro e w2 ⟨rfl, hb2⟩
    go_wp2
    go_ret
    exact ⟨rfl, B1.out.trans (hb2.mono B1.out.size)⟩
  obtain ⟨m, hv, hU⟩ := hr hr0
  have hr1 : (r == 0) = false := by simpa using hr0
  have HK := Lib.hid (fun ha => keeps hv hU (z := n) (nm := nm) (ot := ot) (ino := ino) HNE.out ha)
  have HLE := Lib.hid (addO_nil (xs := xs) (n := n) (nm := nm) (ino := ino))
  have C1 := Lib.hid (fun w h => find_any A c xs n ot w HX6.out hot h)
  have C2 := Lib.hid (fun w h => list_any A c xs n w HX6.out h)
  have C3 := Lib.hid (fun w h => add_any A c xs n nm ino w HX6.out hnm h)
  have C4 := Lib.hid (fun A c ys w hy h => find_any A c ys n nm w hy hnm h)
  have C5 := Lib.hid (fun A c ys w hy h => find_any A c ys n ot w hy hot h)
  have C6 := Lib.hid (fun A c ys w hy h => drop_any A c ys n nm w hy hnm h)
  have C7 := Lib.hid (fun A c ys w hy h => list_any A c ys n w hy h)
  have HN := Lib.hid (listO_len (xs := xs) (n := n))
  generalize findO xs n ot = fo at *
  obtain ⟨fv, fe⟩ := fo
  generalize addO xs n nm ino = ao at *
  obtain ⟨ys, ye⟩ := ao
  generalize listO xs n = lo at *
  obtain ⟨l, le⟩ := lo
  unfold ListPost at C2
  unfold RowCode at C3
  dsimp only at C1 C2 C3 HN HK HLE
  clear hv hU hr hr0 hnm hot h1 h2
  go_wp2_with fail
  refine (C1.out _ R1.out).mono ?_
  rintro e w2 ⟨rfl, hb2⟩
  have B2 := Lib.hid (B1.out.trans (hb2.mono B1.out.size))
  have R2 := Lib.hid ((R1.out.below hb2).mono hb2.size)
  clear hb2 C1 R1 B1
  go_wp2_with fail
  refine (C2.out _ R2.out).mono ?_
  rintro e w3 ⟨⟨v3, rfl, hv3⟩, hb3⟩
  obtain ⟨A3, c3, rfl, hr3⟩ := OwnEnts.read2 hv3
  have L3 : Hid (EntsAt w3 w3.heap.size A3 l) := hr3
  have B3 := Lib.hid (B2.out.trans (hb3.mono B2.out.size))
  have R3 := Lib.hid ((R2.out.below hb3).mono hb3.size)
  clear hb3 C2 R2 B2 hv3 hr3
  go_wp2_with fail
  refine (C3.out _ R3.out).mono ?_
  rintro e w4 ⟨⟨v4, rfl, hv4⟩, hb4⟩
  obtain ⟨A4, c4, rfl, hr4⟩ := hv4.read
  have Y4 := Lib.hid hr4
  have L4 := Lib.hid ((L3.out.below hb4).mono hb4.size)
  have B4 := Lib.hid (B3.out.trans (hb4.mono B3.out.size))
  clear hb4 C3 R3 B3 hv4 hr4 L3
  by_cases hye : ye = 0
  · subst hye
    obtain ⟨k1, k2, k3, k4, k5, k6, k7⟩ := HK.out rfl
    have D4 := Lib.hid (fun w h => C4.out A4 c4 ys w k6 h)
    have D5 := Lib.hid (fun w h => C5.out A4 c4 ys w k6 h)
    have D6 := Lib.hid (fun w h => C6.out A4 c4 ys w k6 h)
    rw [k1] at D4
    rw [k2] at D5
    generalize dropO ys n nm = dp at *
    obtain ⟨zs, ze⟩ := dp
    dsimp only at k3 k4 k5 k7
    subst k3
    unfold RowCode at D6
    dsimp only at D6
    have D7 := Lib.hid (fun A c w h => C4.out A c zs w k7 h)
    have D8 := Lib.hid (fun A c w h => C7.out A c zs w k7 h)
    rw [k4] at D7
    rw [k5] at D8
    unfold ListPost at D8
    dsimp only at D8
    generalize (findO zs n nm).1 = junk at *
    clear k1 k2 k4 k5 k6 k7 C4 C5 C6 C7 HK HLE
    go_wp2_with fail
    refine (D4.out _ Y4.out).mono ?_
    rintro e w5 ⟨rfl, hb5⟩
    have B5 := Lib.hid (B4.out.trans (hb5.mono B4.out.size))
    have Y5 := Lib.hid ((Y4.out.below hb5).mono hb5.size)
    have L5 := Lib.hid ((L4.out.below hb5).mono hb5.size)
    clear hb5 D4 Y4 L4 B4
    go_wp2_with fail
    refine (D5.out _ Y5.out).mono ?_
    rintro e w6 ⟨rfl, hb6⟩
    have B6 := Lib.hid (B5.out.trans (hb6.mono B5.out.size))
    have Y6 := Lib.hid ((Y5.out.below hb6).mono hb6.size)
    have L6 := Lib.hid ((L5.out.below hb6).mono hb6.size)
    clear hb6 D5 Y5 L5 B5
    go_wp2_with fail
    refine (D6.out _ Y6.out).mono ?_
    rintro e w7 ⟨⟨v7, rfl, hv7⟩, hb7⟩
    obtain ⟨A7, c7, rfl, hr7⟩ := hv7.read
    have Z7 := Lib.hid hr7
    have B7 := Lib.hid (B6.out.trans (hb7.mono B6.out.size))
    have L7 := Lib.hid ((L6.out.below hb7).mono hb7.size)
    clear hb7 D6 Y6 L6 B6 hv7 hr7
    go_wp2_with fail
    refine (D7.out _ _ _ Z7.out).mono ?_
    rintro e w8 ⟨rfl, hb8⟩
    have B8 := Lib.hid (B7.out.trans (hb8.mono B7.out.size))
    have Z8 := Lib.hid ((Z7.out.below hb8).mono hb8.size)
    have L8 := Lib.hid ((L7.out.below hb8).mono hb8.size)
    clear hb8 D7 Z7 L7 B7
    go_wp2_with fail
    refine (D8.out _ _ _ Z8.out).mono ?_
    rintro e w9 ⟨⟨v9, rfl, hv9⟩, hb9⟩
    obtain ⟨A9, c9, rfl, hr9⟩ := OwnEnts.read2 hv9
    have M9 : Hid (EntsAt w9 w9.heap.size A9 l) := hr9
    have B9 := Lib.hid (B8.out.trans (hb9.mono B8.out.size))
    have L9 := Lib.hid ((L8.out.below hb9).mono hb9.size)
    clear hb9 D8 Z8 L8 B8 hv9 hr9
    go_wp2_with fail
    refine (rsame_any _ _ _ _ l _ (by have := HN.out; omega) L9.out M9.out).mono ?_
    rintro e w10 ⟨rfl, hb10⟩
    have B10 := Lib.hid (B9.out.trans (hb10.mono B9.out.size))
    clear hb10 B9
    go_wp2_with fail
    refine (CA.out _).mono ?_
    rintro e w11 ⟨rfl, hb11⟩
    have B11 := Lib.hid (B10.out.trans (hb11.mono B10.out.size))
    clear hb11 B10
    go_wp2
    go_ret
    exact ⟨rfl, B11.out⟩
  · obtain rfl := HLE.out hye
    have h01 : (ye != 0) = true := by simpa using hye
    clear hye HK HLE C4 C5 C6 C7
    go_wp2_with fail
    refine (CA.out _).mono ?_
    rintro e w5 ⟨rfl, hb5⟩
    have B5 := Lib.hid (B4.out.trans (hb5.mono B4.out.size))
    clear hb5
    go_wp2
    go_ret
    exact ⟨rfl, B5.out⟩
end Go.Proofs.Ytoanladhikdcaaa
