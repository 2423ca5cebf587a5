/-
  Joined in one text: Top20Pl, Top20, DirRm, Snd20, KeepPl, RoomPl, OrdPl, OpenEnts, LawDirOrders.
-/
import Derived.Test.YtoanladhikdcaaaDirSt
import Derived.Test.YtoanladhikdcaaaInoC
import Derived.Test.YtoanladhikdcaaaDirW
import Derived.Test.YtoanladhikdcaaaGeomF
import Derived.Test.YtoanladhikdcaaaExtSnd
import Derived.Test.YtoanladhikdcaaaRExtK
import Derived.Test.YtoanladhikdcaaaInoD
import Derived.Test.YtoanladhikdcaaaInfra
import Derived.Test.YtoanladhikdcaaaRDirO
import Derived.Test.YtoanladhikdcaaaRInoGet
namespace Go.Proofs.Ytoanladhikdcaaa
set_option linter.unusedVariables false
set_option linter.unusedSimpArgs false
set_option maxRecDepth 100000
theorem new_slot0 (xs : List ByteArray) (m kind owner s : Nat) : slotX xs m (newL kind owner) s = 0 := by
  have h10 : (newL kind owner).getD 10 0 = 0 := rfl
  have h70 : slotX xs m (newL kind owner) 70 = 0 := by rw [slotX_ind, h10]; split <;> rfl
  by_cases hs : s < 70
  · rw [slotX_lt hs]
    by_cases h6 : s < 6
    · rw [at_low h6]
      have : (newL kind owner).getD (4 + s) 0 = 0 := by
        have key : s = 0 ∨ s = 1 ∨ s = 2 ∨ s = 3 ∨ s = 4 ∨ s = 5 := by omega
        rcases key with rfl | rfl | rfl | rfl | rfl | rfl <;> rfl
      rw [this]; split <;> rfl
    · exact at_hi0 (by omega) h70
  · unfold slotX
    rw [if_neg hs, h10]; split <;> rfl
/-- what an add does to a directory -/
theorem DirS.add {V : List ByteArray} {m n : Nat} {E : List EntV} (h : DirS V m n E) {nm : ByteArray} {ino : Int} (hk : okE ⟨nm, ino⟩ = true) (hh : hasE E nm = false) :
    addO V (n : Int) nm ino = writeO V (n : Int) 0 (bytesE (insE E ⟨nm, ino⟩)) ∧
    ((addO V (n : Int) nm ino).2 = 0 ∧ (∃ r, WroS m 0 (bytesE (insE E ⟨nm, ino⟩)) V (getR V (n : Int)) r ∧ (addO V (n : Int) nm ino).1 = putV r.1 n r.2) ∧ DirS (addO V (n : Int) nm ino).1 m n (insE E ⟨nm, ino⟩)
    ∨ (addO V (n : Int) nm ino).1 = [] ∧ ((addO V (n : Int) nm ino).2 = 6 ∧ 8960 < (bytesE (insE E ⟨nm, ino⟩)).length ∨ (addO V (n : Int) nm ino).2 = 10 ∧ wriG noK V m (getR V (n : Int)) 0 (bytesE (insE E ⟨nm, ino⟩)) = Option.none)) := by
  obtain ⟨hm, _, _, h1, h2⟩ := okE_ok hk
  have hl := h.list
  have e : addO V (n : Int) nm ino = writeO V (n : Int) 0 (bytesE (insE E ⟨nm, ino⟩)) := by
    unfold addO
    rw [if_neg (by rw [hm]; simp), if_neg (by dsimp only at h1 h2; omega), hl]
    dsimp only
    rw [if_neg (by simp), if_neg (by rw [hh]; simp)]
  refine ⟨e, ?_⟩
  rw [e]
  have hlen := insE_len E ⟨nm, ino⟩
  exact h.more (insE_valid h.valid hk hh) (by omega) (by omega)
def tpV : List ByteArray := putV (fmtV 24 8) 1 (newL 2 0)
theorem tp_plan : planE (24 : Nat) (8 : Nat) = 0 := by decide
theorem tp_free : freeI (fmtV 24 8) 8 = some 1 := by kernel_rfl
theorem tp_new : newO (fmtV 24 8) 2 0 = (tpV, 1, 0) := by
  unfold newO
  rw [ofR_some.2 (fmtV_vol tp_plan)]
  dsimp only
  rw [if_neg (by decide), tp_free]
  rfl
theorem tp_vol : IsVol tpV 8 := (fmtV_vol tp_plan).putI (by decide) (by decide) _
theorem tp_get : getR tpV ((1 : Nat) : Int) = newL 2 0 := get_put_same (fmtV_vol tp_plan) (n := 1) (by decide) (by decide) (newL_fit (by decide) (by decide))
theorem tp_dir : DirS tpV 8 1 [] := by
  have hs := new_slot0 tpV 8 2 0
  refine ⟨⟨by decide, by decide, ?_, ?_, ?_, ?_, fun i hi => absurd hi (by simp)⟩, ⟨fun x hx => by simp at hx, List.Pairwise.nil⟩⟩
  · rw [tp_get]; exact ⟨tp_vol, rfl, newL_fit (by decide) (by decide)⟩
  · rw [tp_get]; exact ⟨fun s _ h0 => absurd (hs s) h0, fun s t _ _ _ h0 => absurd (hs s) h0⟩
  · rw [tp_get]; rfl
  · rw [tp_get]; rfl
def aX : EntV := ⟨⟨#[97]⟩, 3⟩
def awV : List ByteArray := (addO tpV 1 ⟨#[97]⟩ 3).1
theorem aw_some : (wriG noK tpV 8 (newL 2 0) 0 (bytesE (insE [] aX))).isSome = true := by kernel_rfl
theorem aw_ok : okE aX = true := by kernel_rfl
theorem aw_add : addO tpV 1 ⟨#[97]⟩ 3 = (awV, 0) ∧ DirS awV 8 1 [aX] := by
  have h := (tp_dir.add (nm := ⟨#[97]⟩) (ino := 3) aw_ok rfl).2
  rcases h with ⟨h1, _, h3⟩ | ⟨_, h | h⟩
  · refine ⟨?_, h3⟩
    show addO tpV 1 ⟨#[97]⟩ 3 = (awV, 0)
    rw [← h1]; rfl
  · have hb : (bytesE (insE [] ⟨⟨#[97]⟩, 3⟩)).length = 32 := by kernel_rfl
    rw [hb] at h
    exact absurd h.2 (by decide)
  · have h2 := h.2
    rw [tp_get] at h2
    have := aw_some
    unfold aX at this
    rw [h2] at this
    cases this
theorem aw_get : inoE awV 1 = 0 ∧ (getR awV 1).getD 3 0 = 32 := by
  have h := aw_add.2.file
  refine ⟨inoE_zero h.ok.vol h.num1 h.num2, ?_⟩
  have hs : sizeX (getR awV ((1 : Nat) : Int)) = 32 := h.size
  unfold sizeX at hs
  show (getR awV ((1 : Nat) : Int)).getD 3 0 = 32
  omega
end Go.Proofs.Ytoanladhikdcaaa

namespace Go.Proofs.Ytoanladhikdcaaa
open Go.RowKit
set_option linter.unusedVariables false
set_option linter.unusedSimpArgs false
set_option maxRecDepth 100000
set_option maxHeartbeats 4000000 in
theorem top_any (w : World) : Calls Try.prog 16 #[] w fun e w' => (∃ v, e = .returned (.tuple #[v, .bool true]) ∧ OwnRow tpV w v w') ∧ Below w.heap.size w w' := by
  have C2 : Hid (∀ w, Calls Try.prog 35 #[.int .i64 24, .int .i64 8] w fun e w' => (∃ v, e = .returned (.tuple #[v, .int .i64 0]) ∧ NewRow (fmtV 24 8) w v w') ∧ Below w.heap.size w w') := fun w => (format_any 24 8 w).mono fun e w' h => by
    unfold FmtPost at h
    rw [if_pos (show planE 24 8 = 0 by decide)] at h
    exact ⟨h.2, h.1⟩
  have C3 : Hid (∀ A c w, RowAt w w.heap.size A ((fmtV 24 8).map .string) → Calls Try.prog 36 #[.slice A (fmtV 24 8).length c, .int .i64 2, .int .i64 0] w fun e w' => (∃ v, e = .returned (.tuple #[v, .int .i64 1, .int .i64 0]) ∧ OwnRow tpV w v w') ∧ Below w.heap.size w w') := fun A c w hr => by
    have := new_ino A c (fmtV 24 8) 2 0 w (by rw [fmtV_length]; decide) hr
    rw [tp_new] at this
    exact this
  have HF : Hid ((fmtV 24 8).length ≤ maxLen) := by show _ ≤ _; rw [fmtV_length]; decide
  generalize fmtV 24 8 = f at *
  generalize tpV = g at *
  go_enter Try.func16, Try.ntmps16
  go_wp2_with fail
  refine (C2.out _).mono ?_
  rintro e w1 ⟨⟨v, rfl, hn⟩, hb1⟩
  obtain ⟨A1, c1, rfl, hr1⟩ := (hn.own HF.out).read
  have B1 := Lib.hid hb1
  have R1 := Lib.hid hr1
  clear hn hb1 hr1
  go_wp2_with fail
  refine (C3.out _ _ _ R1.out).mono ?_
  rintro e w2 ⟨⟨v, rfl, hn⟩, hb2⟩
  have B2 := Lib.hid (B1.out.trans (hb2.mono B1.out.size))
  have O2 := Lib.hid (own_low hn B1.out.size)
  clear hn hb2
  go_wp2
  go_ret2
  exact ⟨⟨_, rfl, O2.out⟩, B2.out⟩
set_option maxHeartbeats 4000000 in
theorem awake_any (w : World) : Calls Try.prog 9 #[] w fun e w' => e = .returned (.bool true) ∧ Below w.heap.size w w' := by
  have C1 := Lib.hid (top_any w)
  have HL : Hid (tpV.length ≤ 223 ∧ awV.length ≤ 223) := ⟨by have := tp_vol.len; omega, by have := aw_add.2.file.ok.vol.len; dsimp only at this; omega⟩
  have C2 : Hid (∀ A c w, RowAt w w.heap.size A (tpV.map .string) → Calls Try.prog 13 #[.slice A tpV.length c, .int .i64 1, .string ⟨#[97]⟩, .int .i64 3] w (RowCode awV 0 w)) := fun A c w hr => by
    have := add_any A c tpV 1 ⟨#[97]⟩ 3 w (by have := HL.out; omega) (by decide) hr
    rw [aw_add.1] at this
    exact this
  obtain ⟨a0, a1, a2, a3, a4, a5, a6, a7, a8, a9, a10, a11, hg⟩ := len12 (getR_len awV 1)
  have h3 := aw_get.2
  rw [hg] at h3
  have h3 : a3 = 32 := h3
  subst h3
  have C3 : Hid (∀ A c w, RowAt w w.heap.size A (awV.map .string) → Calls Try.prog 28 #[.slice A awV.length c, .int .i64 1] w fun e w' => e = .returned (.tuple #[.agg #[.int .i64 (a0 : Int), .int .i64 (a1 : Int), .int .i64 (a2 : Int), .int .i64 32, .int .i64 (a4 : Int), .int .i64 (a5 : Int), .int .i64 (a6 : Int), .int .i64 (a7 : Int), .int .i64 (a8 : Int), .int .i64 (a9 : Int), .int .i64 (a10 : Int), .int .i64 (a11 : Int)], .int .i64 0]) ∧ Below w.heap.size w w') := fun A c w hr => by
    have := get_ino A c awV 1 w (by have := HL.out; omega) hr
    rw [hg, aw_get.1] at this
    exact this
  clear hg
  generalize tpV = f at *
  generalize awV = g at *
  go_enter Try.func9, Try.ntmps9
  go_wp2_with fail
  refine C1.out.mono ?_
  rintro e w1 ⟨⟨v, rfl, hn⟩, hb1⟩
  obtain ⟨A1, c1, rfl, hr1⟩ := hn.read
  have B1 := Lib.hid hb1
  have R1 := Lib.hid hr1
  clear hn hb1 hr1 C1
  go_wp2_with fail
  refine (C2.out _ _ _ R1.out).mono ?_
  rintro e w2 ⟨⟨v, rfl, hn⟩, hb2⟩
  obtain ⟨A2, c2, rfl, hr2⟩ := hn.read
  have B2 := Lib.hid (B1.out.trans (hb2.mono B1.out.size))
  have R2 := Lib.hid hr2
  clear hn hb2 hr2
  go_wp2_with fail
  refine (C3.out _ _ _ R2.out).mono ?_
  rintro e w3 ⟨rfl, hb3⟩
  have B3 := Lib.hid (B2.out.trans (hb3.mono B2.out.size))
  clear hb3
  go_wp2
  go_ret
  exact ⟨rfl, B3.out.alloc B3.out.size _⟩
end Go.Proofs.Ytoanladhikdcaaa

namespace Go.Proofs.Ytoanladhikdcaaa
set_option linter.unusedVariables false
set_option linter.unusedSimpArgs false
set_option maxRecDepth 100000
section
variable {xs : List ByteArray} {m off n sz : Nat} {l : List Nat} {d : List UInt8}
theorem takX_room (hv : IsVol xs m) (h : 1 ≤ roomR xs) : ∃ i, freeR xs m = some i ∧ takX xs m = some (takeV xs i, i) := by
  cases hf : freeR xs m with
  | none => rw [room_full hv hf] at h; omega
  | some i => exact ⟨i, rfl, by unfold takX; rw [hf]; rfl⟩
theorem pla_some (h : OkS xs.length m (xs, l)) {k : Nat} (hk : atX xs m l k ≠ 0 ∨ 2 ≤ roomR xs) : ∃ r, plaG noK xs m l k = some r := by
  unfold plaG
  by_cases h0 : atX xs m l k ≠ 0
  · rw [if_pos h0]; exact ⟨_, rfl⟩
  · rw [if_neg h0]
    have hr := hk.resolve_left h0
    have hv : IsVol xs m := h.vol
    obtain ⟨i, hi, ht⟩ := takX_room hv (by omega)
    unfold indG
    by_cases hc : k < 6 ∨ datB xs m (l.getD 10 0) = true
    · rw [if_pos hc, Option.bind_some, ht]
      exact ⟨_, rfl⟩
    · rw [if_neg hc, ht, Option.map_some, Option.bind_some]
      obtain ⟨f1, f2, _, _, _⟩ := free_facts hv hi
      have hv2 : IsVol (takeV xs i) m := hv.take f1 f2
      have hr2 := room_take hv hi
      obtain ⟨i2, hi2, ht2⟩ := takX_room hv2 (by omega)
      show ∃ r, (takX (noK (takeV xs i) (l.set 10 i)) m).map _ = some r
      rw [show noK (takeV xs i) (l.set 10 i) = takeV xs i from rfl, ht2]
      exact ⟨_, rfl⟩
/-- how many blocks a file has whose last one is known -/
theorem cntS_le {B : Nat} (hB : ∀ s, s < 70 → atX xs m l s ≠ 0 → s < B) : cntS xs m l ≤ B + 1 := by
  unfold cntS
  have h1 : ((List.range 71).filter fun s => slotX xs m l s != 0).length ≤ ((List.range 71).filter fun s => decide (s < B) || decide (s = 70)).length := by
    rw [← List.countP_eq_length_filter, ← List.countP_eq_length_filter]
    refine List.countP_mono_left fun s hs he => ?_
    have hs := List.mem_range.1 hs
    by_cases h70 : s = 70
    · simp [h70]
    · have := hB s (by omega) (by rw [slotX_lt (by omega)] at he; simpa using he)
      simp [this]
  refine Nat.le_trans h1 ?_
  have h2 : ∀ N, ((List.range N).filter fun s => decide (s < B) || decide (s = 70)).length ≤ min N B + (if 70 < N then 1 else 0) := fun N => by
    induction N with
    | zero => simp
    | succ N ih =>
      rw [List.range_succ, List.filter_append, List.length_append]
      by_cases h1 : N < B
      · have : (List.filter (fun s => decide (s < B) || decide (s = 70)) [N]).length = 1 := by simp [h1]
        rw [this]
        split at ih <;> split <;> omega
      · by_cases h2 : N = 70
        · have : (List.filter (fun s => decide (s < B) || decide (s = 70)) [N]).length = 1 := by simp [h2]
          rw [this]
          split at ih <;> split <;> omega
        · have : (List.filter (fun s => decide (s < B) || decide (s = 70)) [N]).length = 0 := by simp [h1, h2]
          rw [this]
          split at ih <;> split <;> omega
  have := h2 71
  rw [if_pos (by omega)] at this
  omega
theorem wri_has (h : OkS xs.length m (xs, l)) (o : OwnS xs m l) : ∀ (j : Nat), off / 128 + j ≤ 70 → (∀ s, off / 128 ≤ s → s < off / 128 + j → atX xs m l s ≠ 0) → ∃ r, wriN noK m off d (xs, l) j = some r
  | 0, _, _ => ⟨_, rfl⟩
  | j + 1, hj, ha => by
    obtain ⟨q, hq⟩ := wri_has h o j (by omega) (fun s h1 h2 => ha s h1 (by omega))
    have p := wriN_mv h o j (by omega) hq
    obtain ⟨qx, ql⟩ := q
    obtain ⟨t, ht⟩ := pla_some (xs := qx) (l := ql) ⟨p.ok.vol, rfl, p.ok.fit⟩ (k := off / 128 + j) (.inl ((p.at_ _ (by omega)).2 (.inl (ha _ (by omega) (by omega)))))
    rw [wriN, hq, Option.bind_some]
    unfold wriK
    rw [ht]
    exact ⟨_, rfl⟩
theorem wri_room {B : Nat} (h : OkS xs.length m (xs, l)) (o : OwnS xs m l) (hB : ∀ s, s < 70 → atX xs m l s ≠ 0 → s < B) (hb : B ≤ 70) (hr : B + 3 ≤ roomR xs + cntS xs m l) : ∀ (j : Nat), off / 128 + j ≤ B → ∃ r, wriN noK m off d (xs, l) j = some r
  | 0, _ => ⟨_, rfl⟩
  | j + 1, hj => by
    obtain ⟨q, hq⟩ := wri_room h o hB hb hr j (by omega)
    have p := wriN_mv h o j (by omega) hq
    obtain ⟨qx, ql⟩ := q
    have hc : cntS qx m ql ≤ B + 1 := cntS_le fun s hs h0 => by
      rcases (p.at_ s hs).1 h0 with h1 | h1
      · exact hB s hs h1
      · omega
    have hm := p.mv.room
    dsimp only at hm
    obtain ⟨t, ht⟩ := pla_some (xs := qx) (l := ql) ⟨p.ok.vol, rfl, p.ok.fit⟩ (k := off / 128 + j) (.inr (by omega))
    rw [wriN, hq, Option.bind_some]
    unfold wriK
    rw [ht]
    exact ⟨_, rfl⟩
theorem wriG_some (h : ∃ r, wriN noK m off d (xs, l) (fallN off d.length) = some r) : wriG noK xs m l off d ≠ none := by
  obtain ⟨r, hr⟩ := h
  unfold wriG
  split
  · simp
  · rw [hr]; simp
/-- a write from the front on succeeds where all its blocks are there -/
theorem FileS.over {V : List ByteArray} {f : Nat → UInt8} (h : FileS V m n sz f) (hd : 0 < d.length) (hl : d.length ≤ 8960) (ha : ∀ s, s < fallN 0 d.length → atX V m (getR V (n : Int)) s ≠ 0) : (writeO V (n : Int) 0 d).2 = 0 := by
  rcases h.write hd with g | ⟨_, g | g⟩
  · exact g.1
  · omega
  · refine absurd g.2 (wriG_some (wri_has h.ok h.own _ ?_ fun s _ h2 => ha s (by omega)))
    unfold fallN
    split <;> omega
theorem FileS.roomy {V : List ByteArray} {f : Nat → UInt8} {B : Nat} (h : FileS V m n sz f) (hd : 0 < d.length) (hl : d.length ≤ 8960) (hB : ∀ s, s < 70 → atX V m (getR V (n : Int)) s ≠ 0 → s < B) (hb : B ≤ 70) (hf : fallN 0 d.length ≤ B) (hr : B + 3 ≤ roomR V + cntS V m (getR V (n : Int))) : (writeO V (n : Int) 0 d).2 = 0 := by
  rcases h.write hd with g | ⟨_, g | g⟩
  · exact g.1
  · omega
  · exact absurd g.2 (wriG_some (wri_room h.ok h.own hB hb hr _ (by omega)))
end
end Go.Proofs.Ytoanladhikdcaaa

namespace Go.Proofs.Ytoanladhikdcaaa
set_option linter.unusedVariables false
set_option linter.unusedSimpArgs false
/-- the first eight numbers of an inode -/
def dirL (l : List Nat) (k : Nat) : List Nat := [l.getD 10 0, l.getD 11 0] ++ (List.range k).map fun j => l.getD (4 + j) 0
def indL (xs : List ByteArray) (b k : Nat) : List Nat := (List.range k).map fun j => numAt (blkL xs b) (2 * j) 2
/-- all numbers of blocks of an inode -/
def numsL (xs : List ByteArray) (m : Nat) (l : List Nat) : List Nat := dirL l 6 ++ (if datB xs m (l.getD 10 0) = true then indL xs (l.getD 10 0) 64 else [])
theorem dirL_len (l : List Nat) (k : Nat) : (dirL l k).length = 2 + k := by unfold dirL; simp; omega
theorem indL_len (xs : List ByteArray) (b k : Nat) : (indL xs b k).length = k := by unfold indL; simp
theorem dirL_succ (l : List Nat) (k : Nat) : dirL l (k + 1) = dirL l k ++ [l.getD (4 + k) 0] := by
  unfold dirL
  rw [List.range_succ, List.map_append, ← List.append_assoc]; rfl
theorem indL_succ (xs : List ByteArray) (b k : Nat) : indL xs b (k + 1) = indL xs b k ++ [numAt (blkL xs b) (2 * k) 2] := by
  unfold indL
  rw [List.range_succ, List.map_append]; rfl
theorem numsL_len (xs : List ByteArray) (m : Nat) (l : List Nat) : (numsL xs m l).length ≤ 72 := by
  unfold numsL
  rw [List.length_append, dirL_len]
  split
  · rw [indL_len]; omega
  · simp
/-- no number but 0 stands at two places -/
def UnlikeL (L : List Nat) : Prop := ∀ i1 i2 z : Nat, i1 < i2 → L[i1]? = some z → L[i2]? = some z → z = 0
/-- of the first j numbers: those that are not 0 are taken, are met, and unlike -/
def UnJ (xs : List ByteArray) (L : List Nat) (ms : List Int) (j : Nat) : Prop :=
  (∀ i z : Nat, i < j → L[i]? = some z → z ≠ 0 → usedR xs (z : Int) = true ∧ (z : Int) ∈ ms) ∧ ∀ i1 i2 z : Nat, i1 < i2 → i2 < j → L[i1]? = some z → L[i2]? = some z → z = 0
theorem UnJ.zero {xs : List ByteArray} {L : List Nat} {ms : List Int} : UnJ xs L ms 0 := ⟨fun i z h => absurd h (Nat.not_lt_zero _), fun i1 i2 z _ h => absurd h (Nat.not_lt_zero _)⟩
theorem UnJ.skip {xs : List ByteArray} {L : List Nat} {ms : List Int} {j : Nat} (h : UnJ xs L ms j) (hz : L[j]? = some 0) : UnJ xs L ms (j + 1) := by
  refine ⟨fun i z hi hz2 h0 => ?_, fun i1 i2 z h12 h2 e1 e2 => ?_⟩
  · by_cases e : i = j
    · rw [e, hz] at hz2
      exact absurd (Option.some.inj hz2).symm h0
    · exact h.1 i z (by omega) hz2 h0
  · by_cases e : i2 = j
    · rw [e, hz] at e2
      exact (Option.some.inj e2).symm
    · exact h.2 i1 i2 z h12 (by omega) e1 e2
theorem UnJ.push {xs : List ByteArray} {L : List Nat} {ms : List Int} {j z : Nat} (h : UnJ xs L ms j) (hz : L[j]? = some z) (hu : usedR xs (z : Int) = true) (hn : (z : Int) ∉ ms) : UnJ xs L (ms ++ [(z : Int)]) (j + 1) := by
  refine ⟨fun i y hi hy h0 => ?_, fun i1 i2 y h12 h2 e1 e2 => ?_⟩
  · by_cases e : i = j
    · rw [e, hz] at hy
      rw [← Option.some.inj hy]
      exact ⟨hu, by simp⟩
    · have := h.1 i y (by omega) hy h0
      exact ⟨this.1, List.mem_append_left _ this.2⟩
  · by_cases e : i2 = j
    · rw [e, hz] at e2
      have e2 := Option.some.inj e2
      refine Classical.not_not.1 (fun h0 => hn ?_)
      have := (h.1 i1 y (by omega) e1 h0).2
      rw [e2]; exact this
    · exact h.2 i1 i2 y h12 (by omega) e1 e2
/-- each number that these inodes name is that of a block which is taken, and an inode names none twice -/
def SndU (xs : List ByteArray) (m : Nat) (ns : List Nat) : Prop := ∀ n ∈ ns, (∀ z ∈ numsL xs m (getR xs (n : Int)), z ≠ 0 → usedR xs (z : Int) = true) ∧ UnlikeL (numsL xs m (getR xs (n : Int)))
theorem SndU.snoc {xs : List ByteArray} {m n : Nat} {ns : List Nat} (h : SndU xs m ns) (hn : (∀ z ∈ numsL xs m (getR xs (n : Int)), z ≠ 0 → usedR xs (z : Int) = true) ∧ UnlikeL (numsL xs m (getR xs (n : Int)))) : SndU xs m (ns ++ [n]) := by
  intro k hk
  rcases List.mem_append.1 hk with h1 | h1
  · exact h k h1
  · rw [List.mem_singleton.1 h1]; exact hn
theorem UnJ.all {xs : List ByteArray} {L : List Nat} {ms : List Int} {j : Nat} (h : UnJ xs L ms j) (hj : j = L.length) : (∀ z ∈ L, z ≠ 0 → usedR xs (z : Int) = true) ∧ UnlikeL L := by
  refine ⟨fun z hz h0 => ?_, fun i1 i2 z h12 e1 e2 => ?_⟩
  · obtain ⟨i, hi⟩ := List.mem_iff_getElem?.1 hz
    exact (h.1 i z (by rw [hj]; exact (List.getElem?_eq_some_iff.1 hi).1) hi h0).1
  · exact h.2 i1 i2 z h12 (by rw [hj]; exact (List.getElem?_eq_some_iff.1 e2).1) e1 e2
theorem usedR_bit {xs : List ByteArray} {m z : Nat} (hv : IsVol xs m) (h : usedR xs (z : Int) = true) : bitV xs z = true := by
  unfold usedR at h
  rw [ofR_some.2 hv] at h
  have := (Bool.and_eq_true_iff.1 h).2
  rw [Int.toNat_natCast] at this
  exact this
theorem slot_mem {xs : List ByteArray} {m : Nat} {l : List Nat} {s : Nat} (hs : s < 71) (h0 : slotX xs m l s ≠ 0) : slotX xs m l s ∈ numsL xs m l := by
  unfold numsL
  by_cases h70 : s = 70
  · subst h70
    obtain ⟨_, e⟩ := slot_ind_ne h0
    rw [e]
    unfold dirL
    simp
  · rw [slotX_lt (by omega)] at h0 ⊢
    by_cases h6 : s < 6
    · rw [at_low h6] at h0 ⊢
      split at h0
      · rename_i hd
        rw [if_pos hd]
        unfold dirL
        simp only [List.mem_append, List.mem_map, List.mem_range]
        exact .inl (.inr ⟨s, h6, rfl⟩)
      · exact absurd rfl h0
    · have hi : slotX xs m l 70 ≠ 0 := fun e => h0 (at_hi0 (by omega) e)
      obtain ⟨hd, e⟩ := slot_ind_ne hi
      rw [at_hi (by omega) hi, e] at h0 ⊢
      split at h0
      · rename_i hd2
        rw [if_pos hd2, if_pos hd]
        unfold indL
        simp only [List.mem_append, List.mem_map, List.mem_range]
        exact .inr ⟨s - 6, by omega, rfl⟩
      · exact absurd rfl h0
theorem SndU.used {xs : List ByteArray} {m n : Nat} {ns : List Nat} (h : SndU xs m ns) (hv : IsVol xs m) (hn : n ∈ ns) : ∀ s, s < 71 → slotX xs m (getR xs (n : Int)) s ≠ 0 → bitV xs (slotX xs m (getR xs (n : Int)) s) = true :=
  fun s hs h0 => usedR_bit hv ((h n hn).1 _ (slot_mem hs h0) h0)
/-- where a slot's number stands -/
def posS (s : Nat) : Nat := if s = 70 then 0 else 2 + s
theorem slot_pos {xs : List ByteArray} {m : Nat} {l : List Nat} {s : Nat} (hs : s < 71) (h0 : slotX xs m l s ≠ 0) : (numsL xs m l)[posS s]? = some (slotX xs m l s) := by
  unfold numsL posS
  by_cases h70 : s = 70
  · subst h70
    obtain ⟨_, e⟩ := slot_ind_ne h0
    rw [e, if_pos rfl]
    rfl
  · rw [if_neg h70]
    rw [slotX_lt (by omega)] at h0 ⊢
    by_cases h6 : s < 6
    · rw [at_low h6] at h0 ⊢
      split at h0
      · rename_i hd
        rw [if_pos hd, List.getElem?_append_left (by rw [dirL_len]; omega)]
        unfold dirL
        rw [List.getElem?_append_right (by simp)]
        simp [h6]
      · exact absurd rfl h0
    · have hi : slotX xs m l 70 ≠ 0 := fun e => h0 (at_hi0 (by omega) e)
      obtain ⟨hd, e⟩ := slot_ind_ne hi
      rw [at_hi (by omega) hi, e] at h0 ⊢
      split at h0
      · rename_i hd2
        rw [if_pos hd2, if_pos hd, List.getElem?_append_right (by rw [dirL_len]; omega), dirL_len]
        unfold indL
        rw [show 2 + s - (2 + 6) = s - 6 by omega, List.getElem?_map, List.getElem?_range (by omega)]
        rfl
      · exact absurd rfl h0
theorem SndU.inj {xs : List ByteArray} {m n : Nat} {ns : List Nat} (h : SndU xs m ns) (hn : n ∈ ns) : ∀ s t, s < 71 → t < 71 → slotX xs m (getR xs (n : Int)) s = slotX xs m (getR xs (n : Int)) t → slotX xs m (getR xs (n : Int)) s ≠ 0 → s = t := fun s t hs ht e h0 => by
  have p1 := slot_pos hs h0
  have p2 := slot_pos ht (by rw [← e]; exact h0)
  rw [← e] at p2
  have hu := (h n hn).2
  rcases Nat.lt_trichotomy (posS s) (posS t) with h1 | h1 | h1
  · exact absurd (hu _ _ _ h1 p1 p2) h0
  · unfold posS at h1
    split at h1 <;> split at h1 <;> omega
  · exact absurd (hu _ _ _ h1 p2 p1) h0
end Go.Proofs.Ytoanladhikdcaaa

namespace Go.Proofs.Ytoanladhikdcaaa
set_option linter.unusedVariables false
set_option linter.unusedSimpArgs false
set_option maxRecDepth 100000
section
variable {V : List ByteArray} {m n : Nat} {E : List EntV}
theorem mem_allR {k : Nat} (h1 : 1 ≤ k) (hk : kindR V k ≠ 0) : ∀ M, k ≤ M → k ∈ allR V M
  | 0, h => absurd h (by omega)
  | M + 1, h => by
    rw [allR_succ, List.mem_append]
    by_cases e : k = M + 1
    · right
      rw [← e, if_pos (by simpa using hk)]
      simp
    · exact .inl (mem_allR h1 hk M (by omega))
theorem kind_get (hv : IsVol V m) (h1 : 1 ≤ n) (h2 : n ≤ m) : (getR V (n : Int)).getD 0 0 = kindR V n := by
  rw [getR_vol hv h1 h2]
  rfl
/-- what a listing with no error tells of a volume that is sound -/
theorem dir_of (hv : IsVol V m) (hU : SndU V m (allO V)) {z : Int} (hl : (listO V z).2 = 0) : ∃ k : Nat, z = (k : Int) ∧ DirS V m k (listO V z).1 := by
  have h0 : inoE V z = 0 := by
    refine Classical.not_not.1 (fun h => ?_)
    unfold listO at hl
    rw [if_pos h] at hl
    exact h hl
  obtain ⟨m2, k, hv2, rfl, h1, h2, _⟩ := inoE_ok h0
  obtain rfl : m = m2 := by
    have e1 := ofR_some.2 hv
    have e2 := ofR_some.2 hv2
    rw [e1] at e2
    exact Option.some.inj e2
  refine ⟨k, rfl, ?_⟩
  have hvalid := listO_valid (xs := V) (n := (k : Int))
  unfold listO at hl hvalid ⊢
  rw [if_neg (by rw [h0]; simp)] at hl hvalid ⊢
  by_cases hk : (getR V (k : Int)).getD 0 0 = 2
  · rw [if_neg (by rw [hk]; simp)] at hl hvalid ⊢
    have hn : k ∈ allO V := by
      unfold allO
      rw [ofR_some.2 hv]
      exact mem_allR h1 (by rw [← kind_get hv h1 h2, hk]; decide) _ h2
    have hr : readO V (k : Int) 0 8960 = ((List.range (sizeX (getR V (k : Int)))).map (byteX V m (getR V (k : Int))), 0) := by
      unfold readO
      rw [if_neg (by rw [h0]; simp), if_neg (by omega), mO_vol hv]
      unfold readX spanX
      have := sizeX_le (getR V (k : Int))
      rw [show min ((0 : Int).toNat + (8960 : Int).toNat) (sizeX (getR V (k : Int))) - (0 : Int).toNat = sizeX (getR V (k : Int)) by show min (0 + 8960) _ - 0 = _; omega]
      congr 1
      rw [List.range_eq_range']
      rfl
    rw [hr] at hl hvalid ⊢
    dsimp only at hl hvalid ⊢
    cases he : entsO ((List.range (sizeX (getR V (k : Int)))).map (byteX V m (getR V (k : Int)))) with
    | none => rw [he] at hl; exact absurd hl (by decide)
    | some l =>
      rw [he] at hvalid
      obtain ⟨e1, e2, e3⟩ := entsO_some he
      rw [List.length_map, List.length_range] at e3
      refine ⟨⟨h1, h2, ⟨hv, rfl, getR_fit hv h1 h2⟩, ⟨hU.used hv hn, hU.inj hn⟩, hk, e3, fun i hi => ?_⟩, e2⟩
      show _ = (bytesE l).getD i 0
      rw [e1, List.getD_eq_getElem?_getD, List.getElem?_map, List.getElem?_range (by rw [e3]; exact hi)]
      rfl
  · rw [if_pos hk] at hl
    exact absurd hl (by decide)
/-! ### rows -/
theorem mem_insE {x y : EntV} : y ∈ insE E x ↔ y = x ∨ y ∈ E := by
  unfold insE
  rw [List.mem_append, List.mem_cons]
  have := List.take_append_drop (atE E x.name) E
  constructor
  · rintro (h | h | h)
    · exact .inr (List.mem_of_mem_take h)
    · exact .inl h
    · exact .inr (List.mem_of_mem_drop h)
  · rintro (h | h)
    · exact .inr (.inl h)
    · rw [← this] at h
      rcases List.mem_append.1 h with h | h
      · exact .inl h
      · exact .inr (.inr h)
theorem has_insE {x : EntV} {nm : ByteArray} : hasE (insE E x) nm = (decide (x.name = nm) || hasE E nm) := by
  rw [Bool.eq_iff_iff, Bool.or_eq_true]
  unfold hasE
  rw [List.any_eq_true, List.any_eq_true]
  constructor
  · rintro ⟨y, hy, h⟩
    rcases mem_insE.1 hy with rfl | hy
    · exact .inl h
    · exact .inr ⟨y, hy, h⟩
  · rintro (h | ⟨y, hy, h⟩)
    · exact ⟨x, mem_insE.2 (.inl rfl), h⟩
    · exact ⟨y, mem_insE.2 (.inr hy), h⟩
/-- in a valid row a name has one number -/
theorem get_mem (h : ValidE E) {y : EntV} (hy : y ∈ E) : getE E y.name = y.ino := by
  obtain ⟨k, hk, rfl⟩ := List.mem_iff_getElem.1 hy
  refine getE_at2 hk (fun j hj e => ?_) rfl
  have := List.pairwise_iff_getElem.1 h.rise j k (by omega) hk hj
  rw [e, ltB_irrefl] at this
  cases this
  where
  getE_at2 {l : List EntV} {nm : ByteArray} {k : Nat} (hk : k < l.length) (h : ∀ j (hj : j < k), l[j].name ≠ nm) (e : l[k].name = nm) : getE l nm = l[k].ino := by
    have hs : l = l.take k ++ l[k] :: l.drop (k + 1) := by rw [List.getElem_cons_drop, List.take_append_drop]
    unfold getE
    have hf : (l.take k).find? (fun x => decide (x.name = nm)) = none := by
      rw [List.find?_eq_none]
      intro x hx
      obtain ⟨j, hj, rfl⟩ := List.mem_iff_getElem.1 hx
      rw [List.length_take] at hj
      rw [List.getElem_take]
      simpa using h j (by omega)
    generalize hz : l[k] = z at *
    rw [hs, List.find?_append, hf, List.find?_cons_of_pos (by simp [e])]
    rfl
theorem outE_insE {x : EntV} (hh : hasE E x.name = false) : outE (insE E x) x.name = E := by
  have hne : ∀ y ∈ E, y.name ≠ x.name := fun y hy e => by
    unfold hasE at hh
    rw [List.any_eq_false] at hh
    have := hh y hy
    simp [e] at this
  unfold outE insE
  rw [List.filter_append, List.filter_cons_of_neg (by simp), ← List.filter_append, List.take_append_drop]
  exact List.filter_eq_self.2 fun y hy => by simp [hne y hy]
theorem find_dir (h : DirS V m n E) {nm : ByteArray} (hm : mayB nm.data.toList = true) : findO V (n : Int) nm = if hasE E nm = true then (getE E nm, 0) else (0, 9) := by
  unfold findO
  rw [if_neg (by rw [hm]; simp), h.list]
  dsimp only
  rw [if_neg (by simp)]
/-- what a drop does to a directory that has the name, where the shorter row can be written -/
theorem DirS.drop (h : DirS V m n E) {nm : ByteArray} (hm : mayB nm.data.toList = true) (hh : hasE E nm = true) (hw : outE E nm ≠ [] → (writeO V (n : Int) 0 (bytesE (outE E nm))).2 = 0) :
    (dropO V (n : Int) nm).2 = 0 ∧ DirS (dropO V (n : Int) nm).1 m n (outE E nm) := by
  have hlt : (outE E nm).length < E.length := by
    obtain ⟨hk, e⟩ := (at_has h.valid.rise).1 hh
    rw [at_out h.valid.rise hk e, List.length_append, List.length_take, List.length_drop]
    omega
  unfold dropO
  rw [if_neg (by rw [hm]; simp), h.list]
  dsimp only
  rw [if_neg (by simp), if_neg (by rw [hh]; simp)]
  by_cases h0 : outE E nm = []
  · rw [if_pos h0, h0]
    exact h.none (by omega)
  · rw [if_neg h0, if_neg (by rw [hw h0]; simp)]
    refine h.less (outE_valid h.valid nm) hlt ?_ (hw h0)
    cases hx : outE E nm with
    | nil => exact absurd hx h0
    | cons _ _ => simp
/-- what was written is there -/
theorem WroS.full {r : List ByteArray × List Nat} {l : List Nat} {d : List UInt8} (h : WroS m 0 d V l r) (hd : d ≠ []) {s : Nat} (hs : s < 70) (h1 : s ≤ (d.length - 1) / 128) : atX r.1 m r.2 s ≠ 0 :=
  (h.at_ s hs).2 (.inr ⟨hd, Nat.zero_le _, by rw [Nat.zero_add]; exact h1⟩)
theorem keeps (hv : IsVol V m) (hU : SndU V m (allO V)) {z : Int} {nm ot : ByteArray} {ino : Int} (hne : nm ≠ ot) (ha : (addO V z nm ino).2 = 0) :
    findO (addO V z nm ino).1 z nm = (ino, 0) ∧ findO (addO V z nm ino).1 z ot = findO V z ot ∧ (dropO (addO V z nm ino).1 z nm).2 = 0 ∧ (findO (dropO (addO V z nm ino).1 z nm).1 z nm).2 = 9 ∧ listO (dropO (addO V z nm ino).1 z nm).1 z = ((listO V z).1, 0) ∧
      (addO V z nm ino).1.length ≤ 1000000 ∧ (dropO (addO V z nm ino).1 z nm).1.length ≤ 1000000 := by
  have hm : mayB nm.data.toList = true := by
    cases h : mayB nm.data.toList with
    | true => rfl
    | false => unfold addO at ha; rw [if_pos h] at ha; exact absurd ha (by decide)
  have hi : ¬ (ino < 1 ∨ 64 < ino) := fun h => by
    unfold addO at ha
    rw [if_neg (by rw [hm]; simp), if_pos h] at ha
    exact absurd ha (by decide)
  have hl : (listO V z).2 = 0 := by
    refine Classical.not_not.1 (fun h => ?_)
    unfold addO at ha
    rw [if_neg (by rw [hm]; simp), if_neg hi, if_pos h] at ha
    exact h ha
  have hh : hasE (listO V z).1 nm = false := by
    cases h : hasE (listO V z).1 nm with
    | false => rfl
    | true =>
      unfold addO at ha
      rw [if_neg (by rw [hm]; simp), if_neg hi, if_neg (by rw [hl]; simp), if_pos h] at ha
      exact absurd ha (by decide)
  obtain ⟨n, rfl, hD⟩ := dir_of hv hU hl
  generalize (listO V (n : Int)).1 = E at *
  have hk : okE ⟨nm, ino⟩ = true := by
    unfold okE
    dsimp only
    rw [hm, Bool.true_and, decide_eq_true_iff]
    omega
  obtain ⟨e1, e2⟩ := hD.add hk hh
  rcases e2 with ⟨_, ⟨r, hr, hput⟩, hW⟩ | ⟨_, h | h⟩
  · have hWv := hW.valid
    have hlenI := insE_len E ⟨nm, ino⟩
    have hWl := hW.file.small
    generalize hWo : (addO V (n : Int) nm ino).1 = W at *
    have f1 : findO W (n : Int) nm = (ino, 0) := by
      rw [find_dir hW hm, if_pos (by rw [has_insE]; simp), get_mem hWv (y := ⟨nm, ino⟩) (mem_insE.2 (.inl rfl))]
    have f2 : findO W (n : Int) ot = findO V (n : Int) ot := by
      cases hmo : mayB ot.data.toList with
      | false => unfold findO; rw [if_pos hmo, if_pos hmo]
      | true =>
        rw [find_dir hW hmo, find_dir hD hmo, has_insE]
        have : decide ((⟨nm, ino⟩ : EntV).name = ot) = false := decide_eq_false hne
        rw [this, Bool.false_or]
        cases hho : hasE E ot with
        | false => rfl
        | true =>
          rw [if_pos rfl, if_pos rfl]
          unfold hasE at hho
          obtain ⟨y, hy, e⟩ := List.any_eq_true.1 hho
          obtain rfl := of_decide_eq_true e
          rw [get_mem hD.valid hy, get_mem hWv (mem_insE.2 (.inr hy))]
    have ho : outE (insE E ⟨nm, ino⟩) nm = E := outE_insE (x := ⟨nm, ino⟩) hh
    have hdr := hW.drop (nm := nm) hm (by rw [has_insE]; simp) (fun h0 => by
      rw [ho] at h0 ⊢
      have hb := bytesE_len hD.valid.ok
      have hb2 := bytesE_len hWv.ok
      have h0l : 0 < E.length := by cases hE : E with
        | nil => exact absurd hE h0
        | cons _ _ => simp
      refine hW.file.over (by omega) (by omega) fun s hs => ?_
      have hvW := hr.mv.vol
      rw [hput, get_put_same hvW hD.file.num1 hD.file.num2 hr.ok.fit, atX_put hvW hD.file.num1 hD.file.num2]
      unfold fallN at hs
      rw [if_neg (by omega)] at hs
      refine hr.full (fun e => ?_) (by omega) ?_
      · rw [e] at hb2; simp at hb2; omega
      · rw [hb2]; omega)
    rw [ho] at hdr
    obtain ⟨g1, g2⟩ := hdr
    have n0 := hW.file.ok.vol.len
    have n1 := g2.file.ok.vol.len
    dsimp only at n0 n1
    refine ⟨f1, f2, g1, ?_, g2.list, by omega, by omega⟩
    rw [find_dir g2 hm, if_neg (by rw [hh]; simp)]
  · rw [h.1] at ha; exact absurd ha (by decide)
  · rw [h.1] at ha; exact absurd ha (by decide)
end
end Go.Proofs.Ytoanladhikdcaaa

namespace Go.Proofs.Ytoanladhikdcaaa
set_option linter.unusedVariables false
set_option linter.unusedSimpArgs false
set_option maxRecDepth 100000
section
variable {V : List ByteArray} {m n sz K size : Nat} {l : List Nat} {E : List EntV} {d : List UInt8}
/-- a file whose blocks are just those that its size needs -/
structure FileR (V : List ByteArray) (m n sz K : Nat) : Prop where
  at_ : ∀ s, s < 70 → (atX V m (getR V (n : Int)) s ≠ 0 ↔ s < needN sz)
  ind : slotX V m (getR V (n : Int)) 70 ≠ 0 ↔ 6 < needN sz
  room : roomR V + cntS V m (getR V (n : Int)) = K
theorem FileR.put {ys : List ByteArray} {l' : List Nat} {sz' : Nat} (hv : IsVol ys m) (h1 : 1 ≤ n) (h2 : n ≤ m) (hf : FitN l') (ha : ∀ s, s < 70 → (atX ys m l' s ≠ 0 ↔ s < needN sz')) (hi : slotX ys m l' 70 ≠ 0 ↔ 6 < needN sz') (hr : roomR ys + cntS ys m l' = K) : FileR (putV ys n l') m n sz' K := by
  have hg : getR (putV ys n l') (n : Int) = l' := get_put_same hv h1 h2 hf
  refine ⟨fun s hs => ?_, ?_, ?_⟩
  · rw [hg, atX_put hv h1 h2]; exact ha s hs
  · rw [hg, slotX_put hv h1 h2]; exact hi
  · rw [hg, roomR_put hv h1 h2, cntS_put hv h1 h2]; exact hr
theorem FileR.write {r : List ByteArray × List Nat} (h : FileR V m n sz K) (h1 : 1 ≤ n) (h2 : n ≤ m) (w : WroS m 0 d V (getR V (n : Int)) r) (hd : d ≠ []) : FileR (putV r.1 n r.2) m n (max sz d.length) K := by
  have hd0 : 0 < d.length := by cases d with
    | nil => exact absurd rfl hd
    | cons _ _ => simp
  refine .put w.mv.vol h1 h2 w.ok.fit (fun s hs => ?_) ?_ (by rw [← w.mv.room]; exact h.room)
  · rw [w.at_ s hs, h.at_ s hs]
    unfold needN
    constructor
    · rintro (h | h)
      · omega
      · omega
    · intro h
      by_cases e : s < (sz + 127) / 128
      · exact .inl e
      · exact .inr ⟨hd, by omega, by omega⟩
  · rw [w.ind, h.ind]
    unfold needN
    constructor
    · rintro (h | h)
      · omega
      · omega
    · intro h
      by_cases e : 6 < (sz + 127) / 128
      · exact .inl e
      · exact .inr ⟨hd, by omega⟩
theorem FileR.cut {r : List ByteArray × List Nat} (h : FileR V m n sz K) (h1 : 1 ≤ n) (h2 : n ≤ m) (w : CutS m size V (getR V (n : Int)) r) (hs : size < sz) (h8 : sz ≤ 8960) : FileR (putV r.1 n r.2) m n size K := by
  have hat : ∀ s, s < 70 → (atX r.1 m r.2 s ≠ 0 ↔ s < needN size) := fun s hs70 => by
    rw [w.at_ s hs70]
    by_cases e : s < needN size
    · rw [if_pos e, h.at_ s hs70]
      unfold needN at e ⊢
      omega
    · rw [if_neg e]
      exact ⟨fun h => absurd rfl h, fun h => absurd h e⟩
  refine .put w.mv.vol h1 h2 w.ok.fit hat ⟨fun h0 => ?_, fun h6 h0 => ?_⟩ (by rw [← w.mv.room]; exact h.room)
  · have := (w.ind h0).2
    unfold needN
    omega
  · exact (hat 6 (by omega)).2 h6 (at_hi0 (by omega) h0)
/-- how many blocks -/
theorem FileR.cnt (h : FileR V m n sz K) (hs : sz ≤ 8960) : cntS V m (getR V (n : Int)) = needN sz + if 6 < needN sz then 1 else 0 := by
  have hq : needN sz ≤ 70 := by unfold needN; omega
  have h2 : ∀ N, N ≤ 70 → ((List.range N).filter fun s => slotX V m (getR V (n : Int)) s != 0).length = min N (needN sz) := fun N hN => by
    induction N with
    | zero => simp
    | succ N ih =>
      rw [List.range_succ, List.filter_append, List.length_append, ih (by omega)]
      have := h.at_ N (by omega)
      by_cases e : N < needN sz
      · have h3 : slotX V m (getR V (n : Int)) N ≠ 0 := by rw [slotX_lt (by omega)]; exact this.2 e
        have : (List.filter (fun s => slotX V m (getR V (n : Int)) s != 0) [N]).length = 1 := by simp [h3]
        omega
      · have h3 : slotX V m (getR V (n : Int)) N = 0 := by rw [slotX_lt (by omega)]; exact Classical.not_not.1 (fun h => e (this.1 h))
        have : (List.filter (fun s => slotX V m (getR V (n : Int)) s != 0) [N]).length = 0 := by simp [h3]
        omega
  unfold cntS
  rw [show (71 : Nat) = 70 + 1 from rfl, List.range_succ, List.filter_append, List.length_append, h2 70 (Nat.le_refl _)]
  by_cases e : 6 < needN sz
  · have h3 := h.ind.2 e
    have : (List.filter (fun s => slotX V m (getR V (n : Int)) s != 0) [70]).length = 1 := by simp [h3]
    rw [if_pos e]
    omega
  · have h3 : slotX V m (getR V (n : Int)) 70 = 0 := Classical.not_not.1 (fun h4 => e (h.ind.1 h4))
    have : (List.filter (fun s => slotX V m (getR V (n : Int)) s != 0) [70]).length = 0 := by simp [h3]
    rw [if_neg e]
    omega
/-- a directory with just its blocks -/
structure DirR (V : List ByteArray) (m n K : Nat) (E : List EntV) : Prop where
  dir : DirS V m n E
  blk : FileR V m n (32 * E.length) K
theorem DirR.room (h : DirR V m n K E) : roomR V + (needN (32 * E.length) + if 6 < needN (32 * E.length) then 1 else 0) = K := by
  rw [← h.blk.cnt h.dir.file.small]
  exact h.blk.room
theorem DirR.add (h : DirR V m n K E) {nm : ByteArray} {ino : Int} (hk : okE ⟨nm, ino⟩ = true) (hh : hasE E nm = false) (hl : E.length < 41) (hK : 14 ≤ K) :
    (addO V (n : Int) nm ino).2 = 0 ∧ DirR (addO V (n : Int) nm ino).1 m n K (insE E ⟨nm, ino⟩) := by
  have hv := insE_valid (x := ⟨nm, ino⟩) h.dir.valid hk hh
  have hb := bytesE_len hv.ok
  have hlen := insE_len E ⟨nm, ino⟩
  rw [hlen] at hb
  obtain ⟨e1, e2⟩ := h.dir.add hk hh
  have hok : (writeO V (n : Int) 0 (bytesE (insE E ⟨nm, ino⟩))).2 = 0 := by
    refine h.dir.file.roomy (B := 11) (by omega) (by omega) (fun s hs h0 => ?_) (by omega) ?_ (by rw [h.blk.room]; exact hK)
    · have := (h.blk.at_ s hs).1 h0
      unfold needN at this
      omega
    · unfold fallN
      split <;> omega
  rw [← e1] at hok
  rcases e2 with ⟨_, ⟨r, hr, hp⟩, hD⟩ | ⟨_, g | g⟩
  · refine ⟨hok, hD, ?_⟩
    rw [hp, hlen]
    have := h.blk.write h.dir.file.num1 h.dir.file.num2 hr (fun e => by rw [e] at hb; simp at hb)
    rw [hb, show max (32 * E.length) (32 * (E.length + 1)) = 32 * (E.length + 1) by omega] at this
    exact this
  · rw [g.1] at hok; exact absurd hok (by decide)
  · rw [g.1] at hok; exact absurd hok (by decide)
theorem outE_len (h : ValidE E) {nm : ByteArray} (hh : hasE E nm = true) : (outE E nm).length + 1 = E.length := by
  obtain ⟨hk, e⟩ := (at_has h.rise).1 hh
  rw [at_out h.rise hk e, List.length_append, List.length_take, List.length_drop]
  omega
theorem DirR.drop (h : DirR V m n K E) {nm : ByteArray} (hm : mayB nm.data.toList = true) (hh : hasE E nm = true) :
    (dropO V (n : Int) nm).2 = 0 ∧ DirR (dropO V (n : Int) nm).1 m n K (outE E nm) := by
  have hlt := outE_len h.dir.valid hh
  have hb := bytesE_len (outE_valid h.dir.valid nm).ok
  have h8 := h.dir.file.small
  have hw : outE E nm ≠ [] → (writeO V (n : Int) 0 (bytesE (outE E nm))).2 = 0 := fun h0 => by
    have hl0 : 0 < (outE E nm).length := by cases hx : outE E nm with
      | nil => exact absurd hx h0
      | cons _ _ => simp
    refine h.dir.file.over (by omega) (by omega) fun s hs => ?_
    unfold fallN at hs
    rw [if_neg (by omega)] at hs
    refine (h.blk.at_ s (by omega)).2 ?_
    unfold needN
    omega
  obtain ⟨d1, d2⟩ := h.dir.drop hm hh hw
  refine ⟨d1, d2, ?_⟩
  unfold dropO
  rw [if_neg (by rw [hm]; simp), h.dir.list]
  dsimp only
  rw [if_neg (by simp), if_neg (by rw [hh]; simp)]
  by_cases h0 : outE E nm = []
  · rw [if_pos h0, h0]
    obtain ⟨_, ⟨r, hr, hp⟩, _⟩ := h.dir.file.cut (size := 0) (by omega)
    show FileR (cutO V (n : Int) ((0 : Nat) : Int)).1 m n 0 K
    rw [hp]
    exact h.blk.cut h.dir.file.num1 h.dir.file.num2 hr (by omega) h8
  · rw [if_neg h0, if_neg (by rw [hw h0]; simp)]
    have hl0 : 0 < (outE E nm).length := by cases hx : outE E nm with
      | nil => exact absurd hx h0
      | cons _ _ => simp
    have hd0 : bytesE (outE E nm) ≠ [] := fun e => by rw [e] at hb; simp at hb; omega
    rcases h.dir.file.write (d := bytesE (outE E nm)) (by omega) with ⟨_, _, ⟨r, hr, hp⟩, hF⟩ | ⟨_, g | g⟩
    · have hR := h.blk.write h.dir.file.num1 h.dir.file.num2 hr hd0
      rw [← hp] at hR
      rw [hb, show max (32 * E.length) (32 * (outE E nm).length) = 32 * E.length by omega] at hR hF
      obtain ⟨_, ⟨r2, hr2, hp2⟩, _⟩ := hF.cut (size := 32 * (outE E nm).length) (by omega)
      rw [hp2]
      exact hR.cut h.dir.file.num1 h.dir.file.num2 hr2 (by omega) h8
    · have := hw h0; rw [g.1] at this; exact absurd this (by decide)
    · have := hw h0; rw [g.1] at this; exact absurd this (by decide)
theorem tp_dirR : DirR tpV 8 1 17 [] := by
  have hs := new_slot0 tpV 8 2 0
  have h0 : needN (32 * ([] : List EntV).length) = 0 := rfl
  refine ⟨tp_dir, ⟨fun s hs70 => ?_, ?_, ?_⟩⟩
  · rw [tp_get, h0]
    have := hs s
    rw [slotX_lt hs70] at this
    exact ⟨fun h => absurd this h, fun h => absurd h (Nat.not_lt_zero _)⟩
  · rw [tp_get, h0]
    exact ⟨fun h => absurd (hs 70) h, fun h => absurd h (Nat.not_lt_zero _)⟩
  · have hc : cntS tpV 8 (getR tpV ((1 : Nat) : Int)) = 0 := by
      rw [tp_get]
      unfold cntS
      rw [List.filter_eq_nil_iff.2 (fun s _ => by rw [hs s]; simp)]
      rfl
    rw [hc]
    have : roomR tpV = roomR (fmtV 24 8) := roomR_put (fmtV_vol tp_plan) (by decide) (by decide) _
    rw [this, fmtV_room tp_plan]
    decide
/-! ### rows -/
theorem mem_outE {y : EntV} {nm : ByteArray} : y ∈ outE E nm ↔ y ∈ E ∧ y.name ≠ nm := by
  unfold outE
  rw [List.mem_filter]
  simp
theorem has_outE {nm ot : ByteArray} : hasE (outE E nm) ot = (hasE E ot && !decide (ot = nm)) := by
  rw [Bool.eq_iff_iff, Bool.and_eq_true]
  unfold hasE
  rw [List.any_eq_true, List.any_eq_true]
  constructor
  · rintro ⟨y, hy, h⟩
    obtain ⟨h1, h2⟩ := mem_outE.1 hy
    have e := of_decide_eq_true h
    exact ⟨⟨y, h1, h⟩, by rw [← e]; simpa using h2⟩
  · rintro ⟨⟨y, hy, h⟩, h2⟩
    have e := of_decide_eq_true h
    exact ⟨y, mem_outE.2 ⟨hy, by rw [e]; simpa using h2⟩, h⟩
/-- two valid rows with the same entries are one -/
theorem valid_ext : ∀ {E F : List EntV}, (E.Pairwise fun x y => ltB x.name y.name = true) → (F.Pairwise fun x y => ltB x.name y.name = true) → (∀ y, y ∈ E ↔ y ∈ F) → E = F
  | [], [], _, _, _ => rfl
  | [], y :: F, _, _, h => by have := (h y).2 (by simp); simp at this
  | x :: E, [], _, _, h => by have := (h x).1 (by simp); simp at this
  | x :: E, y :: F, hE, hF, h => by
    have hE := List.pairwise_cons.1 hE
    have hF := List.pairwise_cons.1 hF
    have hxy : x = y := by
      rcases List.mem_cons.1 ((h x).1 (by simp)) with e | hx
      · exact e
      · rcases List.mem_cons.1 ((h y).2 (by simp)) with e | hy
        · exact e.symm
        · have := ltB_trans (hE.1 y hy) (hF.1 x hx)
          rw [ltB_irrefl] at this
          cases this
    subst hxy
    congr 1
    refine valid_ext hE.2 hF.2 fun z => ?_
    have hz := h z
    constructor
    · intro hzE
      rcases List.mem_cons.1 (hz.1 (by simp [hzE])) with e | h2
      · have := hE.1 z hzE
        rw [e, ltB_irrefl] at this
        cases this
      · exact h2
    · intro hzF
      rcases List.mem_cons.1 (hz.2 (by simp [hzF])) with e | h2
      · have := hF.1 z hzF
        rw [e, ltB_irrefl] at this
        cases this
      · exact h2
end
end Go.Proofs.Ytoanladhikdcaaa

namespace Go.Proofs.Ytoanladhikdcaaa
set_option linter.unusedVariables false
set_option linter.unusedSimpArgs false
set_option maxRecDepth 100000
/-- the directory has just these entries -/
def SetE (V : List ByteArray) (xs : List EntV) : Prop := ∃ E, DirR V 8 1 17 E ∧ E.length = xs.length ∧ ∀ y, y ∈ E ↔ y ∈ xs
theorem SetE.start : SetE tpV [] := ⟨[], tp_dirR, rfl, fun y => Iff.rfl⟩
theorem SetE.vol {V : List ByteArray} {xs : List EntV} (h : SetE V xs) : V.length ≤ 223 := by
  obtain ⟨E, h, _⟩ := h
  have := h.dir.file.ok.vol.len
  dsimp only at this
  omega
theorem has_none {E xs : List EntV} {nm : ByteArray} (he : ∀ y, y ∈ E ↔ y ∈ xs) (hn : ∀ y ∈ xs, y.name ≠ nm) : hasE E nm = false := by
  unfold hasE
  rw [List.any_eq_false]
  intro y hy
  simpa using hn y ((he y).1 hy)
theorem SetE.step {V : List ByteArray} {xs : List EntV} {x : EntV} (h : SetE V xs) (hk : okE x = true) (hn : ∀ y ∈ xs, y.name ≠ x.name) (hl : xs.length < 41) : (addO V 1 x.name x.ino).2 = 0 ∧ SetE (addO V 1 x.name x.ino).1 (xs ++ [x]) := by
  obtain ⟨E, hD, hlen, he⟩ := h
  obtain ⟨a, b⟩ := hD.add (nm := x.name) (ino := x.ino) hk (has_none he hn) (by omega) (by decide)
  refine ⟨a, _, b, by rw [insE_len, hlen]; simp, fun y => ?_⟩
  rw [mem_insE, he y, List.mem_append, List.mem_singleton]
  exact or_comm
/-- the row has just these entries -/
def RowE (E xs : List EntV) : Prop := ValidE E ∧ E.length = xs.length ∧ ∀ y, y ∈ E ↔ y ∈ xs
theorem RowE.start : RowE [] [] := ⟨⟨fun x hx => by simp at hx, List.Pairwise.nil⟩, rfl, fun y => Iff.rfl⟩
theorem RowE.step {E xs : List EntV} {x : EntV} (h : RowE E xs) (hk : okE x = true) (hn : ∀ y ∈ xs, y.name ≠ x.name) : hasE E x.name = false ∧ RowE (insE E x) (xs ++ [x]) := by
  obtain ⟨hv, hlen, he⟩ := h
  have hh := has_none he hn
  refine ⟨hh, insE_valid hv hk hh, by rw [insE_len, hlen]; simp, fun y => ?_⟩
  rw [mem_insE, he y, List.mem_append, List.mem_singleton]
  exact or_comm
/-- all of them, in whatever order -/
theorem SetE.list {V : List ByteArray} {E xs ys : List EntV} (h : SetE V xs) (hE : RowE E ys) (he : ∀ y, y ∈ xs ↔ y ∈ ys) : listO V 1 = (E, 0) := by
  obtain ⟨F, hD, hlen, hF⟩ := h
  have : F = E := valid_ext hD.dir.valid.rise hE.1.rise fun y => by rw [hF y, he y, hE.2.2 y]
  have hl := hD.dir.list
  rw [this] at hl
  exact hl
theorem SetE.size {V : List ByteArray} {xs : List EntV} (h : SetE V xs) (hl : xs.length ≤ 12) : inoE V 1 = 0 ∧ (getR V 1).getD 3 0 = 32 * xs.length := by
  obtain ⟨F, hD, hlen, hF⟩ := h
  have h := hD.dir.file
  refine ⟨inoE_zero h.ok.vol h.num1 h.num2, ?_⟩
  have hs : sizeX (getR V ((1 : Nat) : Int)) = 32 * F.length := h.size
  unfold sizeX at hs
  show (getR V ((1 : Nat) : Int)).getD 3 0 = _
  omega
/-- all may be, and no two have one name -/
def OkL (l : List EntV) (k : Nat) : Prop := ∀ i (hi : i < l.length), i < k → okE l[i] = true ∧ ∀ j (hj : j < i), l[j].name ≠ l[i].name
theorem OkL.zero (l : List EntV) : OkL l 0 := fun i hi h => absurd h (Nat.not_lt_zero _)
theorem OkL.succ {l : List EntV} {k : Nat} (h : OkL l k) (hk : k < l.length) (h1 : okE l[k] = true) (h2 : ∀ j (hj : j < k), l[j].name ≠ l[k].name) : OkL l (k + 1) := fun i hi hik => by
  by_cases e : i = k
  · subst e; exact ⟨h1, h2⟩
  · exact h i hi (by omega)
theorem OkL.front {l : List EntV} (h : OkL l l.length) {k : Nat} (hk : k < l.length) : okE l[k] = true ∧ (∀ y ∈ l.take k, y.name ≠ l[k].name) ∧ l.take (k + 1) = l.take k ++ [l[k]] := by
  refine ⟨(h k hk hk).1, fun y hy => ?_, List.take_succ_eq_append_getElem hk⟩
  obtain ⟨j, hj, rfl⟩ := List.mem_iff_getElem.1 hy
  rw [List.length_take] at hj
  rw [List.getElem_take]
  exact (h k hk hk).2 j (by omega)
theorem OkL.back {l : List EntV} (h : OkL l l.length) {k : Nat} (hk : k < l.length) : okE (l[l.length - 1 - k]'(by omega)) = true ∧ (∀ y ∈ l.reverse.take k, y.name ≠ (l[l.length - 1 - k]'(by omega)).name) ∧ l.reverse.take (k + 1) = l.reverse.take k ++ [l[l.length - 1 - k]'(by omega)] := by
  refine ⟨(h _ (by omega) (by omega)).1, fun y hy => ?_, ?_⟩
  · obtain ⟨j, hj, rfl⟩ := List.mem_iff_getElem.1 hy
    rw [List.length_take, List.length_reverse] at hj
    rw [List.getElem_take, List.getElem_reverse]
    exact ((h (l.length - 1 - j) (by omega) (by omega)).2 (l.length - 1 - k) (by omega)).symm
  · rw [List.take_succ_eq_append_getElem (by rw [List.length_reverse]; exact hk), List.getElem_reverse]
end Go.Proofs.Ytoanladhikdcaaa

namespace Go.Proofs.Ytoanladhikdcaaa
open Go.ChangeShapes Go.WideShapes Go.ChangeAt Go.RowKit
set_option linter.unusedVariables false
set_option linter.unusedSimpArgs false
set_option maxRecDepth 100000
def entL (x : EntV) : List Value := [.string x.name, .int .i64 x.ino]
theorem entC_idx : ∀ {l : List EntV} {j : Nat} {u : Value}, (entC l)[j]? = some u → ∃ x, l[j / 2]? = some x ∧ (entL x)[j % 2]? = some u
  | [], j, u, h => by simp [entC] at h
  | x :: l, 0, u, h => ⟨x, rfl, h⟩
  | x :: l, 1, u, h => ⟨x, rfl, h⟩
  | x :: l, j + 2, u, h => by
    have h : (entC l)[j]? = some u := h
    obtain ⟨y, h1, h2⟩ := entC_idx h
    exact ⟨y, by rw [show (j + 2) / 2 = j / 2 + 1 by omega]; exact h1, by rw [show (j + 2) % 2 = j % 2 by omega]; exact h2⟩
theorem entCells : Try.prog.cellsOf 35 = 2 := by kernel_rfl
theorem strCellsE : Try.prog.cellsOf 9 = 1 := by kernel_rfl
theorem i64CellsE : Try.prog.cellsOf 3 = 1 := by kernel_rfl
theorem weightsE_mem {H : Type} {P : Program} : ∀ {ts : List TypeId} {l : List (DataW H)} {i : Nat} {t : TypeId} {d : DataW H}, ts[i]? = some t → l[i]? = some d → ∀ n ∈ d.weights P t, n ∈ DataW.weightsEach P ts l
  | t' :: ts, d' :: r, 0, t, d, h1, h2, n, hn => by
    simp only [List.getElem?_cons_zero, Option.some.injEq] at h1 h2
    subst h1; subst h2
    simp only [DataW.weightsEach, List.mem_append]
    exact .inl hn
  | t' :: ts, d' :: r, i + 1, t, d, h1, h2, n, hn => by
    simp only [List.getElem?_cons_succ] at h1 h2
    simp only [DataW.weightsEach, List.mem_append]
    exact .inr (weightsE_mem h1 h2 n hn)
  | [], _, i, _, _, h1, _, _, _ => by simp at h1
  | _ :: _, [], i, _, _, _, h2, _, _ => by simp at h2
theorem ent_of {H : Type} {enc : TypeId × Value → H} {W : World} {base : Nat} {spare : Nat → Bool} {held : Bool} {fuel : Nat} {cs : List Value} {x : DataW H × List MemPlace}
    (h : DataW.trod enc Try.prog W base spare held fuel 35 cs = some x) : ∃ a : EntV, cs = entL a ∧ a.name.size ∈ x.1.weights Try.prog 35 := by
  obtain ⟨xs, n, rfl, rfl, hl, hn, hf⟩ := DataW.trod_struct Try.underlying35 h
  rw [entCells] at hl
  have h0 := hf 0 _ rfl
  have h1 := hf 1 _ rfl
  have hn2 : xs.length = 2 := hn
  match xs, hn2, cs, hl with
  | [x0, x1], _, [c0, c1], _ =>
    obtain ⟨s, e0, g0, w0⟩ := DataW.trod_string Try.underlying9 h0
    obtain ⟨z1, e1, _, w1⟩ := DataW.trod_int Try.underlying3 h1
    replace e0 : ([c0, c1].drop 0).take (Try.prog.cellsOf 9) = [.string s] := e0
    replace e1 : ([c0, c1].drop 1).take (Try.prog.cellsOf 3) = [.int .i64 z1] := e1
    rw [strCellsE] at e0
    rw [i64CellsE] at e1
    simp only [List.drop_succ_cons, List.drop_zero, List.take_succ_cons, List.take_zero, List.cons.injEq, and_true] at e0 e1
    subst e0; subst e1
    refine ⟨⟨s, z1⟩, rfl, ?_⟩
    simp only [DataW.weights, Try.underlying35]
    refine weightsE_mem (i := 0) (d := x0.1) rfl rfl _ ?_
    rw [g0]
    simp only [DataW.weights, List.mem_singleton]
    rw [Array.length_toList]; rfl
theorem open_ents {H : Type} {enc : TypeId × Value → H} {W : World} {r : Reach} {b0 : Nat} {v : Value} {d : DataW H} {ps : List MemPlace}
    (hv : Value.okWide Try.prog W r b0 31 v) (h : DataW.Trod enc Try.prog W 0 (fun _ => true) true 31 v d ps) :
    ∃ A c l, v = .slice A (List.length l) c ∧ EntsAt W W.heap.size A l ∧ l.length ≤ maxLen ∧ ∀ a ∈ l, a.name.size ∈ d.weights Try.prog 31 := by
  obtain ⟨a, len, cap, rfl⟩ := okWide_slice Try.underlying31 hv
  obtain ⟨fuel, hf⟩ := h
  rcases DataW.trod_slice Try.underlying31 hf with ⟨hcs, hx⟩ | ⟨a', len', cap', elems, rest, n, _, hcs, hx, hb, hl, hm, hlen, hel, hsp, hns⟩
  · simp [Value.cells] at hcs
    obtain ⟨rfl, rfl, rfl⟩ := hcs
    exact ⟨none, 0, [], rfl, .inl rfl, Nat.zero_le _, fun s hs => by cases hs⟩
  · simp [Value.cells] at hcs
    obtain ⟨rfl, rfl, rfl⟩ := hcs
    have each : ∀ i, i < len → ∃ (x : EntV) (y : DataW H × List MemPlace), elems[i]? = some y ∧ x.name.size ∈ y.1.weights Try.prog 35 ∧ ∀ k u, (entL x)[k]? = some u → W.cell? ((a'.add (i * 2)).add k) = some u := fun i hi => by
      have e := hel i hi
      rw [List.getElem?_eq_getElem (by omega), entCells, Option.bind_eq_some_iff] at e
      obtain ⟨cs, h1, h2⟩ := e
      obtain ⟨_, c2, c3⟩ := World.cells?_some h1
      obtain ⟨x, rfl, hw⟩ := ent_of h2
      refine ⟨x, elems[i], by rw [List.getElem?_eq_getElem (by omega)], hw, fun k u hu => ?_⟩
      have hk : k < 2 := (List.getElem?_eq_some_iff.1 hu).1
      rw [c3 k hk]; exact hu
    obtain ⟨l, hll, hl2⟩ : ∃ l : List EntV, l.length = len ∧ ∀ i x, l[i]? = some x → ∃ y : DataW H × List MemPlace, elems[i]? = some y ∧ x.name.size ∈ y.1.weights Try.prog 35 ∧ ∀ k u, (entL x)[k]? = some u → W.cell? ((a'.add (i * 2)).add k) = some u := by
      have key : ∀ i : Fin len, ∃ x : EntV, ∃ y : DataW H × List MemPlace, elems[i.1]? = some y ∧ x.name.size ∈ y.1.weights Try.prog 35 ∧ ∀ k u, (entL x)[k]? = some u → W.cell? ((a'.add (i.1 * 2)).add k) = some u := fun i => each i.1 i.2
      refine ⟨List.ofFn fun i => Classical.choose (key i), by simp, fun i x hx => ?_⟩
      have hi : i < len := by have := (List.getElem?_eq_some_iff.1 hx).1; simpa using this
      rw [List.getElem?_ofFn, dif_pos hi] at hx
      obtain rfl := Option.some.inj hx
      exact Classical.choose_spec (key ⟨i, hi⟩)
    refine ⟨some a', cap, l, by rw [hll], ?_, by omega, fun x hx0 => ?_⟩
    · by_cases hl0 : len = 0
      · left
        have : l = [] := List.eq_nil_of_length_eq_zero (by omega)
        rw [this]; rfl
      · obtain ⟨b, o, spot⟩ := a'
        have h0 : ∃ x, l[0]? = some x := ⟨l[0], List.getElem?_eq_getElem (by omega)⟩
        obtain ⟨x, hx1⟩ := h0
        obtain ⟨y, _, _, hcell⟩ := hl2 0 x hx1
        have hc0 := hcell 0 _ rfl
        have hspot : spot = none := by simpa [Addr.add] using World.cell?_spot hc0
        subst hspot
        have ea1 : ∀ o j : Nat, (⟨b, o, none⟩ : Addr).add j = ⟨b, o + j, none⟩ := fun o j => by unfold Addr.add; split <;> simp_all
        have ea : ∀ j k : Nat, ((⟨b, o, none⟩ : Addr).add (j * 2)).add k = ⟨b, o + (j * 2 + k), none⟩ := fun j k => by rw [ea1, ea1, Nat.add_assoc]
        rw [ea] at hc0
        refine .inr ⟨b, o, rfl, block_of_cell hc0, fun j u hu => ?_⟩
        obtain ⟨z, hz, hzu⟩ := entC_idx hu
        obtain ⟨y, _, _, hcj⟩ := hl2 (j / 2) z hz
        have := hcj (j % 2) u hzu
        rw [ea, show j / 2 * 2 + j % 2 = j by omega] at this
        exact this
    · obtain ⟨i, hi⟩ := List.getElem?_of_mem hx0
      obtain ⟨y, hy, hw, _⟩ := hl2 i x hi
      simp only [Prod.mk.injEq] at hx
      obtain ⟨rfl, rfl⟩ := hx
      simp only [DataW.weights, Try.underlying31]
      exact List.mem_cons_of_mem _ (List.mem_append_left _ (weightsAll_mem (List.mem_map.2 ⟨y, List.mem_of_getElem? hy, rfl⟩) _ hw))
end Go.Proofs.Ytoanladhikdcaaa

namespace Go.Proofs.Ytoanladhikdcaaa
open Go.RowKit
set_option linter.unusedVariables false
set_option linter.unusedSimpArgs false
set_option maxRecDepth 100000
/-- an add that succeeds -/
def AddSet (xs : List EntV) (w : World) (e : Ending) (w' : World) : Prop := ∃ (W : List ByteArray) (A' : Option Addr) (c' : Nat), e = .returned (.tuple #[.slice A' W.length c', .int .i64 0]) ∧ SetE W xs ∧ RowAt w' w'.heap.size A' (W.map .string) ∧ Below w.heap.size w w'
theorem add_set (A : Option Addr) (c : Nat) (V : List ByteArray) (xs : List EntV) (x : EntV) (w : World) (hS : SetE V xs) (hk : okE x = true) (hn : ∀ y ∈ xs, y.name ≠ x.name) (hl : xs.length < 41) (h : RowAt w w.heap.size A (V.map .string)) :
    Calls Try.prog 13 #[.slice A V.length c, .int .i64 1, .string x.name, .int .i64 x.ino] w (AddSet (xs ++ [x]) w) := by
  obtain ⟨a, b⟩ := hS.step hk hn hl
  have hsz := (okE_ok hk).2.2.1
  refine (add_any A c V 1 x.name x.ino w (by have := hS.vol; omega) (by omega) h).mono ?_
  rintro e w' ⟨⟨v, rfl, hv⟩, hb⟩
  obtain ⟨A', c', rfl, hr⟩ := hv.read
  exact ⟨_, A', c', by rw [a], b, hr, hb⟩
set_option maxHeartbeats 4000000 in
theorem law_orders (A : Option Addr) (c : Nat) (l : List EntV) (w : World) (hl : l.length ≤ maxLen) (hs : ∀ a ∈ l, a.name.size ≤ 140737488355328) (h : EntsAt w w.heap.size A l) :
    Calls Try.prog 5 #[.slice A l.length c] w fun e w' => e = .returned (.bool true) ∧ Below w.heap.size w w' := by
  have CT := Lib.hid (fun w => top_any w)
  have CA := Lib.hid (fun w => awake_any w)
  have HS := Lib.hid hs
  have R0 := Lib.hid h
  unfold maxLen at hl
  clear h hs
  by_cases h12 : 12 < l.length
  · have e1 : (12 : Int) < (l.length : Int) := by omega
    go_enter Try.func5, Try.ntmps5
    go_wp2_with fail
    refine (CA.out _).mono ?_
    rintro e w1 ⟨rfl, hb1⟩
    go_wp2
    go_ret
    exact ⟨rfl, hb1⟩
  have e1 : ¬ (12 : Int) < (l.length : Int) := by omega
  have hl12 : l.length ≤ 12 := by omega
  clear hl h12
  go_enter Try.func5, Try.ntmps5
  go_wp2_with fail
  refine (CT.out _).mono ?_
  rintro e w1 ⟨⟨v1, rfl, hv1⟩, hb1⟩
  obtain ⟨A1, c1, rfl, hr1⟩ := hv1.read
  have B1 := Lib.hid hb1
  have V1 := Lib.hid hr1
  clear hv1 hr1 hb1
  go_wp2_with fail
  refine (CT.out _).mono ?_
  rintro e w2 ⟨⟨v2, rfl, hv2⟩, hb2⟩
  obtain ⟨A2, c2, rfl, hr2⟩ := hv2.read
  have B2 := Lib.hid (B1.out.trans (hb2.mono B1.out.size))
  have V2 := Lib.hid ((V1.out.below hb2).mono hb2.size)
  have W2 := Lib.hid hr2
  have R2 := Lib.hid ((R0.out.below B2.out).mono B2.out.size)
  clear hv2 hr2 hb2 B1 V1 R0 CT
  have K0 := Lib.hid (OkL.zero l)
  have Z2 := Lib.hid (Below.refl w2.heap.size w2)
  go_wp2
  go_loopw [7] (fun i wr => ∃ k : Nat, k ≤ l.length ∧ i = .int .i64 (k : Int) ∧ Hid (OkL l k) ∧ Hid (Below w2.heap.size w2 wr)) (fun i _ => l.length - (intOf i).toNat)
  case atStart => exact ⟨0, Nat.zero_le _, rfl, K0, Z2⟩
  case round =>
    clear K0 Z2
    obtain ⟨k, hk, rfl, HK, B⟩ := hrel
    have BW := Lib.hid (B2.out.trans (B.out.mono B2.out.size))
    by_cases hlt : k < l.length
    · have hsz := HS.out _ (List.getElem_mem hlt)
      have HKS := Lib.hid (fun h1 h2 => HK.out.succ hlt h1 h2)
      have RK := Lib.hid (R2.out.below B.out)
      obtain ⟨bA, oA, rfl, hbA, hrA⟩ := RK.out.get hlt
      have c0 := hrA 0 _ rfl
      have c1' := hrA 1 _ rfl
      rw [Nat.add_zero] at c0
      have i2 : (k : Int) < (l.length : Int) := by omega
      have i3 : (0 : Int) ≤ (k : Int) := by omega
      obtain ⟨x, hx⟩ : ∃ x, l[k] = x := ⟨_, rfl⟩
      rw [hx] at c0 c1' hsz HKS
      have HX := Lib.hid hx
      obtain ⟨nm, ino⟩ := x
      dsimp only at c0 c1' hsz HKS
      have CM := Lib.hid (fun w => rmay_any nm w hsz)
      clear hrA hx hsz
      cases hm : mayB nm.data.toList with
      | false =>
        rw [hm] at CM
        go_wp2_with fail
        refine (CM.out _).mono ?_
        rintro e w3 ⟨rfl, rfl⟩
        go_wp2_with fail
        refine (CA.out _).mono ?_
        rintro e w4 ⟨rfl, hb4⟩
        go_wp2
        go_ret
        exact ⟨rfl, BW.out.trans (hb4.mono BW.out.size)⟩
      | true =>
        rw [hm] at CM
        by_cases hi1 : ino < 1
        · have d1 : decide (ino < 1) = true := decide_eq_true hi1
          go_wp2_with fail
          refine (CM.out _).mono ?_
          rintro e w3 ⟨rfl, rfl⟩
          go_wp2_with fail
          refine (CA.out _).mono ?_
          rintro e w4 ⟨rfl, hb4⟩
          go_wp2
          go_ret
          exact ⟨rfl, BW.out.trans (hb4.mono BW.out.size)⟩
        · have d1 : decide (ino < 1) = false := decide_eq_false hi1
          by_cases hi2 : 64 < ino
          · have d2 : decide ((64 : Int) < ino) = true := decide_eq_true hi2
            go_wp2_with fail
            refine (CM.out _).mono ?_
            rintro e w3 ⟨rfl, rfl⟩
            go_wp2_with fail
            refine (CA.out _).mono ?_
            rintro e w4 ⟨rfl, hb4⟩
            go_wp2
            go_ret
            exact ⟨rfl, BW.out.trans (hb4.mono BW.out.size)⟩
          · have d2 : decide ((64 : Int) < ino) = false := decide_eq_false hi2
            have HOK : Hid (okE ⟨nm, ino⟩ = true) := by
              show _ = _
              unfold okE
              dsimp only
              rw [hm, Bool.true_and, decide_eq_true_iff]
              omega
            have HN0 : Hid (∀ j (hj : j < 0) (hjl : j < l.length), l[j].name ≠ nm) := fun j hj => absurd hj (Nat.not_lt_zero _)
            clear hm
            go_wp2_with fail
            refine (CM.out _).mono ?_
            rintro e w3 ⟨rfl, rfl⟩
            go_wp2
            clear c0 c1'
            go_loopw [8] (fun j wr => ∃ p : Nat, p ≤ k ∧ j = .int .i64 (p : Int) ∧ Hid (∀ j (hj : j < p) (hjl : j < l.length), l[j].name ≠ nm) ∧ Hid (Below w2.heap.size w2 wr)) (fun j _ => k - (intOf j).toNat)
            case atStart => exact ⟨0, Nat.zero_le _, rfl, HN0, B⟩
            case round =>
              clear HN0
              obtain ⟨p, hp, rfl, HN, BQ⟩ := hrel
              have BWQ := Lib.hid (B2.out.trans (BQ.out.mono B2.out.size))
              by_cases hlt2 : p < k
              · have hpl : p < l.length := by omega
                have RQ := Lib.hid (R2.out.below BQ.out)
                obtain ⟨b1, o1, e1', hb1, hr1⟩ := RQ.out.get hlt
                obtain ⟨b2, o2, e2', hb2, hr2⟩ := RQ.out.get hpl
                cases e1'
                cases e2'
                have s1 := hr1 0 _ rfl
                have s2 := hr2 0 _ rfl
                rw [Nat.add_zero] at s1 s2
                rw [HX.out] at s1
                have HNp := Lib.hid (fun (h : l[p].name ≠ nm) (j : Nat) (hj : j < p + 1) (hjl : j < l.length) => (show l[j].name ≠ nm from by
                  by_cases e : j = p
                  · subst e; exact h
                  · exact HN.out j (by omega) hjl))
                generalize l[p].name = pn at *
                have u1 : ∀ u : Ext wr, u.val.cell? ⟨bA, oA + k * 2, none⟩ = some (.string nm) := fun u => u.cell s1
                have u2 : ∀ u : Ext wr, u.val.cell? ⟨bA, oA + p * 2, none⟩ = some (.string pn) := fun u => u.cell s2
                have j1 : (p : Int) < (k : Int) := by omega
                have j2 : (0 : Int) ≤ (p : Int) := by omega
                have j3 : (p : Int) < (l.length : Int) := by omega
                clear s1 s2 hr1 hr2 hb1 hb2
                by_cases he : pn = nm
                · have q1 : (pn.toList == nm.toList) = true := by rw [he]; simp
                  clear he
                  go_wp2_with fail
                  refine wp_region_ext (by kernel_rfl) (by kernel_rfl) ?_
                  repeat (go_big_quiet_step (fail))
                  refine wpQuiet_nil ?_
                  rintro _ ⟨u, rfl⟩
                  have BWu := Lib.hid (BWQ.out.trans (u.below.mono BWQ.out.size))
                  generalize u.val = w4 at BWu
                  clear u1 u2
                  go_wp2_with fail
                  refine (CA.out _).mono ?_
                  rintro e w5 ⟨rfl, hb5⟩
                  go_wp2
                  go_ret
                  exact ⟨rfl, BWu.out.trans (hb5.mono BWu.out.size)⟩
                · have q1 : (pn.toList == nm.toList) = false := by simpa using str_ne he
                  have HN2 := Lib.hid (HNp.out he)
                  clear he HNp HN
                  go_wp2_with fail
                  refine wp_region_ext (by kernel_rfl) (by kernel_rfl) ?_
                  repeat (go_big_quiet_step (fail))
                  refine wpQuiet_nil ?_
                  rintro _ ⟨u, rfl⟩
                  have BQu := Lib.hid (BQ.out.trans (u.below.mono BQ.out.size))
                  generalize u.val = w4 at BQu
                  clear u1 u2
                  go_wp2
                  go_roundw
                  case rel => exact ⟨p + 1, by omega, by go_num, HN2, BQu⟩
                  case measure => simp [intOf]; omega
              · obtain rfl : p = k := by omega
                have HK2 := Lib.hid (HKS.out HOK.out (fun j hj => HN.out j hj (by omega)))
                go_wp2
                go_roundw
                case rel => exact ⟨p + 1, by omega, by go_num, HK2, BQ⟩
                case measure => simp [intOf]; omega
    · obtain rfl : k = l.length := by omega
      have HOK := Lib.hid HK.out
      have V3 := Lib.hid ((V2.out.below B.out).mono B.out.size)
      have W3 := Lib.hid ((W2.out.below B.out).mono B.out.size)
      have OM := Lib.hid (made_ents wr)
      have BM := Lib.hid ((Below.refl wr.heap.size wr).alloc (Nat.le_refl _) (.cells #[] 35))
      have S0 := Lib.hid SetE.start
      have T0 := Lib.hid SetE.start
      have E0 := Lib.hid RowE.start
      have e30 : l.take 0 = [] := rfl
      have e31 : l.reverse.take 0 = [] := rfl
      have B5 := Lib.hid (B.out.trans (BM.out.mono B.out.size))
      have V5 := Lib.hid ((V3.out.below BM.out).mono BM.out.size)
      have W5 := Lib.hid ((W3.out.below BM.out).mono BM.out.size)
      clear HK V3 W3 OM BM B BW V2 W2
      go_wp2
      generalize World.alloc wr _ = w5 at *
      generalize wr.heap.size = gw at *
      rw [← e30] at S0 E0
      rw [← e31] at T0
      clear e30 e31
      go_loopw [3, 5, 9, 10] (fun v1 v2 g i wr => ∃ (k : Nat) (V W : List ByteArray) (G : List EntV) (Av Aw Ag : Option Addr) (cv cw cg : Nat), k ≤ l.length ∧ i = .int .i64 (k : Int) ∧ v1 = .slice Av V.length cv ∧ v2 = .slice Aw W.length cw ∧ g = .slice Ag G.length cg ∧ Hid (SetE V (l.take k)) ∧ Hid (SetE W (l.reverse.take k)) ∧ Hid (RowE G (l.take k)) ∧ Hid (RowAt wr wr.heap.size Av (V.map .string)) ∧ Hid (RowAt wr wr.heap.size Aw (W.map .string)) ∧ Hid (EntsAt wr wr.heap.size Ag G) ∧ Hid (Below w2.heap.size w2 wr)) (fun _ _ _ i _ => l.length - (intOf i).toNat)
      case atStart => exact ⟨0, tpV, tpV, [], A1, A2, _, c1, c2, 0, Nat.zero_le _, rfl, rfl, rfl, rfl, S0, T0, E0, V5, W5, RowAt.nil, B5⟩
      case round =>
        clear S0 T0 E0 V5 W5 B5
        obtain ⟨k, V, W, G, Av, Aw, Ag, cv, cw, cg, hk, rfl, rfl, rfl, rfl, HV, HW, HG, RV, RW, RG, B⟩ := hrel
        by_cases hlt : k < l.length
        · have i2 : (k : Int) < (l.length : Int) := by omega
          have i3 : (0 : Int) ≤ (k : Int) := by omega
          obtain ⟨q, hq⟩ : ∃ q, l.length - 1 - k = q := ⟨_, rfl⟩
          have hql : q < l.length := by omega
          have iq : (l.length : Int) - 1 - (k : Int) = (q : Int) := by omega
          have iq2 : (q : Int) < (l.length : Int) := by omega
          have iq3 : (0 : Int) ≤ (q : Int) := by omega
          obtain ⟨f1, f2, f3⟩ := HOK.out.front hlt
          obtain ⟨b1, b2, b3⟩ := HOK.out.back hlt
          obtain ⟨x, hx⟩ : ∃ x, l[k] = x := ⟨_, rfl⟩
          obtain ⟨y, hy⟩ : ∃ y, l[l.length - 1 - k]'(by omega) = y := ⟨_, rfl⟩
          have hy2 : l[q] = y := by rw [← hy]; simp only [hq]
          rw [hx] at f1 f2 f3
          rw [hy] at b1 b2 b3
          have hlen1 : (l.take k).length < 41 := by rw [List.length_take]; omega
          have hlen2 : (l.reverse.take k).length < 41 := by rw [List.length_take, List.length_reverse]; omega
          have CX := Lib.hid (fun w h => add_set Av cv V (l.take k) x w HV.out f1 f2 hlen1 h)
          have CY := Lib.hid (fun w h => add_set Aw cw W (l.reverse.take k) y w HW.out b1 b2 hlen2 h)
          obtain ⟨g1, g2⟩ := HG.out.step f1 f2
          have hgl : G.length ≤ 1000 := by have := HG.out.2.1; rw [List.length_take] at this; omega
          have CW := Lib.hid (fun w h => rwithE_any Ag cg G x w hgl HG.out.1.rise g1 h)
          rw [← f3] at CX g2
          rw [← b3] at CY
          have HG2 := Lib.hid g2
          unfold AddSet at CX CY
          have CELL : Hid (∀ W, Below w2.heap.size w2 W → ∃ bA oA, A = some ⟨bA, oA, none⟩ ∧ W.rangeAt bA (oA + k * 2) [.string x.name, .int .i64 x.ino] ∧ W.rangeAt bA (oA + q * 2) [.string y.name, .int .i64 y.ino]) := fun W hW => by
            obtain ⟨bA, oA, hA, hbA, hrA⟩ := (R2.out.below hW).get hlt
            obtain ⟨bB, oB, hB, hbB, hrB⟩ := (R2.out.below hW).get hql
            rw [hA] at hB
            injection hB with hB
            injection hB with e1 e2 _
            subst e1; subst e2
            rw [hx] at hrA
            rw [hy2] at hrB
            exact ⟨bA, oA, hA, hrA, hrB⟩
          clear f1 f2 f3 b1 b2 b3 hx hy hy2 g1 g2 hq hlen1 hlen2 HV HW HG
          obtain ⟨xn, xi⟩ := x
          obtain ⟨yn, yi⟩ := y
          dsimp only at CX CY CW CELL HG2
          obtain ⟨bA, oA, rfl, ca, cb⟩ := CELL.out _ B.out
          have u1 : ∀ u : Ext wr, u.val.cell? ⟨bA, oA + k * 2, none⟩ = some (.string xn) := fun u => u.cell (ca 0 _ rfl)
          have u2' : ∀ u : Ext wr, u.val.cell? ⟨bA, oA + k * 2 + 1, none⟩ = some (.int .i64 xi) := fun u => u.cell (ca 1 _ rfl)
          clear ca cb
          go_wp2_with fail
          refine wp_region_waist 11 (by kernel_rfl) (by kernel_rfl) ?_
          simp only [List.take_succ_cons, List.take_zero, List.drop_succ_cons, List.drop_zero]
          repeat (go_big_quiet_step (fail))
          refine wpQuiet_nil ?_
          rintro _ ⟨u, rfl⟩
          have RV1 := Lib.hid ((RV.out.below u.below).mono u.below.size)
          have RW1 := Lib.hid ((RW.out.below u.below).mono u.below.size)
          have RG1 := Lib.hid ((RG.out.below u.below).mono u.below.size)
          have B1 := Lib.hid (B.out.trans (u.below.mono B.out.size))
          clear u1 u2' RV RW RG B
          generalize u.val = w6 at *
          go_wp2_with fail
          refine (CX.out _ RV1.out).mono ?_
          rintro e w7 ⟨V7, A7, c7, rfl, hS7, hr7, hb7⟩
          have HV7 := Lib.hid hS7
          have RV7 := Lib.hid hr7
          have RW7 := Lib.hid ((RW1.out.below hb7).mono hb7.size)
          have RG7 := Lib.hid ((RG1.out.below hb7).mono hb7.size)
          have B7 := Lib.hid (B1.out.trans (hb7.mono B1.out.size))
          clear hS7 hr7 hb7 RV1 RW1 RG1 B1 CX
          go_wp2
          repeat (go_big_quiet_step (fail))
          refine wpQuiet_nil ?_
          rintro _ ⟨u3, rfl⟩
          have RV8 := Lib.hid ((RV7.out.below u3.below).mono u3.below.size)
          have RW8 := Lib.hid ((RW7.out.below u3.below).mono u3.below.size)
          have RG8 := Lib.hid ((RG7.out.below u3.below).mono u3.below.size)
          have B8 := Lib.hid (B7.out.trans (u3.below.mono B7.out.size))
          clear RV7 RW7 RG7 B7
          generalize u3.val = w8 at *
          obtain ⟨bA', oA', e', ca, cb⟩ := CELL.out _ B8.out
          cases e'
          have u1 : ∀ u : Ext w8, u.val.cell? ⟨bA, oA + q * 2, none⟩ = some (.string yn) := fun u => u.cell (cb 0 _ rfl)
          have u2' : ∀ u : Ext w8, u.val.cell? ⟨bA, oA + q * 2 + 1, none⟩ = some (.int .i64 yi) := fun u => u.cell (cb 1 _ rfl)
          clear ca cb
          go_wp2_with fail
          refine wp_region_waist 19 (by kernel_rfl) (by kernel_rfl) ?_
          simp only [List.take_succ_cons, List.take_zero, List.drop_succ_cons, List.drop_zero]
          repeat (go_big_quiet_step (fail))
          refine wpQuiet_nil ?_
          rintro _ ⟨u, rfl⟩
          have RV9 := Lib.hid ((RV8.out.below u.below).mono u.below.size)
          have RW9 := Lib.hid ((RW8.out.below u.below).mono u.below.size)
          have RG9 := Lib.hid ((RG8.out.below u.below).mono u.below.size)
          have B9 := Lib.hid (B8.out.trans (u.below.mono B8.out.size))
          clear u1 u2' RV8 RW8 RG8 B8
          generalize u.val = w9 at *
          go_wp2_with fail
          refine (CY.out _ RW9.out).mono ?_
          rintro e w10 ⟨W10, A10, c10, rfl, hS10, hr10, hb10⟩
          have HW10 := Lib.hid hS10
          have RW10 := Lib.hid hr10
          have RV10 := Lib.hid ((RV9.out.below hb10).mono hb10.size)
          have RG10 := Lib.hid ((RG9.out.below hb10).mono hb10.size)
          have B10 := Lib.hid (B9.out.trans (hb10.mono B9.out.size))
          clear hS10 hr10 hb10 RV9 RW9 RG9 B9 CY
          go_wp2
          repeat (go_big_quiet_step (fail))
          refine wpQuiet_nil ?_
          rintro _ ⟨u3, rfl⟩
          have RV11 := Lib.hid ((RV10.out.below u3.below).mono u3.below.size)
          have RW11 := Lib.hid ((RW10.out.below u3.below).mono u3.below.size)
          have RG11 := Lib.hid ((RG10.out.below u3.below).mono u3.below.size)
          have B11 := Lib.hid (B10.out.trans (u3.below.mono B10.out.size))
          clear RV10 RW10 RG10 B10
          generalize u3.val = w11 at *
          obtain ⟨bA', oA', e', ca, cb⟩ := CELL.out _ B11.out
          cases e'
          have HR := Lib.hid ca
          clear ca cb
          go_wp2_with (refine wpList_load_mid rfl 35 (.tmp 142) rfl bA (oA + k * 2) rfl _ _ HR.out Try.underlying35 rfl (by kernel_rfl) ?_; go_frame)
          refine (CW.out _ RG11.out).mono ?_
          rintro e w12 ⟨⟨v12, rfl, hv12⟩, hb12⟩
          obtain ⟨A12, c12, rfl, hr12⟩ := OwnEnts.read2 hv12
          have RG12 := Lib.hid hr12
          have RV12 := Lib.hid ((RV11.out.below hb12).mono hb12.size)
          have RW12 := Lib.hid ((RW11.out.below hb12).mono hb12.size)
          have B12 := Lib.hid (B11.out.trans (hb12.mono B11.out.size))
          clear hv12 hr12 hb12 RV11 RW11 RG11 B11 CW HR
          go_wp2
          go_roundw
          case rel => exact ⟨k + 1, V7, W10, _, A7, A10, A12, c7, c10, c12, by omega, by go_num, rfl, rfl, rfl, HV7, HW10, HG2, RV12, RW12, RG12, B12⟩
          case measure => simp [intOf]; omega
        · obtain rfl : k = l.length := by omega
          have hmem : ∀ y, y ∈ l.reverse.take l.length ↔ y ∈ l.take l.length := fun y => by
            rw [List.take_of_length_le (by rw [List.length_reverse]; exact Nat.le_refl _), List.take_length, List.mem_reverse]
          have hl1 := HV.out.list HG.out (fun y => Iff.rfl)
          have hl2 := HW.out.list HG.out hmem
          have hlv := HV.out.vol
          have hlw := HW.out.vol
          obtain ⟨hz0, hz3⟩ := HV.out.size (by rw [List.length_take]; omega)
          rw [List.take_length] at hz3
          obtain ⟨a0, a1, a2, a3, a4, a5, a6, a7, a8, a9, a10, a11, hg⟩ := len12 (getR_len V 1)
          rw [hg] at hz3
          have hz3 : a3 = 32 * l.length := hz3
          subst hz3
          have C1 := Lib.hid (fun w h => list_any Av cv V 1 w (by omega) h)
          have C2 := Lib.hid (fun w h => list_any Aw cw W 1 w (by omega) h)
          have C3 := Lib.hid (fun w h => rget_ino Av cv V 1 w (by omega) h)
          rw [hl1] at C1
          rw [hl2] at C2
          rw [hg, hz0] at C3
          unfold inoC at C3
          simp only [List.map_cons, List.map_nil] at C3
          unfold ListPost at C1 C2
          dsimp only at C1 C2
          have hgl : G.length ≤ 1000 := by have := HG.out.2.1; rw [List.length_take] at this; omega
          have e9 : (((32 * l.length : Nat) : Int)) = 32 * (l.length : Int) := by omega
          rw [e9] at C3
          clear hl1 hl2 hz0 hg hmem hlv hlw e9 HV HW HG
          go_wp2_with fail
          refine (C1.out _ RV.out).mono ?_
          rintro e w6 ⟨⟨v6, rfl, hv6⟩, hb6⟩
          obtain ⟨A6, c6, rfl, hr6⟩ := OwnEnts.read2 hv6
          have L6 : Hid (EntsAt w6 w6.heap.size A6 G) := hr6
          have RV6 := Lib.hid ((RV.out.below hb6).mono hb6.size)
          have RW6 := Lib.hid ((RW.out.below hb6).mono hb6.size)
          have RG6 := Lib.hid ((RG.out.below hb6).mono hb6.size)
          have B6 := Lib.hid (B.out.trans (hb6.mono B.out.size))
          clear hv6 hr6 hb6 RV RW RG B C1
          go_wp2_with fail
          refine (C2.out _ RW6.out).mono ?_
          rintro e w7 ⟨⟨v7, rfl, hv7⟩, hb7⟩
          obtain ⟨A7, c7, rfl, hr7⟩ := OwnEnts.read2 hv7
          have M7 : Hid (EntsAt w7 w7.heap.size A7 G) := hr7
          have L7 := Lib.hid ((L6.out.below hb7).mono hb7.size)
          have RV7 := Lib.hid ((RV6.out.below hb7).mono hb7.size)
          have RG7 := Lib.hid ((RG6.out.below hb7).mono hb7.size)
          have B7 := Lib.hid (B6.out.trans (hb7.mono B6.out.size))
          clear hv7 hr7 hb7 RV6 RW6 RG6 B6 C2 L6
          go_wp2_with fail
          refine (C3.out _ RV7.out).mono ?_
          rintro e w8 ⟨rfl, hb8⟩
          have L8 := Lib.hid ((L7.out.below hb8).mono hb8.size)
          have M8 := Lib.hid ((M7.out.below hb8).mono hb8.size)
          have RG8 := Lib.hid ((RG7.out.below hb8).mono hb8.size)
          have B8 := Lib.hid (B7.out.trans (hb8.mono B7.out.size))
          clear hb8 RV7 RG7 B7 C3 L7 M7
          go_wp2_with fail
          generalize hw9 : World.alloc w8 _ = w9
          have b9 : Below w8.heap.size w8 w9 := hw9 ▸ (Below.refl _ _).alloc (Nat.le_refl _) _
          have L9 := Lib.hid ((L8.out.below b9).mono b9.size)
          have M9 := Lib.hid ((M8.out.below b9).mono b9.size)
          have RG9 := Lib.hid ((RG8.out.below b9).mono b9.size)
          have B9 := Lib.hid (B8.out.trans (b9.mono B8.out.size))
          clear b9 hw9 RG8 B8 L8 M8
          refine (rsame_any _ _ _ _ G _ hgl L9.out RG9.out).mono ?_
          rintro e w10 ⟨rfl, hb10⟩
          have M10 := Lib.hid ((M9.out.below hb10).mono hb10.size)
          have RG10 := Lib.hid ((RG9.out.below hb10).mono hb10.size)
          have B10 := Lib.hid (B9.out.trans (hb10.mono B9.out.size))
          clear hb10 RG9 B9 L9 M9
          go_wp2_with fail
          refine (rsame_any _ _ _ _ G _ hgl M10.out RG10.out).mono ?_
          rintro e w11 ⟨rfl, hb11⟩
          have B11 := Lib.hid (B10.out.trans (hb11.mono B10.out.size))
          clear hb11 RG10 B10 M10
          go_wp2_with fail
          refine (CA.out _).mono ?_
          rintro e w12 ⟨rfl, hb12⟩
          have B12 := Lib.hid (B11.out.trans (hb12.mono B11.out.size))
          go_wp2
          go_ret
          exact ⟨rfl, B2.out.trans (B12.out.mono B2.out.size)⟩
end Go.Proofs.Ytoanladhikdcaaa
