/-
  Joined in one text: Top20Pl, Top20, DirG, RDirG, LawDirDrops.
-/
import Derived.Test.YtoanladhikdcaaaGreatDirSt
import Derived.Test.YtoanladhikdcaaaGreatInoC
import Derived.Test.YtoanladhikdcaaaGreatDirW
import Derived.Test.YtoanladhikdcaaaGreatGeomF
import Derived.Test.YtoanladhikdcaaaGreatExtM
import Derived.Test.YtoanladhikdcaaaGreatRCutD
import Derived.Test.YtoanladhikdcaaaGreatRDirZ
import Derived.Test.YtoanladhikdcaaaGreatRWriD
namespace Go.Proofs.YtoanladhikdcaaaGreat
set_option linter.unusedVariables false
set_option linter.unusedSimpArgs false
set_option maxRecDepth 100000
theorem new_slot0 (xs : List ByteArray) (m kind owner s : Nat) : slotX xs m (newL kind owner) s = 0 := by
  have h10 : (newL kind owner).getD 10 0 = 0 := rfl
  have h70 : slotX xs m (newL kind owner) 70 = 0 := by rw [slotX_ind, h10]; split <;> rfl
  by_cases hs : s < 70
  · rw [slotX_lt hs]
    by_cases h6 : s < 6
    · rw [at_low h6]
      have : (newL kind owner).getD (4 + s) 0 = 0 := by
        have key : s = 0 ∨ s = 1 ∨ s = 2 ∨ s = 3 ∨ s = 4 ∨ s = 5 := by omega
        rcases key with rfl | rfl | rfl | rfl | rfl | rfl <;> rfl
      rw [this]; split <;> rfl
    · exact at_hi0 (by omega) h70
  · unfold slotX
    rw [if_neg hs, h10]; split <;> rfl
/-- what an add does to a directory -/
theorem DirS.add {V : List ByteArray} {m n : Nat} {E : List EntV} (h : DirS V m n E) {nm : ByteArray} {ino : Int} (hk : okE ⟨nm, ino⟩ = true) (hh : hasE E nm = false) :
    addO V (n : Int) nm ino = writeO V (n : Int) 0 (bytesE (insE E ⟨nm, ino⟩)) ∧
    ((addO V (n : Int) nm ino).2 = 0 ∧ (∃ r, WroS m 0 (bytesE (insE E ⟨nm, ino⟩)) V (getR V (n : Int)) r ∧ (addO V (n : Int) nm ino).1 = putV r.1 n r.2) ∧ DirS (addO V (n : Int) nm ino).1 m n (insE E ⟨nm, ino⟩)
    ∨ (addO V (n : Int) nm ino).1 = [] ∧ ((addO V (n : Int) nm ino).2 = 6 ∧ 8960 < (bytesE (insE E ⟨nm, ino⟩)).length ∨ (addO V (n : Int) nm ino).2 = 10 ∧ wriG noK V m (getR V (n : Int)) 0 (bytesE (insE E ⟨nm, ino⟩)) = Option.none)) := by
  obtain ⟨hm, _, _, h1, h2⟩ := okE_ok hk
  have hl := h.list
  have e : addO V (n : Int) nm ino = writeO V (n : Int) 0 (bytesE (insE E ⟨nm, ino⟩)) := by
    unfold addO
    rw [if_neg (by rw [hm]; simp), if_neg (by dsimp only at h1 h2; omega), hl]
    dsimp only
    rw [if_neg (by simp), if_neg (by rw [hh]; simp)]
  refine ⟨e, ?_⟩
  rw [e]
  have hlen := insE_len E ⟨nm, ino⟩
  exact h.more (insE_valid h.valid hk hh) (by omega) (by omega)
def tpV : List ByteArray := putV (fmtV 24 8) 1 (newL 2 0)
theorem tp_plan : planE (24 : Nat) (8 : Nat) = 0 := by decide
theorem tp_free : freeI (fmtV 24 8) 8 = some 1 := by kernel_rfl
theorem tp_new : newO (fmtV 24 8) 2 0 = (tpV, 1, 0) := by
  unfold newO
  rw [ofR_some.2 (fmtV_vol tp_plan)]
  dsimp only
  rw [if_neg (by decide), tp_free]
  rfl
theorem tp_vol : IsVol tpV 8 := (fmtV_vol tp_plan).putI (by decide) (by decide) _
theorem tp_get : getR tpV ((1 : Nat) : Int) = newL 2 0 := get_put_same (fmtV_vol tp_plan) (n := 1) (by decide) (by decide) (newL_fit (by decide) (by decide))
theorem tp_dir : DirS tpV 8 1 [] := by
  have hs := new_slot0 tpV 8 2 0
  refine ⟨⟨by decide, by decide, ?_, ?_, ?_, ?_, fun i hi => absurd hi (by simp)⟩, ⟨fun x hx => by simp at hx, List.Pairwise.nil⟩⟩
  · rw [tp_get]; exact ⟨tp_vol, rfl, newL_fit (by decide) (by decide)⟩
  · rw [tp_get]; exact ⟨fun s _ h0 => absurd (hs s) h0, fun s t _ _ _ h0 => absurd (hs s) h0⟩
  · rw [tp_get]; rfl
  · rw [tp_get]; rfl
def aX : EntV := ⟨⟨#[97]⟩, 3⟩
def awV : List ByteArray := (addO tpV 1 ⟨#[97]⟩ 3).1
theorem aw_some : (wriG noK tpV 8 (newL 2 0) 0 (bytesE (insE [] aX))).isSome = true := by kernel_rfl
theorem aw_ok : okE aX = true := by kernel_rfl
theorem aw_add : addO tpV 1 ⟨#[97]⟩ 3 = (awV, 0) ∧ DirS awV 8 1 [aX] := by
  have h := (tp_dir.add (nm := ⟨#[97]⟩) (ino := 3) aw_ok rfl).2
  rcases h with ⟨h1, _, h3⟩ | ⟨_, h | h⟩
  · refine ⟨?_, h3⟩
    show addO tpV 1 ⟨#[97]⟩ 3 = (awV, 0)
    rw [← h1]; rfl
  · have hb : (bytesE (insE [] ⟨⟨#[97]⟩, 3⟩)).length = 32 := by kernel_rfl
    rw [hb] at h
    exact absurd h.2 (by decide)
  · have h2 := h.2
    rw [tp_get] at h2
    have := aw_some
    unfold aX at this
    rw [h2] at this
    cases this
theorem aw_get : inoE awV 1 = 0 ∧ (getR awV 1).getD 3 0 = 32 := by
  have h := aw_add.2.file
  refine ⟨inoE_zero h.ok.vol h.num1 h.num2, ?_⟩
  have hs : sizeX (getR awV ((1 : Nat) : Int)) = 32 := h.size
  unfold sizeX at hs
  show (getR awV ((1 : Nat) : Int)).getD 3 0 = 32
  omega
end Go.Proofs.YtoanladhikdcaaaGreat

namespace Go.Proofs.YtoanladhikdcaaaGreat
open Go.RowKit
set_option linter.unusedVariables false
set_option linter.unusedSimpArgs false
set_option maxRecDepth 100000
set_option maxHeartbeats 4000000 in
theorem top_any (w : World) : Calls Tryz.prog 9 #[] w fun e w' => (∃ v, e = .returned (.tuple #[v, .bool true]) ∧ OwnRow tpV w v w') ∧ Below w.heap.size w w' := by
  have C2 : Hid (∀ w, Calls Tryz.prog 24 #[.int .i64 24, .int .i64 8] w fun e w' => (∃ v, e = .returned (.tuple #[v, .int .i64 0]) ∧ NewRow (fmtV 24 8) w v w') ∧ Below w.heap.size w w') := fun w => (format_any 24 8 w).mono fun e w' h => by
    unfold FmtPost at h
    rw [if_pos (show planE 24 8 = 0 by decide)] at h
    exact ⟨h.2, h.1⟩
  have C3 : Hid (∀ A c w, RowAt w w.heap.size A ((fmtV 24 8).map .string) → Calls Tryz.prog 25 #[.slice A (fmtV 24 8).length c, .int .i64 2, .int .i64 0] w fun e w' => (∃ v, e = .returned (.tuple #[v, .int .i64 1, .int .i64 0]) ∧ OwnRow tpV w v w') ∧ Below w.heap.size w w') := fun A c w hr => by
    have := new_ino A c (fmtV 24 8) 2 0 w (by rw [fmtV_length]; decide) hr
    rw [tp_new] at this
    exact this
  have HF : Hid ((fmtV 24 8).length ≤ maxLen) := by show _ ≤ _; rw [fmtV_length]; decide
  generalize fmtV 24 8 = f at *
  generalize tpV = g at *
  go_enter Tryz.func9, Tryz.ntmps9
  go_wp2_with fail
  refine (C2.out _).mono ?_
  rintro e w1 ⟨⟨v, rfl, hn⟩, hb1⟩
  obtain ⟨A1, c1, rfl, hr1⟩ := (hn.own HF.out).read
  have B1 := Lib.hid hb1
  have R1 := Lib.hid hr1
  clear hn hb1 hr1
  go_wp2_with fail
  refine (C3.out _ _ _ R1.out).mono ?_
  rintro e w2 ⟨⟨v, rfl, hn⟩, hb2⟩
  have B2 := Lib.hid (B1.out.trans (hb2.mono B1.out.size))
  have O2 := Lib.hid (own_low hn B1.out.size)
  clear hn hb2
  go_wp2
  go_ret2
  exact ⟨⟨_, rfl, O2.out⟩, B2.out⟩
set_option maxHeartbeats 4000000 in
theorem awake_any (w : World) : Calls Tryz.prog 5 #[] w fun e w' => e = .returned (.bool true) ∧ Below w.heap.size w w' := by
  have C1 := Lib.hid (top_any w)
  have HL : Hid (tpV.length ≤ 223 ∧ awV.length ≤ 223) := ⟨by have := tp_vol.len; omega, by have := aw_add.2.file.ok.vol.len; dsimp only at this; omega⟩
  have C2 : Hid (∀ A c w, RowAt w w.heap.size A (tpV.map .string) → Calls Tryz.prog 10 #[.slice A tpV.length c, .int .i64 1, .string ⟨#[97]⟩, .int .i64 3] w (RowCode awV 0 w)) := fun A c w hr => by
    have := add_any A c tpV 1 ⟨#[97]⟩ 3 w (by have := HL.out; omega) (by decide) hr
    rw [aw_add.1] at this
    exact this
  obtain ⟨a0, a1, a2, a3, a4, a5, a6, a7, a8, a9, a10, a11, hg⟩ := len12 (getR_len awV 1)
  have h3 := aw_get.2
  rw [hg] at h3
  have h3 : a3 = 32 := h3
  subst h3
  have C3 : Hid (∀ A c w, RowAt w w.heap.size A (awV.map .string) → Calls Tryz.prog 11 #[.slice A awV.length c, .int .i64 1] w fun e w' => e = .returned (.tuple #[.agg #[.int .i64 (a0 : Int), .int .i64 (a1 : Int), .int .i64 (a2 : Int), .int .i64 32, .int .i64 (a4 : Int), .int .i64 (a5 : Int), .int .i64 (a6 : Int), .int .i64 (a7 : Int), .int .i64 (a8 : Int), .int .i64 (a9 : Int), .int .i64 (a10 : Int), .int .i64 (a11 : Int)], .int .i64 0]) ∧ Below w.heap.size w w') := fun A c w hr => by
    have := get_ino A c awV 1 w (by have := HL.out; omega) hr
    rw [hg, aw_get.1] at this
    exact this
  clear hg
  generalize tpV = f at *
  generalize awV = g at *
  go_enter Tryz.func5, Tryz.ntmps5
  go_wp2_with fail
  refine C1.out.mono ?_
  rintro e w1 ⟨⟨v, rfl, hn⟩, hb1⟩
  obtain ⟨A1, c1, rfl, hr1⟩ := hn.read
  have B1 := Lib.hid hb1
  have R1 := Lib.hid hr1
  clear hn hb1 hr1 C1
  go_wp2_with fail
  refine (C2.out _ _ _ R1.out).mono ?_
  rintro e w2 ⟨⟨v, rfl, hn⟩, hb2⟩
  obtain ⟨A2, c2, rfl, hr2⟩ := hn.read
  have B2 := Lib.hid (B1.out.trans (hb2.mono B1.out.size))
  have R2 := Lib.hid hr2
  clear hn hb2 hr2
  go_wp2_with fail
  refine (C3.out _ _ _ R2.out).mono ?_
  rintro e w3 ⟨rfl, hb3⟩
  have B3 := Lib.hid (B2.out.trans (hb3.mono B2.out.size))
  clear hb3
  go_wp2
  go_ret
  exact ⟨rfl, B3.out.alloc B3.out.size _⟩
end Go.Proofs.YtoanladhikdcaaaGreat

namespace Go.Proofs.YtoanladhikdcaaaGreat
open Go.RowKit
set_option linter.unusedVariables false
set_option linter.unusedSimpArgs false
set_option maxRecDepth 100000
theorem exec_appE {P : Program} {w w' : World} {o : Oper} {ev : Operand → Value} {v v' : Value} {ad : Addr} {m c : Nat} (s x : Operand) (t : TypeId) (ho : o.op = .call { callee := .builtin .append, args := #[s, x], argTypes := #[t, t] }) (hs : ev s = v) (hx : ev x = .slice (some ad) m c)
    (hrun : (Builtin.append_ #[t, t] o.type #[v, .slice (some ad) m c]).run P w = .ok v' w') : (execOp ev o).run P w = .ok (.value v') w' := by
  simp [execOp, ho, resolve, invoke, builtin, hs, hx, hrun, Result.andThen]
theorem del_row {w : World} {base k : Nat} {v : Value} {l L2 : List EntV} (h : w.ownsRow base 49 2 v (0 + k + (l.length - (k + 1))) ([] ++ entC (l.take k) ++ entC (l.drop (k + 1)))) (hk : k < l.length)
    (he : entC (l.take k) ++ entC (l.drop (k + 1)) = entC L2) : w.ownsRow base 49 2 v (l.length - 1) (entC L2) := by
  rw [List.nil_append, he, show 0 + k + (l.length - (k + 1)) = l.length - 1 by omega] at h
  exact h
theorem bt_nil {b : ByteArray} (h : b.size = 32 * 0) : b.toList = [] := by
  rw [str_data]
  exact List.eq_nil_of_length_eq_zero (by rw [Array.length_toList]; exact h)
theorem bt_some {b : ByteArray} (h : b.size ≠ 0) : ¬ b.toList = [] := by
  rw [str_data]
  intro e
  have := congrArg List.length e
  rw [Array.length_toList] at this
  exact h this
theorem drop_plain {xs : List ByteArray} {n : Int} {nm : ByteArray} {l : List EntV} (hm : mayB nm.data.toList = true) (hl : listO xs n = (l, 0)) (hh : hasE l nm = true) :
    dropO xs n nm = if outE l nm = [] then cutO xs n 0 else if (writeO xs n 0 (bytesE (outE l nm))).2 ≠ 0 then ([], (writeO xs n 0 (bytesE (outE l nm))).2) else cutO (writeO xs n 0 (bytesE (outE l nm))).1 n ((32 * (outE l nm).length : Nat) : Int) := by
  unfold dropO
  rw [if_neg (by rw [hm]; simp), hl]
  dsimp only
  rw [if_neg (by simp), if_neg (by rw [hh]; simp)]
set_option maxHeartbeats 8000000 in
theorem drop_main (A : Option Addr) (c : Nat) (xs : List ByteArray) (n : Int) (nm : ByteArray) (w : World) (hx : xs.length ≤ 1000000) (hs : nm.size ≤ 140737488355328) (h : RowAt w w.heap.size A (xs.map .string))
    (l : List EntV) (hm : mayB nm.data.toList = true) (hl : listO xs n = (l, 0)) (hh : hasE l nm = true) :
    Calls Tryz.prog 6 #[.slice A xs.length c, .int .i64 n, .string nm] w (RowCode (dropO xs n nm).1 (dropO xs n nm).2 w) := by
  have CM := Lib.hid (may_any nm w hs)
  have CL := Lib.hid (fun w h => list_any A c xs n w hx h)
  have HR := Lib.hid h
  have hv := listO_valid (xs := xs) (n := n)
  have hn := listO_len (xs := xs) (n := n)
  rw [hl] at CL hv hn
  dsimp only at hv hn
  have HV := Lib.hid hv
  have HN := Lib.hid hn
  obtain ⟨r, hr⟩ : ∃ r, dropO xs n nm = r := ⟨_, rfl⟩
  rw [hr]
  rw [drop_plain hm hl hh] at hr
  rw [hm] at CM
  unfold ListPost at CL
  dsimp only at CL
  have CS := Lib.hid (fun A c w h => search_any A c l nm w hn HV.out.rise h)
  rw [hh] at CS
  obtain ⟨hk, hnk⟩ := (at_has HV.out.rise).1 hh
  have ho := at_out HV.out.rise hk hnk
  have HVO := Lib.hid (outE_valid HV.out nm)
  have hlen : (outE l nm).length = l.length - 1 := by rw [ho, List.length_append, List.length_take, List.length_drop]; omega
  have hb := bytesE_len HVO.out.ok
  rw [hlen] at hb
  have CB := Lib.hid (fun A c w h => bytes_any A c (outE l nm) w (by rw [hlen]; omega) (fun x hx => by have := okE_ok (HVO.out.ok x hx); omega) h)
  have CW := Lib.hid (fun w h => write_any A c xs n 0 ⟨(bytesE (outE l nm)).toArray⟩ w hx (by omega) (by show (bytesE (outE l nm)).toArray.size ≤ _; rw [List.size_toArray, hb]; omega) h)
  rw [hlen] at CB
  dsimp only at CW
  have HIE : Hid (entC (l.take (atE l nm)) ++ entC (l.drop (atE l nm + 1)) = entC (outE l nm)) := by
    show _ = _
    rw [ho, entC_app]
  have HLO := Lib.hid hlen
  have HBT : Hid ((⟨(bytesE (outE l nm)).toArray⟩ : ByteArray).size = 32 * (l.length - 1)) := by show (bytesE (outE l nm)).toArray.size = _; rw [List.size_toArray, hb]
  have hbt := HBT.out
  have HR0 : Hid (l.length - 1 = 0 → r = cutO xs n (((⟨(bytesE (outE l nm)).toArray⟩ : ByteArray).size : Nat) : Int)) := fun e => by
    rw [← hr, if_pos (List.eq_nil_of_length_eq_zero (hlen.trans e)), hbt, e]; rfl
  have HR1 : Hid (l.length - 1 ≠ 0 → r = if (writeO xs n 0 (bytesE (outE l nm))).2 ≠ 0 then ([], (writeO xs n 0 (bytesE (outE l nm))).2) else cutO (writeO xs n 0 (bytesE (outE l nm))).1 n (((⟨(bytesE (outE l nm)).toArray⟩ : ByteArray).size : Nat) : Int)) := fun e => by
    rw [← hr, if_neg (fun h => e (by rw [← hlen, h]; rfl)), hbt, hlen]
  have hle := writeO_le hx n 0 (bytesE (outE l nm))
  have CC := Lib.hid (fun A c xs w hx h => cut_any A c xs n (((⟨(bytesE (outE l nm)).toArray⟩ : ByteArray).size : Nat) : Int) w hx h)
  generalize writeO xs n 0 (bytesE (outE l nm)) = wo at *
  generalize outE l nm = L2 at *
  generalize (⟨(bytesE L2).toArray⟩ : ByteArray) = bt at *
  generalize atE l nm = k at *
  obtain ⟨i0, q1, q2, q3, q4⟩ := info_parts ent_info
  have I0 := Lib.hid (And.intro q1 (And.intro q2 (And.intro q3 q4)))
  obtain ⟨ys, ye⟩ := wo
  dsimp only at CW HR1 hle
  unfold RowCode at CW
  have HLE := Lib.hid hle
  clear q1 q2 q3 q4 h hm hh hlen hb HVO hv hl ho hnk hr hle hbt
  go_enter Tryz.func6, Tryz.ntmps6
  go_wp2_with fail
  refine CM.out.mono ?_
  rintro e w1 ⟨rfl, hb1⟩
  have B1 := Lib.hid hb1
  clear hb1 CM
  go_wp2_with fail
  refine (CL.out _ ((HR.out.below B1.out).mono B1.out.size)).mono ?_
  rintro e w2 ⟨⟨v, rfl, hv⟩, hb2⟩
  have B2 := Lib.hid (B1.out.trans (hb2.mono B1.out.size))
  obtain ⟨A2, c2, hA2, hr2⟩ := OwnEnts.read2 hv
  have HF := Lib.hid (hA2 ▸ hv.form)
  have R2 := Lib.hid hr2
  subst hA2
  clear hb2 hv hr2 CL
  go_wp2_with fail
  refine (CS.out _ _ _ R2.out).mono ?_
  rintro e w3 ⟨rfl, hb3⟩
  have B3 := Lib.hid (B2.out.trans (hb3.mono B2.out.size))
  have G0 := Lib.hid (Below.refl w3.heap.size w3)
  obtain ⟨g, cc, hvv, hc1, hc2, hg1, hg2, hcells⟩ : ∃ g c', Value.slice A2 l.length c2 = .slice (some ⟨g, 0, none⟩) l.length c' ∧ l.length ≤ c' ∧ c' ≤ maxLen ∧ w1.heap.size ≤ g ∧ g < w2.heap.size ∧ ∀ j u, (entC l)[j]? = some u → w2.cell? ⟨g, j, none⟩ = some u := by
    rcases HF.out with ⟨_, h⟩ | h
    · rw [h] at hk; exact absurd hk (Nat.not_lt_zero _)
    · exact h
  injection hvv with e1 e2 e3
  subst e1
  subst e3
  have HC3 : Hid (∀ j u, (entC l)[j]? = some u → w3.cell? ⟨g, j, none⟩ = some u) := fun j u hu => (hb3.cell (p := ⟨g, j, none⟩) hg2).trans (hcells j u hu)
  have HG3 : Hid (g < w3.heap.size) := Nat.lt_of_lt_of_le hg2 hb3.size
  have k1 : (k : Int) ≤ (c2 : Int) := by omega
  have k2 : (0 : Int) ≤ (k : Int) := by omega
  have k3 : IntKind.i64.wrap ((k : Int) + 1) = ((k + 1 : Nat) : Int) := by rw [show (k : Int) + 1 = ((k + 1 : Nat) : Int) by omega]; exact IntWalk.i64_in _ (by unfold maxLen at hc2; omega)
  have k4 : ((k + 1 : Nat) : Int) ≤ (l.length : Int) := by omega
  have k5 : (0 : Int) ≤ ((k + 1 : Nat) : Int) := by omega
  have hT : ∀ w', Below w3.heap.size w3 w' → ∀ j u, (entC (l.take k))[j]? = some u → w'.cell? ((⟨g, 0, none⟩ : Addr).add j) = some u := fun w' hb j u hu => by
    rw [add_zero_addr, Nat.zero_add]
    refine (hb.cell (p := ⟨g, j, none⟩) HG3.out).trans (HC3.out j u ?_)
    rw [← entC_take, List.getElem?_take] at hu
    split at hu
    · exact hu
    · cases hu
  have HT := Lib.hid hT
  have HC1 := Lib.hid hc1
  clear hb3 CS R2 HF hcells e2 hT hc1
  by_cases hkc : k + 1 = c2
  · subst hkc
    by_cases hone : l.length - 1 = 0
    · have HRR := Lib.hid (HR0.out hone)
      have b1 : bt.toList = [] := bt_nil (by rw [HBT.out, hone])
      have b2 : (bt.toList == []) = true := by rw [b1]; rfl
      have b3 : bt.toList.isEmpty = true := by rw [b1]; rfl
      have HONE := Lib.hid hone
      clear hone
      go_wp2_with fail
      apply wp_region_free (a2 := { tmps := #[Value.slice A xs.length c, Value.int .i64 n, Value.string nm, undef, undef, undef, Value.slice none 0 0, Value.int .i64 0, Value.slice (some ⟨g, 0, none⟩) l.length (k + 1), Value.int .i64 0, Value.int .i64 (k : Int), Value.bool true, undef, Value.string nm, Value.bool true, Value.bool false, Value.tuple #[Value.slice (some ⟨g, 0, none⟩) l.length (k + 1), Value.int .i64 0], Value.slice A xs.length c, Value.int .i64 n, Value.tuple #[Value.slice (some ⟨g, 0, none⟩) l.length (k + 1), Value.int .i64 0], Value.slice (some ⟨g, 0, none⟩) l.length (k + 1), Value.int .i64 0, Value.int .i64 0, Value.bool false, undef, Value.tuple #[Value.int .i64 (k : Int), Value.bool true], Value.slice (some ⟨g, 0, none⟩) l.length (k + 1), Value.string nm, Value.tuple #[Value.int .i64 (k : Int), Value.bool true], Value.int .i64 (k : Int), Value.bool true, Value.bool true, Value.bool false, Value.slice (some ⟨g, 0, none⟩) l.length (k + 1), Value.int .i64 (k : Int), Value.slice (some ⟨g, 0, none⟩) k (k + 1), undef, Value.slice (some ⟨g, 0, none⟩) l.length (k + 1), Value.int .i64 (k : Int), Value.int .i64 ((k : Int) + 1), Value.slice (some ⟨g, 0, none⟩) (l.length - (k + 1)) 0, undef, undef, undef, undef, undef, undef, undef, undef, undef, undef, undef, undef, undef, undef, undef, undef, undef, undef, undef, undef, undef], defers := [] }) 3 0 4 36 _ (fun X w' => w'.ownsRow w3.heap.size 49 2 X (0 + k) ([] ++ entC (l.take k))) (by kernel_rfl) (by kernel_rfl) rfl
      case hΦ => exact fun X u u' h hu => own_below h hu
      case W1 =>
        intro wb hwb
        unfold ExtC
        simp only [List.take_succ_cons, List.take_zero, List.drop_succ_cons, List.drop_zero]
        repeat (go_big_quiet_step (fail))
        exact wpQuiet_nil rfl
      case MK =>
        intro wb hwb
        obtain ⟨v', w', hrun, own, hg, _⟩ := run_append_own (P := Tryz.prog) (w := wb) w3.heap.size 39 _ 49 i0 (.agg #[.string ⟨#[]⟩, .int .i64 0]) 2 24 Tryz.underlying39 I0.out.1 I0.out.2.1 I0.out.2.2.1 I0.out.2.2.2 rfl (by decide) (.slice none 0 0) 0 [] (World.ownsRow_nil _ _ _ _) ⟨g, 0, none⟩ k (k + 1) (entC (l.take k)) (by rw [entC_len, List.length_take]; omega) (HT.out wb hwb) (entC_one _) (by unfold maxLen; omega) (by omega) hwb.size
        exact ⟨v', w', exec_appE (.const (.slice none 0 0)) (.tmp 35) 39 rfl rfl rfl hrun, own, (Below.refl _ _).grown hg (Nat.le_refl _) (fun j e => by cases e)⟩
      case UM =>
        intro X wb hwb hX
        exact wpQuiet_nil rfl
      case W2 =>
        intro X wb hwb
        unfold ExtC
        simp only [List.take_succ_cons, List.take_zero, List.drop_succ_cons, List.drop_zero]
        go_frame
        repeat (go_big_quiet_step (fail))
        exact wpQuiet_nil rfl
      intro v4 w4 hb4 own4
      have O4 : Hid (w4.ownsRow w3.heap.size 49 2 v4 (0 + k) ([] ++ entC (l.take k))) := own4
      have G4 : Hid (Below w3.heap.size w3 w4) := hb4
      have HC4 : Hid (∀ j u, (entC (l.drop (k + 1)))[j]? = some u → w4.cell? ((⟨g, 0, none⟩ : Addr).add j) = some u) := fun j u hu => row_past (w := w4) (g := g) (k := k + 1) HC1.out hu
      simp only [List.take_succ_cons, List.take_zero, List.drop_succ_cons, List.drop_zero]
      clear hb4 own4
      go_wp2_with (first
        | (at_builtin; refine wpList_append_own _ rfl (.tmp 36) (.tmp 40) 39 rfl w3.heap.size 49 i0 (.agg #[.string ⟨#[]⟩, .int .i64 0]) 2 24 Tryz.underlying39 I0.out.1 I0.out.2.1 I0.out.2.2.1 I0.out.2.2.2 rfl (by decide) _ (0 + k) ([] ++ entC (l.take k)) rfl O4.out ⟨g, 0, none⟩ (l.length - (k + 1)) 0 (entC (l.drop (k + 1))) rfl (by rw [entC_len, List.length_drop]) HC4.out (entC_one _) (by unfold maxLen; omega) (by omega) G4.out.size ?_; intro v8 w8 own hg hv8; have O8 := Lib.hid own; have G8 := Lib.hid (G4.out.grown hg G4.out.size (fun j e => (O4.out.lt j e).1)); have O9 : Hid (w8.ownsRow w3.heap.size 49 2 v8 (l.length - 1) (entC L2)) := del_row O8.out hk HIE.out; obtain ⟨A8, c8, hv8, hr8⟩ := own_ents O9.out HLO.out; subst hv8; have R8 := Lib.hid hr8; clear own hg O4 G4 HC4 O8 hr8)
        | (go_at_call 15; refine (CB.out _ _ _ R8.out).mono ?_; rintro e w9 ⟨rfl, hb9⟩; have B9 := Lib.hid (B3.out.trans ((G8.out.trans (hb9.mono G8.out.size)).mono B3.out.size)); clear hb9)
        | (go_at_call 16; refine (CW.out _ ((HR.out.below B9.out).mono B9.out.size)).mono ?_; rintro e w10 ⟨⟨v10, rfl, hv10⟩, hb10⟩; obtain ⟨A10, c10, rfl, hr10⟩ := hv10.read; have R10 := Lib.hid hr10; have B10 := Lib.hid (B9.out.trans (hb10.mono B9.out.size)); clear hv10 hb10 hr10)
        | (go_at_call 17; refine (CC.out A c xs _ hx ((HR.out.below B9.out).mono B9.out.size)).mono ?_; rintro e w11 ⟨⟨v11, rfl, hv11⟩, hb11⟩; have B11 := Lib.hid (B9.out.trans (hb11.mono B9.out.size)); have O11 := Lib.hid (own_low hv11 B9.out.size); clear hv11 hb11))
      go_ret2
      rw [HRR.out]
      exact ⟨⟨_, rfl, O11.out⟩, B11.out⟩
    · have HR2 := Lib.hid (HR1.out hone)
      have b1 : ¬ bt.toList = [] := bt_some (by rw [HBT.out]; omega)
      have b2 : (bt.toList == []) = false := by simpa using b1
      have b3 : bt.toList.isEmpty = false := by simpa using b1
      have HONE := Lib.hid hone
      clear hone
      by_cases hye : ye = 0
      · subst hye
        have HRR : Hid (r = cutO ys n ((bt.size : Nat) : Int)) := by show _ = _; rw [HR2.out, if_neg (by simp)]
        go_wp2_with fail
        apply wp_region_free (a2 := { tmps := #[Value.slice A xs.length c, Value.int .i64 n, Value.string nm, undef, undef, undef, Value.slice none 0 0, Value.int .i64 0, Value.slice (some ⟨g, 0, none⟩) l.length (k + 1), Value.int .i64 0, Value.int .i64 (k : Int), Value.bool true, undef, Value.string nm, Value.bool true, Value.bool false, Value.tuple #[Value.slice (some ⟨g, 0, none⟩) l.length (k + 1), Value.int .i64 0], Value.slice A xs.length c, Value.int .i64 n, Value.tuple #[Value.slice (some ⟨g, 0, none⟩) l.length (k + 1), Value.int .i64 0], Value.slice (some ⟨g, 0, none⟩) l.length (k + 1), Value.int .i64 0, Value.int .i64 0, Value.bool false, undef, Value.tuple #[Value.int .i64 (k : Int), Value.bool true], Value.slice (some ⟨g, 0, none⟩) l.length (k + 1), Value.string nm, Value.tuple #[Value.int .i64 (k : Int), Value.bool true], Value.int .i64 (k : Int), Value.bool true, Value.bool true, Value.bool false, Value.slice (some ⟨g, 0, none⟩) l.length (k + 1), Value.int .i64 (k : Int), Value.slice (some ⟨g, 0, none⟩) k (k + 1), undef, Value.slice (some ⟨g, 0, none⟩) l.length (k + 1), Value.int .i64 (k : Int), Value.int .i64 ((k : Int) + 1), Value.slice (some ⟨g, 0, none⟩) (l.length - (k + 1)) 0, undef, undef, undef, undef, undef, undef, undef, undef, undef, undef, undef, undef, undef, undef, undef, undef, undef, undef, undef, undef, undef], defers := [] }) 3 0 4 36 _ (fun X w' => w'.ownsRow w3.heap.size 49 2 X (0 + k) ([] ++ entC (l.take k))) (by kernel_rfl) (by kernel_rfl) rfl
        case hΦ => exact fun X u u' h hu => own_below h hu
        case W1 =>
          intro wb hwb
          unfold ExtC
          simp only [List.take_succ_cons, List.take_zero, List.drop_succ_cons, List.drop_zero]
          repeat (go_big_quiet_step (fail))
          exact wpQuiet_nil rfl
        case MK =>
          intro wb hwb
          obtain ⟨v', w', hrun, own, hg, _⟩ := run_append_own (P := Tryz.prog) (w := wb) w3.heap.size 39 _ 49 i0 (.agg #[.string ⟨#[]⟩, .int .i64 0]) 2 24 Tryz.underlying39 I0.out.1 I0.out.2.1 I0.out.2.2.1 I0.out.2.2.2 rfl (by decide) (.slice none 0 0) 0 [] (World.ownsRow_nil _ _ _ _) ⟨g, 0, none⟩ k (k + 1) (entC (l.take k)) (by rw [entC_len, List.length_take]; omega) (HT.out wb hwb) (entC_one _) (by unfold maxLen; omega) (by omega) hwb.size
          exact ⟨v', w', exec_appE (.const (.slice none 0 0)) (.tmp 35) 39 rfl rfl rfl hrun, own, (Below.refl _ _).grown hg (Nat.le_refl _) (fun j e => by cases e)⟩
        case UM =>
          intro X wb hwb hX
          exact wpQuiet_nil rfl
        case W2 =>
          intro X wb hwb
          unfold ExtC
          simp only [List.take_succ_cons, List.take_zero, List.drop_succ_cons, List.drop_zero]
          go_frame
          repeat (go_big_quiet_step (fail))
          exact wpQuiet_nil rfl
        intro v4 w4 hb4 own4
        have O4 : Hid (w4.ownsRow w3.heap.size 49 2 v4 (0 + k) ([] ++ entC (l.take k))) := own4
        have G4 : Hid (Below w3.heap.size w3 w4) := hb4
        have HC4 : Hid (∀ j u, (entC (l.drop (k + 1)))[j]? = some u → w4.cell? ((⟨g, 0, none⟩ : Addr).add j) = some u) := fun j u hu => row_past (w := w4) (g := g) (k := k + 1) HC1.out hu
        simp only [List.take_succ_cons, List.take_zero, List.drop_succ_cons, List.drop_zero]
        clear hb4 own4
        go_wp2_with (first
          | (at_builtin; refine wpList_append_own _ rfl (.tmp 36) (.tmp 40) 39 rfl w3.heap.size 49 i0 (.agg #[.string ⟨#[]⟩, .int .i64 0]) 2 24 Tryz.underlying39 I0.out.1 I0.out.2.1 I0.out.2.2.1 I0.out.2.2.2 rfl (by decide) _ (0 + k) ([] ++ entC (l.take k)) rfl O4.out ⟨g, 0, none⟩ (l.length - (k + 1)) 0 (entC (l.drop (k + 1))) rfl (by rw [entC_len, List.length_drop]) HC4.out (entC_one _) (by unfold maxLen; omega) (by omega) G4.out.size ?_; intro v8 w8 own hg hv8; have O8 := Lib.hid own; have G8 := Lib.hid (G4.out.grown hg G4.out.size (fun j e => (O4.out.lt j e).1)); have O9 : Hid (w8.ownsRow w3.heap.size 49 2 v8 (l.length - 1) (entC L2)) := del_row O8.out hk HIE.out; obtain ⟨A8, c8, hv8, hr8⟩ := own_ents O9.out HLO.out; subst hv8; have R8 := Lib.hid hr8; clear own hg O4 G4 HC4 O8 hr8)
          | (go_at_call 15; refine (CB.out _ _ _ R8.out).mono ?_; rintro e w9 ⟨rfl, hb9⟩; have B9 := Lib.hid (B3.out.trans ((G8.out.trans (hb9.mono G8.out.size)).mono B3.out.size)); clear hb9)
          | (go_at_call 16; refine (CW.out _ ((HR.out.below B9.out).mono B9.out.size)).mono ?_; rintro e w10 ⟨⟨v10, rfl, hv10⟩, hb10⟩; obtain ⟨A10, c10, rfl, hr10⟩ := hv10.read; have R10 := Lib.hid hr10; have B10 := Lib.hid (B9.out.trans (hb10.mono B9.out.size)); clear hv10 hb10 hr10)
          | (go_at_call 17; refine (CC.out A10 c10 ys _ HLE.out R10.out).mono ?_; rintro e w11 ⟨⟨v11, rfl, hv11⟩, hb11⟩; have B11 := Lib.hid (B10.out.trans (hb11.mono B10.out.size)); have O11 := Lib.hid (own_low hv11 B10.out.size); clear hv11 hb11))
        go_ret2
        rw [HRR.out]
        exact ⟨⟨_, rfl, O11.out⟩, B11.out⟩
      · have HRR : Hid (r = ([], ye)) := by show _ = _; rw [HR2.out, if_pos hye]
        have h01 : (ye != 0) = true := by simpa using hye
        clear hye
        go_wp2_with fail
        apply wp_region_free (a2 := { tmps := #[Value.slice A xs.length c, Value.int .i64 n, Value.string nm, undef, undef, undef, Value.slice none 0 0, Value.int .i64 0, Value.slice (some ⟨g, 0, none⟩) l.length (k + 1), Value.int .i64 0, Value.int .i64 (k : Int), Value.bool true, undef, Value.string nm, Value.bool true, Value.bool false, Value.tuple #[Value.slice (some ⟨g, 0, none⟩) l.length (k + 1), Value.int .i64 0], Value.slice A xs.length c, Value.int .i64 n, Value.tuple #[Value.slice (some ⟨g, 0, none⟩) l.length (k + 1), Value.int .i64 0], Value.slice (some ⟨g, 0, none⟩) l.length (k + 1), Value.int .i64 0, Value.int .i64 0, Value.bool false, undef, Value.tuple #[Value.int .i64 (k : Int), Value.bool true], Value.slice (some ⟨g, 0, none⟩) l.length (k + 1), Value.string nm, Value.tuple #[Value.int .i64 (k : Int), Value.bool true], Value.int .i64 (k : Int), Value.bool true, Value.bool true, Value.bool false, Value.slice (some ⟨g, 0, none⟩) l.length (k + 1), Value.int .i64 (k : Int), Value.slice (some ⟨g, 0, none⟩) k (k + 1), undef, Value.slice (some ⟨g, 0, none⟩) l.length (k + 1), Value.int .i64 (k : Int), Value.int .i64 ((k : Int) + 1), Value.slice (some ⟨g, 0, none⟩) (l.length - (k + 1)) 0, undef, undef, undef, undef, undef, undef, undef, undef, undef, undef, undef, undef, undef, undef, undef, undef, undef, undef, undef, undef, undef], defers := [] }) 3 0 4 36 _ (fun X w' => w'.ownsRow w3.heap.size 49 2 X (0 + k) ([] ++ entC (l.take k))) (by kernel_rfl) (by kernel_rfl) rfl
        case hΦ => exact fun X u u' h hu => own_below h hu
        case W1 =>
          intro wb hwb
          unfold ExtC
          simp only [List.take_succ_cons, List.take_zero, List.drop_succ_cons, List.drop_zero]
          repeat (go_big_quiet_step (fail))
          exact wpQuiet_nil rfl
        case MK =>
          intro wb hwb
          obtain ⟨v', w', hrun, own, hg, _⟩ := run_append_own (P := Tryz.prog) (w := wb) w3.heap.size 39 _ 49 i0 (.agg #[.string ⟨#[]⟩, .int .i64 0]) 2 24 Tryz.underlying39 I0.out.1 I0.out.2.1 I0.out.2.2.1 I0.out.2.2.2 rfl (by decide) (.slice none 0 0) 0 [] (World.ownsRow_nil _ _ _ _) ⟨g, 0, none⟩ k (k + 1) (entC (l.take k)) (by rw [entC_len, List.length_take]; omega) (HT.out wb hwb) (entC_one _) (by unfold maxLen; omega) (by omega) hwb.size
          exact ⟨v', w', exec_appE (.const (.slice none 0 0)) (.tmp 35) 39 rfl rfl rfl hrun, own, (Below.refl _ _).grown hg (Nat.le_refl _) (fun j e => by cases e)⟩
        case UM =>
          intro X wb hwb hX
          exact wpQuiet_nil rfl
        case W2 =>
          intro X wb hwb
          unfold ExtC
          simp only [List.take_succ_cons, List.take_zero, List.drop_succ_cons, List.drop_zero]
          go_frame
          repeat (go_big_quiet_step (fail))
          exact wpQuiet_nil rfl
        intro v4 w4 hb4 own4
        have O4 : Hid (w4.ownsRow w3.heap.size 49 2 v4 (0 + k) ([] ++ entC (l.take k))) := own4
        have G4 : Hid (Below w3.heap.size w3 w4) := hb4
        have HC4 : Hid (∀ j u, (entC (l.drop (k + 1)))[j]? = some u → w4.cell? ((⟨g, 0, none⟩ : Addr).add j) = some u) := fun j u hu => row_past (w := w4) (g := g) (k := k + 1) HC1.out hu
        simp only [List.take_succ_cons, List.take_zero, List.drop_succ_cons, List.drop_zero]
        clear hb4 own4
        go_wp2_with (first
          | (at_builtin; refine wpList_append_own _ rfl (.tmp 36) (.tmp 40) 39 rfl w3.heap.size 49 i0 (.agg #[.string ⟨#[]⟩, .int .i64 0]) 2 24 Tryz.underlying39 I0.out.1 I0.out.2.1 I0.out.2.2.1 I0.out.2.2.2 rfl (by decide) _ (0 + k) ([] ++ entC (l.take k)) rfl O4.out ⟨g, 0, none⟩ (l.length - (k + 1)) 0 (entC (l.drop (k + 1))) rfl (by rw [entC_len, List.length_drop]) HC4.out (entC_one _) (by unfold maxLen; omega) (by omega) G4.out.size ?_; intro v8 w8 own hg hv8; have O8 := Lib.hid own; have G8 := Lib.hid (G4.out.grown hg G4.out.size (fun j e => (O4.out.lt j e).1)); have O9 : Hid (w8.ownsRow w3.heap.size 49 2 v8 (l.length - 1) (entC L2)) := del_row O8.out hk HIE.out; obtain ⟨A8, c8, hv8, hr8⟩ := own_ents O9.out HLO.out; subst hv8; have R8 := Lib.hid hr8; clear own hg O4 G4 HC4 O8 hr8)
          | (go_at_call 15; refine (CB.out _ _ _ R8.out).mono ?_; rintro e w9 ⟨rfl, hb9⟩; have B9 := Lib.hid (B3.out.trans ((G8.out.trans (hb9.mono G8.out.size)).mono B3.out.size)); clear hb9)
          | (go_at_call 16; refine (CW.out _ ((HR.out.below B9.out).mono B9.out.size)).mono ?_; rintro e w10 ⟨⟨v10, rfl, hv10⟩, hb10⟩; obtain ⟨A10, c10, rfl, hr10⟩ := hv10.read; have R10 := Lib.hid hr10; have B10 := Lib.hid (B9.out.trans (hb10.mono B9.out.size)); clear hv10 hb10 hr10)
          | (go_at_call 17; refine (CC.out A10 c10 ys _ HLE.out R10.out).mono ?_; rintro e w11 ⟨⟨v11, rfl, hv11⟩, hb11⟩; have B11 := Lib.hid (B10.out.trans (hb11.mono B10.out.size)); have O11 := Lib.hid (own_low hv11 B10.out.size); clear hv11 hb11))
        go_ret2
        rw [HRR.out]
        exact RowCode.none B10.out
  · have k6 : ¬ c2 = k + 1 := fun e => hkc e.symm
    have k7 : ((k + 1 : Nat) : Int) < (c2 : Int) := by have := HC1.out; omega
    by_cases hone : l.length - 1 = 0
    · have HRR := Lib.hid (HR0.out hone)
      have b1 : bt.toList = [] := bt_nil (by rw [HBT.out, hone])
      have b2 : (bt.toList == []) = true := by rw [b1]; rfl
      have b3 : bt.toList.isEmpty = true := by rw [b1]; rfl
      have HONE := Lib.hid hone
      clear hone
      go_wp2_with fail
      apply wp_region_free (a2 := { tmps := #[Value.slice A xs.length c, Value.int .i64 n, Value.string nm, undef, undef, undef, Value.slice none 0 0, Value.int .i64 0, Value.slice (some ⟨g, 0, none⟩) l.length c2, Value.int .i64 0, Value.int .i64 (k : Int), Value.bool true, undef, Value.string nm, Value.bool true, Value.bool false, Value.tuple #[Value.slice (some ⟨g, 0, none⟩) l.length c2, Value.int .i64 0], Value.slice A xs.length c, Value.int .i64 n, Value.tuple #[Value.slice (some ⟨g, 0, none⟩) l.length c2, Value.int .i64 0], Value.slice (some ⟨g, 0, none⟩) l.length c2, Value.int .i64 0, Value.int .i64 0, Value.bool false, undef, Value.tuple #[Value.int .i64 (k : Int), Value.bool true], Value.slice (some ⟨g, 0, none⟩) l.length c2, Value.string nm, Value.tuple #[Value.int .i64 (k : Int), Value.bool true], Value.int .i64 (k : Int), Value.bool true, Value.bool true, Value.bool false, Value.slice (some ⟨g, 0, none⟩) l.length c2, Value.int .i64 (k : Int), Value.slice (some ⟨g, 0, none⟩) k c2, undef, Value.slice (some ⟨g, 0, none⟩) l.length c2, Value.int .i64 (k : Int), Value.int .i64 ((k : Int) + 1), Value.slice (some ⟨g, (k + 1) * 2, none⟩) (l.length - (k + 1)) (c2 - (k + 1)), undef, undef, undef, undef, undef, undef, undef, undef, undef, undef, undef, undef, undef, undef, undef, undef, undef, undef, undef, undef, undef], defers := [] }) 3 0 4 36 _ (fun X w' => w'.ownsRow w3.heap.size 49 2 X (0 + k) ([] ++ entC (l.take k))) (by kernel_rfl) (by kernel_rfl) rfl
      case hΦ => exact fun X u u' h hu => own_below h hu
      case W1 =>
        intro wb hwb
        unfold ExtC
        simp only [List.take_succ_cons, List.take_zero, List.drop_succ_cons, List.drop_zero]
        repeat (go_big_quiet_step (fail))
        exact wpQuiet_nil rfl
      case MK =>
        intro wb hwb
        obtain ⟨v', w', hrun, own, hg, _⟩ := run_append_own (P := Tryz.prog) (w := wb) w3.heap.size 39 _ 49 i0 (.agg #[.string ⟨#[]⟩, .int .i64 0]) 2 24 Tryz.underlying39 I0.out.1 I0.out.2.1 I0.out.2.2.1 I0.out.2.2.2 rfl (by decide) (.slice none 0 0) 0 [] (World.ownsRow_nil _ _ _ _) ⟨g, 0, none⟩ k c2 (entC (l.take k)) (by rw [entC_len, List.length_take]; omega) (HT.out wb hwb) (entC_one _) (by unfold maxLen; omega) (by omega) hwb.size
        exact ⟨v', w', exec_appE (.const (.slice none 0 0)) (.tmp 35) 39 rfl rfl rfl hrun, own, (Below.refl _ _).grown hg (Nat.le_refl _) (fun j e => by cases e)⟩
      case UM =>
        intro X wb hwb hX
        exact wpQuiet_nil rfl
      case W2 =>
        intro X wb hwb
        unfold ExtC
        simp only [List.take_succ_cons, List.take_zero, List.drop_succ_cons, List.drop_zero]
        go_frame
        repeat (go_big_quiet_step (fail))
        exact wpQuiet_nil rfl
      intro v4 w4 hb4 own4
      have O4 : Hid (w4.ownsRow w3.heap.size 49 2 v4 (0 + k) ([] ++ entC (l.take k))) := own4
      have G4 : Hid (Below w3.heap.size w3 w4) := hb4
      have HC4 : Hid (∀ j u, (entC (l.drop (k + 1)))[j]? = some u → w4.cell? ((⟨g, (k + 1) * 2, none⟩ : Addr).add j) = some u) := fun j u hu => row_drop G4.out HG3.out HC3.out (k := k + 1) hu
      simp only [List.take_succ_cons, List.take_zero, List.drop_succ_cons, List.drop_zero]
      clear hb4 own4
      go_wp2_with (first
        | (at_builtin; refine wpList_append_own _ rfl (.tmp 36) (.tmp 40) 39 rfl w3.heap.size 49 i0 (.agg #[.string ⟨#[]⟩, .int .i64 0]) 2 24 Tryz.underlying39 I0.out.1 I0.out.2.1 I0.out.2.2.1 I0.out.2.2.2 rfl (by decide) _ (0 + k) ([] ++ entC (l.take k)) rfl O4.out ⟨g, (k + 1) * 2, none⟩ (l.length - (k + 1)) (c2 - (k + 1)) (entC (l.drop (k + 1))) rfl (by rw [entC_len, List.length_drop]) HC4.out (entC_one _) (by unfold maxLen; omega) (by omega) G4.out.size ?_; intro v8 w8 own hg hv8; have O8 := Lib.hid own; have G8 := Lib.hid (G4.out.grown hg G4.out.size (fun j e => (O4.out.lt j e).1)); have O9 : Hid (w8.ownsRow w3.heap.size 49 2 v8 (l.length - 1) (entC L2)) := del_row O8.out hk HIE.out; obtain ⟨A8, c8, hv8, hr8⟩ := own_ents O9.out HLO.out; subst hv8; have R8 := Lib.hid hr8; clear own hg O4 G4 HC4 O8 hr8)
        | (go_at_call 15; refine (CB.out _ _ _ R8.out).mono ?_; rintro e w9 ⟨rfl, hb9⟩; have B9 := Lib.hid (B3.out.trans ((G8.out.trans (hb9.mono G8.out.size)).mono B3.out.size)); clear hb9)
        | (go_at_call 16; refine (CW.out _ ((HR.out.below B9.out).mono B9.out.size)).mono ?_; rintro e w10 ⟨⟨v10, rfl, hv10⟩, hb10⟩; obtain ⟨A10, c10, rfl, hr10⟩ := hv10.read; have R10 := Lib.hid hr10; have B10 := Lib.hid (B9.out.trans (hb10.mono B9.out.size)); clear hv10 hb10 hr10)
        | (go_at_call 17; refine (CC.out A c xs _ hx ((HR.out.below B9.out).mono B9.out.size)).mono ?_; rintro e w11 ⟨⟨v11, rfl, hv11⟩, hb11⟩; have B11 := Lib.hid (B9.out.trans (hb11.mono B9.out.size)); have O11 := Lib.hid (own_low hv11 B9.out.size); clear hv11 hb11))
      go_ret2
      rw [HRR.out]
      exact ⟨⟨_, rfl, O11.out⟩, B11.out⟩
    · have HR2 := Lib.hid (HR1.out hone)
      have b1 : ¬ bt.toList = [] := bt_some (by rw [HBT.out]; omega)
      have b2 : (bt.toList == []) = false := by simpa using b1
      have b3 : bt.toList.isEmpty = false := by simpa using b1
      have HONE := Lib.hid hone
      clear hone
      by_cases hye : ye = 0
      · subst hye
        have HRR : Hid (r = cutO ys n ((bt.size : Nat) : Int)) := by show _ = _; rw [HR2.out, if_neg (by simp)]
        go_wp2_with fail
        apply wp_region_free (a2 := { tmps := #[Value.slice A xs.length c, Value.int .i64 n, Value.string nm, undef, undef, undef, Value.slice none 0 0, Value.int .i64 0, Value.slice (some ⟨g, 0, none⟩) l.length c2, Value.int .i64 0, Value.int .i64 (k : Int), Value.bool true, undef, Value.string nm, Value.bool true, Value.bool false, Value.tuple #[Value.slice (some ⟨g, 0, none⟩) l.length c2, Value.int .i64 0], Value.slice A xs.length c, Value.int .i64 n, Value.tuple #[Value.slice (some ⟨g, 0, none⟩) l.length c2, Value.int .i64 0], Value.slice (some ⟨g, 0, none⟩) l.length c2, Value.int .i64 0, Value.int .i64 0, Value.bool false, undef, Value.tuple #[Value.int .i64 (k : Int), Value.bool true], Value.slice (some ⟨g, 0, none⟩) l.length c2, Value.string nm, Value.tuple #[Value.int .i64 (k : Int), Value.bool true], Value.int .i64 (k : Int), Value.bool true, Value.bool true, Value.bool false, Value.slice (some ⟨g, 0, none⟩) l.length c2, Value.int .i64 (k : Int), Value.slice (some ⟨g, 0, none⟩) k c2, undef, Value.slice (some ⟨g, 0, none⟩) l.length c2, Value.int .i64 (k : Int), Value.int .i64 ((k : Int) + 1), Value.slice (some ⟨g, (k + 1) * 2, none⟩) (l.length - (k + 1)) (c2 - (k + 1)), undef, undef, undef, undef, undef, undef, undef, undef, undef, undef, undef, undef, undef, undef, undef, undef, undef, undef, undef, undef, undef], defers := [] }) 3 0 4 36 _ (fun X w' => w'.ownsRow w3.heap.size 49 2 X (0 + k) ([] ++ entC (l.take k))) (by kernel_rfl) (by kernel_rfl) rfl
        case hΦ => exact fun X u u' h hu => own_below h hu
        case W1 =>
          intro wb hwb
          unfold ExtC
          simp only [List.take_succ_cons, List.take_zero, List.drop_succ_cons, List.drop_zero]
          repeat (go_big_quiet_step (fail))
          exact wpQuiet_nil rfl
        case MK =>
          intro wb hwb
          obtain ⟨v', w', hrun, own, hg, _⟩ := run_append_own (P := Tryz.prog) (w := wb) w3.heap.size 39 _ 49 i0 (.agg #[.string ⟨#[]⟩, .int .i64 0]) 2 24 Tryz.underlying39 I0.out.1 I0.out.2.1 I0.out.2.2.1 I0.out.2.2.2 rfl (by decide) (.slice none 0 0) 0 [] (World.ownsRow_nil _ _ _ _) ⟨g, 0, none⟩ k c2 (entC (l.take k)) (by rw [entC_len, List.length_take]; omega) (HT.out wb hwb) (entC_one _) (by unfold maxLen; omega) (by omega) hwb.size
          exact ⟨v', w', exec_appE (.const (.slice none 0 0)) (.tmp 35) 39 rfl rfl rfl hrun, own, (Below.refl _ _).grown hg (Nat.le_refl _) (fun j e => by cases e)⟩
        case UM =>
          intro X wb hwb hX
          exact wpQuiet_nil rfl
        case W2 =>
          intro X wb hwb
          unfold ExtC
          simp only [List.take_succ_cons, List.take_zero, List.drop_succ_cons, List.drop_zero]
          go_frame
          repeat (go_big_quiet_step (fail))
          exact wpQuiet_nil rfl
        intro v4 w4 hb4 own4
        have O4 : Hid (w4.ownsRow w3.heap.size 49 2 v4 (0 + k) ([] ++ entC (l.take k))) := own4
        have G4 : Hid (Below w3.heap.size w3 w4) := hb4
        have HC4 : Hid (∀ j u, (entC (l.drop (k + 1)))[j]? = some u → w4.cell? ((⟨g, (k + 1) * 2, none⟩ : Addr).add j) = some u) := fun j u hu => row_drop G4.out HG3.out HC3.out (k := k + 1) hu
        simp only [List.take_succ_cons, List.take_zero, List.drop_succ_cons, List.drop_zero]
        clear hb4 own4
        go_wp2_with (first
          | (at_builtin; refine wpList_append_own _ rfl (.tmp 36) (.tmp 40) 39 rfl w3.heap.size 49 i0 (.agg #[.string ⟨#[]⟩, .int .i64 0]) 2 24 Tryz.underlying39 I0.out.1 I0.out.2.1 I0.out.2.2.1 I0.out.2.2.2 rfl (by decide) _ (0 + k) ([] ++ entC (l.take k)) rfl O4.out ⟨g, (k + 1) * 2, none⟩ (l.length - (k + 1)) (c2 - (k + 1)) (entC (l.drop (k + 1))) rfl (by rw [entC_len, List.length_drop]) HC4.out (entC_one _) (by unfold maxLen; omega) (by omega) G4.out.size ?_; intro v8 w8 own hg hv8; have O8 := Lib.hid own; have G8 := Lib.hid (G4.out.grown hg G4.out.size (fun j e => (O4.out.lt j e).1)); have O9 : Hid (w8.ownsRow w3.heap.size 49 2 v8 (l.length - 1) (entC L2)) := del_row O8.out hk HIE.out; obtain ⟨A8, c8, hv8, hr8⟩ := own_ents O9.out HLO.out; subst hv8; have R8 := Lib.hid hr8; clear own hg O4 G4 HC4 O8 hr8)
          | (go_at_call 15; refine (CB.out _ _ _ R8.out).mono ?_; rintro e w9 ⟨rfl, hb9⟩; have B9 := Lib.hid (B3.out.trans ((G8.out.trans (hb9.mono G8.out.size)).mono B3.out.size)); clear hb9)
          | (go_at_call 16; refine (CW.out _ ((HR.out.below B9.out).mono B9.out.size)).mono ?_; rintro e w10 ⟨⟨v10, rfl, hv10⟩, hb10⟩; obtain ⟨A10, c10, rfl, hr10⟩ := hv10.read; have R10 := Lib.hid hr10; have B10 := Lib.hid (B9.out.trans (hb10.mono B9.out.size)); clear hv10 hb10 hr10)
          | (go_at_call 17; refine (CC.out A10 c10 ys _ HLE.out R10.out).mono ?_; rintro e w11 ⟨⟨v11, rfl, hv11⟩, hb11⟩; have B11 := Lib.hid (B10.out.trans (hb11.mono B10.out.size)); have O11 := Lib.hid (own_low hv11 B10.out.size); clear hv11 hb11))
        go_ret2
        rw [HRR.out]
        exact ⟨⟨_, rfl, O11.out⟩, B11.out⟩
      · have HRR : Hid (r = ([], ye)) := by show _ = _; rw [HR2.out, if_pos hye]
        have h01 : (ye != 0) = true := by simpa using hye
        clear hye
        go_wp2_with fail
        apply wp_region_free (a2 := { tmps := #[Value.slice A xs.length c, Value.int .i64 n, Value.string nm, undef, undef, undef, Value.slice none 0 0, Value.int .i64 0, Value.slice (some ⟨g, 0, none⟩) l.length c2, Value.int .i64 0, Value.int .i64 (k : Int), Value.bool true, undef, Value.string nm, Value.bool true, Value.bool false, Value.tuple #[Value.slice (some ⟨g, 0, none⟩) l.length c2, Value.int .i64 0], Value.slice A xs.length c, Value.int .i64 n, Value.tuple #[Value.slice (some ⟨g, 0, none⟩) l.length c2, Value.int .i64 0], Value.slice (some ⟨g, 0, none⟩) l.length c2, Value.int .i64 0, Value.int .i64 0, Value.bool false, undef, Value.tuple #[Value.int .i64 (k : Int), Value.bool true], Value.slice (some ⟨g, 0, none⟩) l.length c2, Value.string nm, Value.tuple #[Value.int .i64 (k : Int), Value.bool true], Value.int .i64 (k : Int), Value.bool true, Value.bool true, Value.bool false, Value.slice (some ⟨g, 0, none⟩) l.length c2, Value.int .i64 (k : Int), Value.slice (some ⟨g, 0, none⟩) k c2, undef, Value.slice (some ⟨g, 0, none⟩) l.length c2, Value.int .i64 (k : Int), Value.int .i64 ((k : Int) + 1), Value.slice (some ⟨g, (k + 1) * 2, none⟩) (l.length - (k + 1)) (c2 - (k + 1)), undef, undef, undef, undef, undef, undef, undef, undef, undef, undef, undef, undef, undef, undef, undef, undef, undef, undef, undef, undef, undef], defers := [] }) 3 0 4 36 _ (fun X w' => w'.ownsRow w3.heap.size 49 2 X (0 + k) ([] ++ entC (l.take k))) (by kernel_rfl) (by kernel_rfl) rfl
        case hΦ => exact fun X u u' h hu => own_below h hu
        case W1 =>
          intro wb hwb
          unfold ExtC
          simp only [List.take_succ_cons, List.take_zero, List.drop_succ_cons, List.drop_zero]
          repeat (go_big_quiet_step (fail))
          exact wpQuiet_nil rfl
        case MK =>
          intro wb hwb
          obtain ⟨v', w', hrun, own, hg, _⟩ := run_append_own (P := Tryz.prog) (w := wb) w3.heap.size 39 _ 49 i0 (.agg #[.string ⟨#[]⟩, .int .i64 0]) 2 24 Tryz.underlying39 I0.out.1 I0.out.2.1 I0.out.2.2.1 I0.out.2.2.2 rfl (by decide) (.slice none 0 0) 0 [] (World.ownsRow_nil _ _ _ _) ⟨g, 0, none⟩ k c2 (entC (l.take k)) (by rw [entC_len, List.length_take]; omega) (HT.out wb hwb) (entC_one _) (by unfold maxLen; omega) (by omega) hwb.size
          exact ⟨v', w', exec_appE (.const (.slice none 0 0)) (.tmp 35) 39 rfl rfl rfl hrun, own, (Below.refl _ _).grown hg (Nat.le_refl _) (fun j e => by cases e)⟩
        case UM =>
          intro X wb hwb hX
          exact wpQuiet_nil rfl
        case W2 =>
          intro X wb hwb
          unfold ExtC
          simp only [List.take_succ_cons, List.take_zero, List.drop_succ_cons, List.drop_zero]
          go_frame
          repeat (go_big_quiet_step (fail))
          exact wpQuiet_nil rfl
        intro v4 w4 hb4 own4
        have O4 : Hid (w4.ownsRow w3.heap.size 49 2 v4 (0 + k) ([] ++ entC (l.take k))) := own4
        have G4 : Hid (Below w3.heap.size w3 w4) := hb4
        have HC4 : Hid (∀ j u, (entC (l.drop (k + 1)))[j]? = some u → w4.cell? ((⟨g, (k + 1) * 2, none⟩ : Addr).add j) = some u) := fun j u hu => row_drop G4.out HG3.out HC3.out (k := k + 1) hu
        simp only [List.take_succ_cons, List.take_zero, List.drop_succ_cons, List.drop_zero]
        clear hb4 own4
        go_wp2_with (first
          | (at_builtin; refine wpList_append_own _ rfl (.tmp 36) (.tmp 40) 39 rfl w3.heap.size 49 i0 (.agg #[.string ⟨#[]⟩, .int .i64 0]) 2 24 Tryz.underlying39 I0.out.1 I0.out.2.1 I0.out.2.2.1 I0.out.2.2.2 rfl (by decide) _ (0 + k) ([] ++ entC (l.take k)) rfl O4.out ⟨g, (k + 1) * 2, none⟩ (l.length - (k + 1)) (c2 - (k + 1)) (entC (l.drop (k + 1))) rfl (by rw [entC_len, List.length_drop]) HC4.out (entC_one _) (by unfold maxLen; omega) (by omega) G4.out.size ?_; intro v8 w8 own hg hv8; have O8 := Lib.hid own; have G8 := Lib.hid (G4.out.grown hg G4.out.size (fun j e => (O4.out.lt j e).1)); have O9 : Hid (w8.ownsRow w3.heap.size 49 2 v8 (l.length - 1) (entC L2)) := del_row O8.out hk HIE.out; obtain ⟨A8, c8, hv8, hr8⟩ := own_ents O9.out HLO.out; subst hv8; have R8 := Lib.hid hr8; clear own hg O4 G4 HC4 O8 hr8)
          | (go_at_call 15; refine (CB.out _ _ _ R8.out).mono ?_; rintro e w9 ⟨rfl, hb9⟩; have B9 := Lib.hid (B3.out.trans ((G8.out.trans (hb9.mono G8.out.size)).mono B3.out.size)); clear hb9)
          | (go_at_call 16; refine (CW.out _ ((HR.out.below B9.out).mono B9.out.size)).mono ?_; rintro e w10 ⟨⟨v10, rfl, hv10⟩, hb10⟩; obtain ⟨A10, c10, rfl, hr10⟩ := hv10.read; have R10 := Lib.hid hr10; have B10 := Lib.hid (B9.out.trans (hb10.mono B9.out.size)); clear hv10 hb10 hr10)
          | (go_at_call 17; refine (CC.out A10 c10 ys _ HLE.out R10.out).mono ?_; rintro e w11 ⟨⟨v11, rfl, hv11⟩, hb11⟩; have B11 := Lib.hid (B10.out.trans (hb11.mono B10.out.size)); have O11 := Lib.hid (own_low hv11 B10.out.size); clear hv11 hb11))
        go_ret2
        rw [HRR.out]
        exact RowCode.none B10.out
set_option maxHeartbeats 4000000 in
theorem drop_any (A : Option Addr) (c : Nat) (xs : List ByteArray) (n : Int) (nm : ByteArray) (w : World) (hx : xs.length ≤ 1000000) (hs : nm.size ≤ 140737488355328) (h : RowAt w w.heap.size A (xs.map .string)) :
    Calls Tryz.prog 6 #[.slice A xs.length c, .int .i64 n, .string nm] w (RowCode (dropO xs n nm).1 (dropO xs n nm).2 w) := by
  have CM := Lib.hid (may_any nm w hs)
  cases hm : mayB nm.data.toList with
  | false =>
    have HO : Hid (dropO xs n nm = ([], 7)) := by show _ = _; unfold dropO; rw [if_pos hm]
    rw [hm] at CM
    clear hm h
    go_enter Tryz.func6, Tryz.ntmps6
    go_wp2_with fail
    refine CM.out.mono ?_
    rintro e w1 ⟨rfl, hb1⟩
    have B1 := Lib.hid hb1
    go_wp2
    go_ret2
    rw [HO.out]
    exact RowCode.none B1.out
  | true =>
    have CL := Lib.hid (fun w h => list_any A c xs n w hx h)
    have HR := Lib.hid h
    by_cases h0 : (listO xs n).2 = 0
    · cases hh : hasE (listO xs n).1 nm with
      | true => exact drop_main A c xs n nm w hx hs h (listO xs n).1 hm (by rw [← h0]) hh
      | false =>
        have HO : Hid (dropO xs n nm = ([], 9)) := by show _ = _; unfold dropO; rw [if_neg (by rw [hm]; simp), if_neg (by rw [h0]; simp), if_pos hh]
        rw [hm] at CM
        have HV := Lib.hid (listO_valid (xs := xs) (n := n))
        have HN := Lib.hid (listO_len (xs := xs) (n := n))
        generalize listO xs n = lo at *
        obtain ⟨l, le⟩ := lo
        dsimp only at HV HN h0 hh
        subst h0
        have CS := Lib.hid (fun A c w h => search_any A c l nm w HN.out HV.out.rise h)
        rw [hh] at CS
        unfold ListPost at CL
        dsimp only at CL
        clear hm h hh
        go_enter Tryz.func6, Tryz.ntmps6
        go_wp2_with fail
        refine CM.out.mono ?_
        rintro e w1 ⟨rfl, hb1⟩
        have B1 := Lib.hid hb1
        clear hb1 CM
        go_wp2_with fail
        refine (CL.out _ ((HR.out.below B1.out).mono B1.out.size)).mono ?_
        rintro e w2 ⟨⟨v, rfl, hv⟩, hb2⟩
        have B2 := Lib.hid (B1.out.trans (hb2.mono B1.out.size))
        obtain ⟨A2, c2, rfl, hr2⟩ := OwnEnts.read2 hv
        have R2 := Lib.hid hr2
        clear hb2 hv hr2 CL
        go_wp2_with fail
        refine (CS.out _ _ _ R2.out).mono ?_
        rintro e w3 ⟨rfl, hb3⟩
        have B3 := Lib.hid (B2.out.trans (hb3.mono B2.out.size))
        clear hb3 CS
        go_wp2
        go_ret2
        rw [HO.out]
        exact RowCode.none B3.out
    · have HO : Hid (dropO xs n nm = ([], (listO xs n).2)) := by show _ = _; unfold dropO; rw [if_neg (by rw [hm]; simp), if_pos h0]
      rw [hm] at CM
      generalize listO xs n = lo at *
      obtain ⟨l, le⟩ := lo
      dsimp only at h0 HO
      unfold ListPost at CL
      dsimp only at CL
      have h01 : (le != 0) = true := by simpa using h0
      clear hm h h0
      go_enter Tryz.func6, Tryz.ntmps6
      go_wp2_with fail
      refine CM.out.mono ?_
      rintro e w1 ⟨rfl, hb1⟩
      have B1 := Lib.hid hb1
      clear hb1 CM
      go_wp2_with fail
      refine (CL.out _ ((HR.out.below B1.out).mono B1.out.size)).mono ?_
      rintro e w2 ⟨⟨v, rfl, hv⟩, hb2⟩
      have B2 := Lib.hid (B1.out.trans (hb2.mono B1.out.size))
      clear hb2 hv CL
      go_wp2
      go_ret2
      rw [HO.out]
      exact RowCode.none B2.out
end Go.Proofs.YtoanladhikdcaaaGreat

namespace Go.Proofs.YtoanladhikdcaaaGreat
open Go.RowKit
set_option linter.unusedVariables false
set_option linter.unusedSimpArgs false
set_option maxRecDepth 100000
theorem cutO_err {xs : List ByteArray} {n size : Int} (h : (cutO xs n size).2 ≠ 0) : (cutO xs n size).1 = [] := by
  unfold cutO at *
  by_cases h1 : inoE xs n ≠ 0
  · rw [if_pos h1]
  · rw [if_neg h1] at h ⊢
    by_cases h2 : size < 0
    · rw [if_pos h2]
    · rw [if_neg h2] at h ⊢
      by_cases h3 : 8960 < size
      · rw [if_pos h3]
      · rw [if_neg h3] at h
        exact absurd rfl h
theorem outE_snoc {l : List EntV} {nm : ByteArray} {k : Nat} (hk : k < l.length) : (l[k].name ≠ nm → outE (l.take (k + 1)) nm = outE (l.take k) nm ++ [l[k]]) ∧ (l[k].name = nm → outE (l.take (k + 1)) nm = outE (l.take k) nm) := by
  unfold outE
  rw [List.take_succ_eq_append_getElem hk, List.filter_append]
  constructor
  · intro h
    congr 1
    simp [h]
  · intro h
    simp [h]
theorem outE_le (l : List EntV) (nm : ByteArray) (k : Nat) : (outE (l.take k) nm).length ≤ k := by
  unfold outE
  refine Nat.le_trans (List.length_filter_le _ _) ?_
  rw [List.length_take]
  omega
theorem own_snoc2 {w : World} {B : Nat} {v : Value} {l : List EntV} {nm : ByteArray} {ino : Int} (h : w.ownsRow B 49 2 v (l.length + 1) (entC l ++ [Value.string nm, Value.int .i64 ino])) {l2 : List EntV} (e : l2 = l ++ [⟨nm, ino⟩]) : w.ownsRow B 49 2 v l2.length (entC l2) := by
  rw [e, List.length_append, entC_app]
  exact h
theorem two_one2 (nm : ByteArray) (ino : Int) : ∀ u ∈ [Value.string nm, Value.int .i64 ino], u.oneCell' = true := fun u hu => by
  rcases List.mem_cons.1 hu with rfl | hu
  · rfl
  · rcases List.mem_cons.1 hu with rfl | hu
    · rfl
    · cases hu
theorem RRow.none2 {w w' : World} {g c : Nat} {code : Int} (h : Below w.heap.size w w') : RRow [] code w (.returned (.tuple #[.slice (some ⟨g, 0, none⟩) 0 c, .int .i64 code])) w' := RRow.nil h
set_option maxHeartbeats 4000000 in
theorem rdropE_main (A : Option Addr) (c : Nat) (xs : List ByteArray) (n : Int) (nm : ByteArray) (w : World) (hx : xs.length ≤ 1000000) (hs : nm.size ≤ 140737488355328) (h : RowAt w w.heap.size A (xs.map .string))
    (l : List EntV) (hm : mayB nm.data.toList = true) (hl : listO xs n = (l, 0)) (hh : hasE l nm = true) :
    Calls Tryz.prog 7 #[.slice A xs.length c, .int .i64 n, .string nm] w (RRow (dropO xs n nm).1 (dropO xs n nm).2 w) := by
  have B0 := Lib.hid ((Below.refl w.heap.size w).alloc (Nat.le_refl _) (.cells #[] 9))
  have CM := Lib.hid (fun w => rmay_any nm w hs)
  have CL := Lib.hid (fun w h => rlist_any A c xs n w hx h)
  have HR := Lib.hid h
  have hv := listO_valid (xs := xs) (n := n)
  have hn := listO_len (xs := xs) (n := n)
  rw [hl] at CL hv hn
  dsimp only at hv hn
  have HV := Lib.hid hv
  obtain ⟨r, hr⟩ : ∃ r, dropO xs n nm = r := ⟨_, rfl⟩
  rw [hr]
  rw [drop_plain hm hl hh] at hr
  rw [hm] at CM
  unfold ListPost at CL
  dsimp only at CL
  have CS := Lib.hid (fun A c w h => rfind_any A c l nm w (by omega) h)
  have hz := ((get_has HV.out).1 hh).2
  generalize getE l nm = z at *
  have hz1 : (z == 0) = false := by simpa using hz
  have HVO := Lib.hid (outE_valid HV.out nm)
  have HLE := Lib.hid (outE_le l nm)
  have HSN := Lib.hid (fun k hk => outE_snoc (l := l) (nm := nm) (k := k) hk)
  have hb := bytesE_len HVO.out.ok
  have hol : (outE l nm).length ≤ 280 := by
    have := outE_le l nm l.length
    rw [List.take_length] at this
    omega
  have CB := Lib.hid (fun A c w h => rbytesE_any A c (outE l nm) w (by omega) (fun x hx => by have := okE_ok (HVO.out.ok x hx); omega) h)
  have CW := Lib.hid (fun w h => rwrite_any A c xs n 0 ⟨(bytesE (outE l nm)).toArray⟩ w hx (by omega) (by show (bytesE (outE l nm)).toArray.size ≤ _; rw [List.size_toArray, hb]; omega) h)
  dsimp only at CW
  have HR0 : Hid (outE l nm = [] → r = cutO xs n (32 * (((outE l nm).length : Nat) : Int))) := fun e => by
    rw [← hr, if_pos e, e]; rfl
  have HR1 : Hid (outE l nm ≠ [] → r = if (writeO xs n 0 (bytesE (outE l nm))).2 ≠ 0 then ([], (writeO xs n 0 (bytesE (outE l nm))).2) else cutO (writeO xs n 0 (bytesE (outE l nm))).1 n (32 * (((outE l nm).length : Nat) : Int))) := fun e => by
    rw [← hr, if_neg e, show (((32 * (outE l nm).length : Nat) : Int)) = 32 * (((outE l nm).length : Nat) : Int) by omega]
  have hle := writeO_le hx n 0 (bytesE (outE l nm))
  have CC := Lib.hid (fun A c xs w hx h => rcut_any A c xs n (32 * (((outE l nm).length : Nat) : Int)) w hx h)
  have HCE := Lib.hid (fun xs h => cutO_err (xs := xs) (n := n) (size := 32 * (((outE l nm).length : Nat) : Int)) h)
  generalize writeO xs n 0 (bytesE (outE l nm)) = wo at *
  generalize (⟨(bytesE (outE l nm)).toArray⟩ : ByteArray) = bt at *
  obtain ⟨ys, ye⟩ := wo
  dsimp only at CW HR1 hle
  unfold RRow at CW
  have HYE := Lib.hid hle
  obtain ⟨i0, q1, q2, q3, q4⟩ := info_parts ent_info
  have I0 := Lib.hid (And.intro q1 (And.intro q2 (And.intro q3 q4)))
  have HOT : Hid (outE (l.take l.length) nm = outE l nm) := by show _ = _; rw [List.take_length]
  obtain ⟨L, hL⟩ : ∃ L, outE l nm = L := ⟨_, rfl⟩
  rw [hL] at CB HR0 HR1 CC HCE HOT hol
  clear q1 q2 q3 q4 h hm hh hb HVO hv hl hr hle hL hz
  go_enter Tryz.func7, Tryz.ntmps7
  go_wp2_with fail
  generalize World.alloc w _ = w0 at *
  refine (CM.out _).mono ?_
  rintro e w1 ⟨rfl, rfl⟩
  go_wp2_with fail
  refine (CL.out _ ((HR.out.below B0.out).mono B0.out.size)).mono ?_
  rintro e w2 ⟨⟨v, rfl, hv⟩, hb2⟩
  obtain ⟨A2, c2, rfl, hr2⟩ := OwnEnts.read2 hv
  have B2 := Lib.hid (B0.out.trans (hb2.mono B0.out.size))
  have R2 := Lib.hid hr2
  clear hb2 hv hr2 CL B0
  go_wp2_with fail
  refine (CS.out _ _ _ R2.out).mono ?_
  rintro e w3 ⟨rfl, rfl⟩
  have OM := Lib.hid (made_ents w2)
  have BM := Lib.hid ((Below.refl w2.heap.size w2).alloc (Nat.le_refl _) (.cells #[] 49))
  have O0 : Hid ((w2.alloc (.cells #[] 49)).ownsRow w2.heap.size 49 2 (.slice (some ⟨w2.heap.size, 0, none⟩) 0 0) (outE (l.take 0) nm).length (entC (outE (l.take 0) nm))) := OM.out
  clear CS OM
  go_wp2
  generalize World.alloc w2 _ = w4 at *
  go_loopw [11, 37] (fun v i wr => ∃ k : Nat, k ≤ l.length ∧ i = .int .i64 (k : Int) ∧ Hid (wr.ownsRow w2.heap.size 49 2 v (outE (l.take k) nm).length (entC (outE (l.take k) nm))) ∧ Hid (Below w2.heap.size w2 wr)) (fun _ i _ => l.length - (intOf i).toNat)
  case atStart => exact ⟨0, Nat.zero_le _, rfl, O0, BM⟩
  case round =>
    clear O0 BM
    obtain ⟨k, hk, rfl, O, B⟩ := hrel
    by_cases hlt : k < l.length
    · have RR := Lib.hid (R2.out.below B.out)
      obtain ⟨bA, oA, rfl, hbA, hrA⟩ := RR.out.get hlt
      have i2 : (k : Int) < (l.length : Int) := by omega
      have i3 : (0 : Int) ≤ (k : Int) := by omega
      obtain ⟨s1, s2⟩ := HSN.out k hlt
      have hlen := HLE.out k
      generalize l[k] = y at *
      obtain ⟨sn, si⟩ := y
      dsimp only at *
      have hrk : Hid (wr.rangeAt bA (oA + k * 2) [.string sn, .int .i64 si]) := hrA
      have c0 := hrA 0 _ rfl
      rw [Nat.add_zero] at c0
      generalize outE (l.take k) nm = P at *
      obtain ⟨P2, hP2⟩ : ∃ P2, outE (l.take (k + 1)) nm = P2 := ⟨_, rfl⟩
      rw [hP2] at s1 s2
      have HP2 := Lib.hid hP2
      clear hP2
      clear hrA RR
      by_cases he : sn = nm
      · have h1 : (!sn.toList == nm.toList) = false := by rw [he]; exact str_eq _
        obtain rfl := s2 he
        clear s1 s2 he
        go_wp2
        go_roundw
        case rel => exact ⟨k + 1, by omega, by go_num, by rw [HP2.out]; exact O, B⟩
        case measure => simp [intOf]; omega
      · have h1 : (!sn.toList == nm.toList) = true := str_ne he
        have HP := Lib.hid (s1 he)
        have O7 := Lib.hid (World.ownsRow.alloc O.out (.cells #[.string sn, .int .i64 si] 49))
        have B7 := Lib.hid (B.out.alloc B.out.size (.cells #[.string sn, .int .i64 si] 49))
        have HC7 := Lib.hid (one_ent wr sn si)
        clear s1 s2 he
        go_wp2_with (first
          | (refine wpList_load_mid rfl 49 (.tmp 50) rfl bA (oA + k * 2) rfl _ _ hrk.out Tryz.underlying49 rfl (by kernel_rfl) ?_; go_frame)
          | (at_builtin; refine wpList_append_own _ rfl (.tmp 47) (.tmp 52) 39 rfl w2.heap.size 49 i0 (.agg #[.string ⟨#[]⟩, .int .i64 0]) 2 24 Tryz.underlying39 I0.out.1 I0.out.2.1 I0.out.2.2.1 I0.out.2.2.2 rfl (by decide) _ P.length (entC P) rfl O7.out ⟨wr.heap.size, 0, none⟩ 1 1 [Value.string sn, Value.int .i64 si] rfl rfl HC7.out (two_one2 sn si) (by unfold maxLen; omega) (by omega) B7.out.size ?_; intro v9 w9 own hg hv; have O9 := Lib.hid (own_snoc2 own HP.out); have B9 := Lib.hid (B7.out.grown hg B7.out.size (fun j e => (O7.out.lt j e).1)); clear own hg hv))
        go_roundw
        case rel => exact ⟨k + 1, by omega, by go_num, by rw [HP2.out]; exact O9, B9⟩
        case measure => simp [intOf]; omega
    · obtain rfl : k = l.length := by omega
      rw [HOT.out] at O
      obtain ⟨A5, c5, rfl, hr5⟩ := own_ents O.out rfl
      have R5 := Lib.hid hr5
      have B5 := Lib.hid (B2.out.trans (B.out.mono B2.out.size))
      have wm : IntKind.i64.wrap (32 * (L.length : Int)) = 32 * (L.length : Int) := IntWalk.i64_in _ (by omega)
      clear hr5 O B
      by_cases h0 : L = []
      · have HRR := Lib.hid (HR0.out h0)
        have z1 : ¬ (0 : Int) < (L.length : Int) := by rw [h0]; simp
        have z2 : L.length = 0 := by rw [h0]; rfl
        have z3 : decide (0 < L.length) = false := decide_eq_false (by omega)
        have CC1 := Lib.hid (fun w h => CC.out A c xs w hx h)
        have HC1 := Lib.hid (HCE.out xs)
        rw [← HRR.out] at CC1 HC1
        rw [show (32 : Int) * ((L.length : Nat) : Int) = 0 by rw [z2]; rfl] at CC1
        obtain ⟨rs, re⟩ := r
        unfold RRow at CC1
        dsimp only at CC1 HC1
        clear h0 HRR HR0 HR1 CC CB CW HCE wm
        by_cases hre : re = 0
        · subst hre
          clear HC1
          go_wp2_with fail
          refine (CC1.out _ ((HR.out.below B5.out).mono B5.out.size)).mono ?_
          rintro e w6 ⟨⟨A6, c6, rfl, hr6⟩, hb6⟩
          have B6 := Lib.hid (B5.out.trans (hb6.mono B5.out.size))
          have R6 := Lib.hid hr6
          clear hr6 hb6
          go_wp2
          go_ret2
          exact ⟨⟨_, _, rfl, R6.out⟩, B6.out⟩
        · obtain rfl := HC1.out hre
          have h01 : (re != 0) = true := by simpa using hre
          clear HC1 hre
          go_wp2_with fail
          refine (CC1.out _ ((HR.out.below B5.out).mono B5.out.size)).mono ?_
          rintro e w6 ⟨⟨A6, c6, rfl, hr6⟩, hb6⟩
          have B6 := Lib.hid (B5.out.trans (hb6.mono B5.out.size))
          clear hr6 hb6
          go_wp2
          go_ret2
          exact RRow.none2 B6.out
      · have HRR := Lib.hid (HR1.out h0)
        have z0 : 0 < L.length := by cases hx : L with
          | nil => exact absurd hx h0
          | cons _ _ => simp
        have z1 : (0 : Int) < (L.length : Int) := by omega
        have z3 : decide (0 < L.length) = true := decide_eq_true z0
        clear h0 HR0 HR1
        by_cases hye : ye = 0
        · subst hye
          have HR2 : Hid (cutO ys n (32 * (L.length : Int)) = r) := by show _ = _; rw [HRR.out, if_neg (by simp)]
          have CC1 := Lib.hid (fun A c w h => CC.out A c ys w HYE.out h)
          have HC1 := Lib.hid (HCE.out ys)
          rw [HR2.out] at CC1 HC1
          obtain ⟨rs, re⟩ := r
          unfold RRow at CC1
          dsimp only at CC1 HC1
          clear HRR HR2 CC HCE
          by_cases hre : re = 0
          · subst hre
            clear HC1
            go_wp2_with fail
            refine (CB.out _ _ _ R5.out).mono ?_
            rintro e w6 ⟨rfl, hb6⟩
            have B6 := Lib.hid (B5.out.trans (hb6.mono B5.out.size))
            clear hb6
            go_wp2_with fail
            refine (CW.out _ ((HR.out.below B6.out).mono B6.out.size)).mono ?_
            rintro e w7 ⟨⟨A7, c7, rfl, hr7⟩, hb7⟩
            have B7 := Lib.hid (B6.out.trans (hb7.mono B6.out.size))
            have R7 := Lib.hid hr7
            clear hr7 hb7
            go_wp2_with fail
            refine (CC1.out _ _ _ R7.out).mono ?_
            rintro e w8 ⟨⟨A8, c8, rfl, hr8⟩, hb8⟩
            have B8 := Lib.hid (B7.out.trans (hb8.mono B7.out.size))
            have R8 := Lib.hid hr8
            clear hr8 hb8
            go_wp2
            go_ret2
            exact ⟨⟨_, _, rfl, R8.out⟩, B8.out⟩
          · obtain rfl := HC1.out hre
            have h01 : (re != 0) = true := by simpa using hre
            clear HC1 hre
            go_wp2_with fail
            refine (CB.out _ _ _ R5.out).mono ?_
            rintro e w6 ⟨rfl, hb6⟩
            have B6 := Lib.hid (B5.out.trans (hb6.mono B5.out.size))
            clear hb6
            go_wp2_with fail
            refine (CW.out _ ((HR.out.below B6.out).mono B6.out.size)).mono ?_
            rintro e w7 ⟨⟨A7, c7, rfl, hr7⟩, hb7⟩
            have B7 := Lib.hid (B6.out.trans (hb7.mono B6.out.size))
            have R7 := Lib.hid hr7
            clear hr7 hb7
            go_wp2_with fail
            refine (CC1.out _ _ _ R7.out).mono ?_
            rintro e w8 ⟨⟨A8, c8, rfl, hr8⟩, hb8⟩
            have B8 := Lib.hid (B7.out.trans (hb8.mono B7.out.size))
            clear hr8 hb8
            go_wp2
            go_ret2
            exact RRow.none2 B8.out
        · have HR2 : Hid (r = ([], ye)) := by show _ = _; rw [HRR.out, if_pos hye]
          have h01 : (ye != 0) = true := by simpa using hye
          clear HRR CC HCE hye
          go_wp2_with fail
          refine (CB.out _ _ _ R5.out).mono ?_
          rintro e w6 ⟨rfl, hb6⟩
          have B6 := Lib.hid (B5.out.trans (hb6.mono B5.out.size))
          clear hb6
          go_wp2_with fail
          refine (CW.out _ ((HR.out.below B6.out).mono B6.out.size)).mono ?_
          rintro e w7 ⟨⟨A7, c7, rfl, hr7⟩, hb7⟩
          have B7 := Lib.hid (B6.out.trans (hb7.mono B6.out.size))
          clear hr7 hb7
          go_wp2
          go_ret2
          rw [HR2.out]
          exact RRow.none2 B7.out
set_option maxHeartbeats 4000000 in
theorem rdropE_any (A : Option Addr) (c : Nat) (xs : List ByteArray) (n : Int) (nm : ByteArray) (w : World) (hx : xs.length ≤ 1000000) (hs : nm.size ≤ 140737488355328) (h : RowAt w w.heap.size A (xs.map .string)) :
    Calls Tryz.prog 7 #[.slice A xs.length c, .int .i64 n, .string nm] w (RRow (dropO xs n nm).1 (dropO xs n nm).2 w) := by
  have CM := Lib.hid (fun w => rmay_any nm w hs)
  have B0 := Lib.hid ((Below.refl w.heap.size w).alloc (Nat.le_refl _) (.cells #[] 9))
  cases hm : mayB nm.data.toList with
  | false =>
    have HO : Hid (dropO xs n nm = ([], 7)) := by show _ = _; unfold dropO; rw [if_pos hm]
    rw [hm] at CM
    clear hm h
    go_enter Tryz.func7, Tryz.ntmps7
    go_wp2_with fail
    generalize World.alloc w _ = w0 at *
    refine (CM.out _).mono ?_
    rintro e w1 ⟨rfl, rfl⟩
    go_wp2
    go_ret2
    rw [HO.out]
    exact RRow.none2 B0.out
  | true =>
    have CL := Lib.hid (fun w h => rlist_any A c xs n w hx h)
    have HR := Lib.hid h
    by_cases h0 : (listO xs n).2 = 0
    · cases hh : hasE (listO xs n).1 nm with
      | true => exact rdropE_main A c xs n nm w hx hs h (listO xs n).1 hm (by rw [← h0]) hh
      | false =>
        have HO : Hid (dropO xs n nm = ([], 9)) := by show _ = _; unfold dropO; rw [if_neg (by rw [hm]; simp), if_neg (by rw [h0]; simp), if_pos hh]
        rw [hm] at CM
        have HV := Lib.hid (listO_valid (xs := xs) (n := n))
        have HN := Lib.hid (listO_len (xs := xs) (n := n))
        generalize listO xs n = lo at *
        obtain ⟨l, le⟩ := lo
        dsimp only at HV HN h0 hh
        subst h0
        have CS := Lib.hid (fun A c w h => rfind_any A c l nm w (by have := HN.out; omega) h)
        rw [(get_has HV.out).2 hh] at CS
        unfold ListPost at CL
        dsimp only at CL
        clear hm h hh
        go_enter Tryz.func7, Tryz.ntmps7
        go_wp2_with fail
        generalize World.alloc w _ = w0 at *
        refine (CM.out _).mono ?_
        rintro e w1 ⟨rfl, rfl⟩
        go_wp2_with fail
        refine (CL.out _ ((HR.out.below B0.out).mono B0.out.size)).mono ?_
        rintro e w2 ⟨⟨v, rfl, hv⟩, hb2⟩
        obtain ⟨A2, c2, rfl, hr2⟩ := OwnEnts.read2 hv
        have B2 := Lib.hid (B0.out.trans (hb2.mono B0.out.size))
        have R2 := Lib.hid hr2
        clear hb2 hv hr2 CL
        go_wp2_with fail
        refine (CS.out _ _ _ R2.out).mono ?_
        rintro e w3 ⟨rfl, rfl⟩
        go_wp2
        go_ret2
        rw [HO.out]
        exact RRow.none2 B2.out
    · have HO : Hid (dropO xs n nm = ([], (listO xs n).2)) := by show _ = _; unfold dropO; rw [if_neg (by rw [hm]; simp), if_pos h0]
      rw [hm] at CM
      generalize listO xs n = lo at *
      obtain ⟨l, le⟩ := lo
      dsimp only at h0 HO
      unfold ListPost at CL
      dsimp only at CL
      have h01 : (le != 0) = true := by simpa using h0
      clear hm h h0
      go_enter Tryz.func7, Tryz.ntmps7
      go_wp2_with fail
      generalize World.alloc w _ = w0 at *
      refine (CM.out _).mono ?_
      rintro e w1 ⟨rfl, rfl⟩
      go_wp2_with fail
      refine (CL.out _ ((HR.out.below B0.out).mono B0.out.size)).mono ?_
      rintro e w2 ⟨⟨v, rfl, hv⟩, hb2⟩
      have B2 := Lib.hid (B0.out.trans (hb2.mono B0.out.size))
      clear hb2 hv CL
      go_wp2
      go_ret2
      rw [HO.out]
      exact RRow.none2 B2.out
end Go.Proofs.YtoanladhikdcaaaGreat

namespace Go.Proofs.YtoanladhikdcaaaGreat
open Go.RowKit
set_option linter.unusedVariables false
set_option linter.unusedSimpArgs false
set_option maxRecDepth 100000
theorem dropO_le {xs : List ByteArray} (h : xs.length ≤ 1000000) (n : Int) (nm : ByteArray) : (dropO xs n nm).1.length ≤ 1000000 := by
  unfold dropO
  split
  · exact Nat.zero_le _
  · split
    · exact Nat.zero_le _
    · split
      · exact Nat.zero_le _
      · split
        · exact cutO_le h _ _
        · split
          · exact Nat.zero_le _
          · exact cutO_le (writeO_le h _ _ _) _ _
set_option maxHeartbeats 4000000 in
theorem law_drops (A : Option Addr) (c : Nat) (xs : List ByteArray) (n : Int) (nm : ByteArray) (w : World) (hx : xs.length ≤ maxLen) (hs : ∀ s ∈ xs, s.size ≤ 140737488355328) (hnm : nm.size ≤ 140737488355328) (h : RowAt w w.heap.size A (xs.map .string)) :
    Calls Tryz.prog 3 #[.slice A xs.length c, .int .i64 n, .string nm] w fun e w' => e = .returned (.bool true) ∧ Below w.heap.size w w' := by
  have HX := Lib.hid hx
  have HS := Lib.hid hs
  have R0 := Lib.hid h
  have CA := Lib.hid (fun w => awake_any w)
  have HE : Hid (∀ z : List ByteArray, eqL z z = true) := fun z => by unfold eqL; simp
  clear h hx hs
  go_enter Tryz.func3, Tryz.ntmps3
  go_wp2_with fail
  refine (great20_any A c xs _ HX.out (fun s h => Nat.le_trans (HS.out s h) (by decide)) R0.out).mono ?_
  rintro e w' ⟨⟨r, rfl, rfl | ⟨rfl, hl80⟩⟩, rfl⟩
  · go_wp2_with fail
    refine (CA.out _).mono ?_
    rintro e w1 ⟨rfl, hb1⟩
    go_wp2
    go_ret
    exact ⟨rfl, hb1⟩
  have HX6 : Hid (xs.length ≤ 1000000) := by show _ ≤ _; omega
  clear hl80
  by_cases h1 : 100 < nm.size
  · have e1 : (100 : Int) < (nm.size : Int) := by omega
    go_wp2_with fail
    refine (CA.out _).mono ?_
    rintro e w1 ⟨rfl, hb1⟩
    go_wp2
    go_ret
    exact ⟨rfl, hb1⟩
  have e1 : ¬ (100 : Int) < (nm.size : Int) := by omega
  have C1 := Lib.hid (fun w h => drop_any A c xs n nm w HX6.out hnm h)
  have C2 := Lib.hid (fun w h => rdropE_any A c xs n nm w HX6.out hnm h)
  have hle := dropO_le HX6.out n nm
  generalize dropO xs n nm = o at *
  obtain ⟨ys, ye⟩ := o
  unfold RowCode at C1
  unfold RRow at C2
  dsimp only at C1 C2 hle
  have HLE := Lib.hid hle
  clear h1 hnm hle
  go_wp2_with fail
  refine (C1.out _ R0.out).mono ?_
  rintro e w1 ⟨⟨v1, rfl, hv1⟩, hb1⟩
  obtain ⟨A1, c1, rfl, hr1⟩ := hv1.read
  have L1 := Lib.hid hr1
  have R1 := Lib.hid ((R0.out.below hb1).mono hb1.size)
  have B1 := Lib.hid hb1
  clear hv1 hr1 hb1 C1 R0
  go_wp2_with fail
  refine (C2.out _ R1.out).mono ?_
  rintro e w2 ⟨⟨A2, c2, rfl, hr2⟩, hb2⟩
  have L2 := Lib.hid hr2
  have L1' := Lib.hid ((L1.out.below hb2).mono hb2.size)
  have B2 := Lib.hid (B1.out.trans (hb2.mono B1.out.size))
  clear hr2 hb2 C2 R1 L1 B1
  have CSM := Lib.hid (samevol_below A1 A2 c1 c2 ys ys w2 (Nat.le_trans HLE.out (by decide)) (Nat.le_trans HLE.out (by decide)) L1'.out L2.out)
  rw [HE.out] at CSM
  go_wp2_with fail
  refine CSM.out.mono ?_
  rintro e w3 ⟨rfl, hb3⟩
  have B3 := Lib.hid (B2.out.trans (hb3.mono B2.out.size))
  clear hb3 B2
  go_wp2_with fail
  refine (CA.out _).mono ?_
  rintro e w4 ⟨rfl, hb4⟩
  have B4 := Lib.hid (B3.out.trans (hb4.mono B3.out.size))
  clear hb4 B3
  go_wp2
  go_ret
  exact ⟨rfl, B4.out⟩
end Go.Proofs.YtoanladhikdcaaaGreat
