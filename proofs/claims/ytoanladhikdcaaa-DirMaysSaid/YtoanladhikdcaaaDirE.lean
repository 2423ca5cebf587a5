/-
  Package dir: List, Find.
-/
import Derived.Test.YtoanladhikdcaaaDirD
import Derived.Test.YtoanladhikdcaaaExtRd
namespace Go.Proofs.Ytoanladhikdcaaa
open Go.RowKit
set_option linter.unusedVariables false
set_option linter.unusedSimpArgs false
set_option maxRecDepth 100000
/-- what is told: a row of entries of one's own, a code -/
def ListPost (o : List EntV × Int) (w : World) (e : Ending) (w' : World) : Prop := (∃ v, e = .returned (.tuple #[v, .int .i64 o.2]) ∧ OwnEnts o.1 w v w') ∧ Below w.heap.size w w'
theorem ListPost.none {w w' : World} {c : Int} (h : Below w.heap.size w w') : ListPost ([], c) w (.returned (.tuple #[.slice none 0 0, .int .i64 c])) w' := ⟨⟨_, rfl, World.ownsRow_nil _ _ _ _⟩, h⟩
theorem readO_dir {xs : List ByteArray} {n : Int} (h : inoE xs n = 0) : ∃ d, readO xs n 0 8960 = (d, 0) ∧ d.length ≤ 8960 ∧ readO xs n 0 (((getR xs n).getD 3 0 : Nat) : Int) = (d, 0) := by
  unfold readO
  rw [if_neg (by rw [h]; simp), if_neg (by omega), if_neg (by rw [h]; simp), if_neg (by omega)]
  refine ⟨_, rfl, ?_, ?_⟩
  · have := sizeX_le (getR xs n)
    unfold readX spanX
    rw [List.length_map, List.length_range']
    omega
  · have e : min (((0 : Int).toNat + ((((getR xs n).getD 3 0 : Nat) : Int)).toNat)) (sizeX (getR xs n)) = min ((0 : Int).toNat + (8960 : Int).toNat) (sizeX (getR xs n)) := by
      unfold sizeX
      rw [Int.toNat_natCast]
      show min (0 + _) _ = min (0 + 8960) _
      omega
    unfold readX
    rw [e]
theorem listO_len {xs : List ByteArray} {n : Int} : (listO xs n).1.length ≤ 280 := by
  unfold listO
  split
  · simp
  · split
    · simp
    · rename_i h0 _
      obtain ⟨d, hd, hl, _⟩ := readO_dir (Classical.not_not.1 h0)
      rw [hd]
      cases h : entsO d with
      | none => simp
      | some l =>
        have := (entsO_some h).2.2
        show l.length ≤ 280
        omega
set_option maxHeartbeats 4000000 in
theorem list_any (A : Option Addr) (c : Nat) (xs : List ByteArray) (n : Int) (w : World) (hx : xs.length ≤ 1000000) (h : RowAt w w.heap.size A (xs.map .string)) :
    Calls Try.prog 18 #[.slice A xs.length c, .int .i64 n] w (ListPost (listO xs n) w) := by
  have CG := Lib.hid (get_ino A c xs n w hx h)
  have HR := Lib.hid h
  obtain ⟨a0, a1, a2, a3, a4, a5, a6, a7, a8, a9, a10, a11, hg⟩ := len12 (getR_len xs n)
  have HO : Hid (listO xs n = if inoE xs n ≠ 0 then ([], inoE xs n) else if a0 ≠ 2 then ([], 11) else match entsO (readO xs n 0 8960).1 with | none => ([], 3) | some l => (l, 0)) := by show _ = _; unfold listO; rw [hg]; rfl
  have CR := Lib.hid (fun w h => read_any A c xs n 0 8960 w hx h)
  have HD : Hid (inoE xs n = 0 → _) := fun h => readO_dir (n := n) h
  rw [hg] at CG
  unfold inoC at CG
  simp only [List.map_cons, List.map_nil] at CG
  have HI := Lib.hid (Below.refl 0 w)
  clear hg h
  generalize listO xs n = o at *
  by_cases h0 : inoE xs n = 0
  · obtain ⟨d, hd, hd2, _⟩ := HD.out h0
    rw [hd] at CR HO
    rw [h0] at CG HO
    unfold ReadPost at CR
    dsimp only at CR HO
    clear HD h0 hd
    by_cases hk : a0 = 2
    · subst hk
      have CE := Lib.hid (fun w => entries_any ⟨d.toArray⟩ w (by show d.toArray.size ≤ _; rw [List.size_toArray]; exact hd2))
      dsimp only at CE
      have HO2 : Hid (o = match entsO d with | none => ([], 3) | some l => (l, 0)) := HO.out
      generalize entsO d = eo at *
      unfold EntsPost at CE
      cases eo with
      | none =>
        have HO3 : Hid (o = ([], 3)) := HO2.out
        clear HO HO2
        simp only [Option.isSome_none] at CE
        go_enter Try.func18, Try.ntmps18
        go_wp2_with fail
        refine CG.out.mono ?_
        rintro e w1 ⟨rfl, hb1⟩
        have B1 := Lib.hid hb1
        clear hb1 CG
        go_wp2_with fail
        generalize hw2 : World.alloc w1 _ = w2
        have B2 := Lib.hid (hw2 ▸ B1.out.alloc B1.out.size _ : Below w.heap.size w w2)
        clear hw2 B1
        refine (CR.out _ ((HR.out.below B2.out).mono B2.out.size)).mono ?_
        rintro e w3 ⟨rfl, hb3⟩
        have B3 := Lib.hid (B2.out.trans (hb3.mono B2.out.size))
        clear hb3 CR HR
        go_wp2_with fail
        refine (CE.out _).mono ?_
        rintro e w4 ⟨⟨v, rfl, hv⟩, hb4⟩
        have B4 := Lib.hid (B3.out.trans (hb4.mono B3.out.size))
        clear hb4 CE hv
        go_wp2
        go_ret2
        rw [HO3.out]
        exact ListPost.none B4.out
      | some l =>
        have HO3 : Hid (o = (l, 0)) := HO2.out
        clear HO HO2
        simp only [Option.isSome_some, Option.getD_some] at CE
        go_enter Try.func18, Try.ntmps18
        go_wp2_with fail
        refine CG.out.mono ?_
        rintro e w1 ⟨rfl, hb1⟩
        have B1 := Lib.hid hb1
        clear hb1 CG
        go_wp2_with fail
        generalize hw2 : World.alloc w1 _ = w2
        have B2 := Lib.hid (hw2 ▸ B1.out.alloc B1.out.size _ : Below w.heap.size w w2)
        clear hw2 B1
        refine (CR.out _ ((HR.out.below B2.out).mono B2.out.size)).mono ?_
        rintro e w3 ⟨rfl, hb3⟩
        have B3 := Lib.hid (B2.out.trans (hb3.mono B2.out.size))
        clear hb3 CR HR
        go_wp2_with fail
        refine (CE.out _).mono ?_
        rintro e w4 ⟨⟨v, rfl, hv⟩, hb4⟩
        have B4 := Lib.hid (B3.out.trans (hb4.mono B3.out.size))
        have HV : Hid (OwnEnts l w v w4) := own_low hv B3.out.size
        clear hb4 CE hv
        go_wp2
        go_ret2
        rw [HO3.out]
        exact ⟨⟨_, rfl, HV.out⟩, B4.out⟩
    · have HO3 : Hid (o = ([], 11)) := by
        show _ = _
        rw [HO.out, if_neg (by simp), if_pos hk]
      have hk1 : (((a0 : Nat) : Int) != 2) = true := by simp; omega
      clear HO CR
      go_enter Try.func18, Try.ntmps18
      go_wp2_with fail
      refine CG.out.mono ?_
      rintro e w1 ⟨rfl, hb1⟩
      have B1 := Lib.hid hb1
      clear hb1 CG
      go_wp2
      go_ret2
      rw [HO3.out]
      exact ListPost.none (B1.out.alloc B1.out.size _)
  · have HO3 : Hid (o = ([], inoE xs n)) := by
      show _ = _
      rw [HO.out, if_pos h0]
    have hk1 : (inoE xs n != 0) = true := by simpa using h0
    generalize inoE xs n = ie at *
    clear HO CR HD h0
    go_enter Try.func18, Try.ntmps18
    go_wp2_with fail
    refine CG.out.mono ?_
    rintro e w1 ⟨rfl, hb1⟩
    have B1 := Lib.hid hb1
    clear hb1 CG
    go_wp2
    go_ret2
    rw [HO3.out]
    exact ListPost.none (B1.out.alloc B1.out.size _)
theorem OwnEnts.read2 {l : List EntV} {w w' : World} {v : Value} (h : OwnEnts l w v w') : ∃ A c, v = .slice A l.length c ∧ EntsAt w' w'.heap.size A l := h.read
set_option maxHeartbeats 4000000 in
theorem find_any (A : Option Addr) (c : Nat) (xs : List ByteArray) (n : Int) (nm : ByteArray) (w : World) (hx : xs.length ≤ 1000000) (hs : nm.size ≤ 140737488355328) (h : RowAt w w.heap.size A (xs.map .string)) :
    Calls Try.prog 22 #[.slice A xs.length c, .int .i64 n, .string nm] w fun e w' => e = .returned (.tuple #[.int .i64 (findO xs n nm).1, .int .i64 (findO xs n nm).2]) ∧ Below w.heap.size w w' := by
  have CM := Lib.hid (may_any nm w hs)
  have CL := Lib.hid (fun w h => list_any A c xs n w hx h)
  have HR := Lib.hid h
  have HV := Lib.hid (listO_valid (xs := xs) (n := n))
  have HN := Lib.hid (listO_len (xs := xs) (n := n))
  obtain ⟨o, ho⟩ : ∃ o, findO xs n nm = o := ⟨_, rfl⟩
  rw [ho]
  unfold findO at ho
  have HO := Lib.hid ho.symm
  clear ho
  generalize listO xs n = lo at *
  obtain ⟨l, le⟩ := lo
  dsimp only at HV HN HO
  unfold ListPost at CL
  dsimp only at CL
  clear h
  cases hm : mayB nm.data.toList with
  | false =>
    rw [hm] at CM HO
    have HO3 : Hid (o = (0, 7)) := by show _ = _; rw [HO.out]; rfl
    clear HO CL hm
    go_enter Try.func22, Try.ntmps22
    go_wp2_with fail
    refine CM.out.mono ?_
    rintro e w1 ⟨rfl, hb1⟩
    have B1 := Lib.hid hb1
    go_wp2
    go_ret2
    rw [HO3.out]
    exact ⟨rfl, B1.out⟩
  | true =>
    rw [hm] at CM HO
    have HO1 : Hid (o = if le ≠ 0 then (0, le) else if hasE l nm = true then (getE l nm, 0) else (0, 9)) := by show _ = _; rw [HO.out, if_neg (by simp)]
    clear HO hm
    by_cases h0 : le = 0
    · subst h0
      have CS := Lib.hid (fun A c w h => search_any A c l nm w HN.out HV.out.rise h)
      have H1 := Lib.hid (at_has (nm := nm) HV.out.rise)
      cases hh : hasE l nm with
      | false =>
        have HO3 : Hid (o = (0, 9)) := by show _ = _; rw [HO1.out, if_neg (by simp), if_neg (by rw [hh]; simp)]
        rw [hh] at CS
        clear HO1 H1 hh
        go_enter Try.func22, Try.ntmps22
        go_wp2_with fail
        refine CM.out.mono ?_
        rintro e w1 ⟨rfl, hb1⟩
        have B1 := Lib.hid hb1
        clear hb1 CM
        go_wp2_with fail
        refine (CL.out _ ((HR.out.below B1.out).mono B1.out.size)).mono ?_
        rintro e w2 ⟨⟨v, rfl, hv⟩, hb2⟩
        obtain ⟨A2, c2, rfl, hr2⟩ := OwnEnts.read2 hv
        have B2 := Lib.hid (B1.out.trans (hb2.mono B1.out.size))
        have R2 := Lib.hid hr2
        clear hb2 hv hr2 CL
        go_wp2_with fail
        refine (CS.out _ _ _ R2.out).mono ?_
        rintro e w3 ⟨rfl, hb3⟩
        have B3 := Lib.hid (B2.out.trans (hb3.mono B2.out.size))
        clear hb3 CS
        go_wp2
        go_ret2
        rw [HO3.out]
        exact ⟨rfl, B3.out⟩
      | true =>
        obtain ⟨hk, hnk⟩ := H1.out.1 hh
        have HO3 : Hid (o = (l[atE l nm].ino, 0)) := by show _ = _; rw [HO1.out, if_neg (by simp), if_pos hh, at_get HV.out.rise hk hnk]
        rw [hh] at CS
        generalize atE l nm = k at *
        have k1 : (k : Int) < (l.length : Int) := by omega
        have k2 : (0 : Int) ≤ (k : Int) := by omega
        clear HO1 H1 hh hnk
        go_enter Try.func22, Try.ntmps22
        go_wp2_with fail
        refine CM.out.mono ?_
        rintro e w1 ⟨rfl, hb1⟩
        have B1 := Lib.hid hb1
        clear hb1 CM
        go_wp2_with fail
        refine (CL.out _ ((HR.out.below B1.out).mono B1.out.size)).mono ?_
        rintro e w2 ⟨⟨v, rfl, hv⟩, hb2⟩
        obtain ⟨A2, c2, rfl, hr2⟩ := OwnEnts.read2 hv
        have B2 := Lib.hid (B1.out.trans (hb2.mono B1.out.size))
        have R2 := Lib.hid hr2
        clear hb2 hv hr2 CL
        go_wp2_with fail
        refine (CS.out _ _ _ R2.out).mono ?_
        rintro e w3 ⟨rfl, hb3⟩
        have B3 := Lib.hid (B2.out.trans (hb3.mono B2.out.size))
        obtain ⟨b, oo, rfl, hb, hc⟩ := R2.out.get hk
        have hc1 : w3.cell? ⟨b, oo + k * 2 + 1, none⟩ = some (.int .i64 l[k].ino) := (hb3.cell (p := ⟨b, oo + k * 2 + 1, none⟩) hb).trans (hc 1 _ rfl)
        generalize l[k].ino = z at *
        clear hb3 CS hc
        go_wp2
        go_ret2
        rw [HO3.out]
        exact ⟨rfl, B3.out⟩
    · have HO3 : Hid (o = (0, le)) := by show _ = _; rw [HO1.out, if_pos h0]
      have h01 : (le != 0) = true := by simpa using h0
      clear HO1 h0
      go_enter Try.func22, Try.ntmps22
      go_wp2_with fail
      refine CM.out.mono ?_
      rintro e w1 ⟨rfl, hb1⟩
      have B1 := Lib.hid hb1
      clear hb1 CM
      go_wp2_with fail
      refine (CL.out _ ((HR.out.below B1.out).mono B1.out.size)).mono ?_
      rintro e w2 ⟨⟨v, rfl, hv⟩, hb2⟩
      have B2 := Lib.hid (B1.out.trans (hb2.mono B1.out.size))
      clear hb2 hv CL
      go_wp2
      go_ret2
      rw [HO3.out]
      exact ⟨rfl, B2.out⟩
end Go.Proofs.Ytoanladhikdcaaa
