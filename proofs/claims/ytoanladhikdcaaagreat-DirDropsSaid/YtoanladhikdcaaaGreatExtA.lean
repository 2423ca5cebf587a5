/-
  What the methods is, size, at of an open file tell.
-/
import Derived.Test.YtoanladhikdcaaaGreatExtPl
import Derived.RegionTactic
import Derived.BigRegion
namespace Go.Proofs.YtoanladhikdcaaaGreat
open Go.RowKit
set_option linter.unusedVariables false
set_option linter.unusedSimpArgs false
set_option maxRecDepth 100000
section
variable {B : Nat} {g m n : Nat} {V : List ByteArray} {l : List Nat}
set_option maxHeartbeats 1000000 in
theorem is_any (k : Nat) (w : World) (h : FileX B w g m n V l) : Calls Tryz.prog 68 #[.pointer (some ⟨g, 0, none⟩), .int .i64 k] w fun e w' => e = .returned (.bool (datB V m k)) ∧ w = w' := by
  obtain ⟨gv, c, h⟩ := h
  have hc1 := h.c1
  have hc6 := h.c6
  have HD : Hid (datB V m k = decide (dataN m ≤ k ∧ k < V.length)) := rfl
  clear h
  generalize dataN m = d at *
  generalize V.length = q at *
  by_cases h1 : d ≤ k
  · by_cases h2 : k < q
    · go_enter Tryz.func68, Tryz.ntmps68
      go_wp2
      go_ret
      exact ⟨ret_bool (by rw [HD.out]; simp [h1, h2]), rfl⟩
    · go_enter Tryz.func68, Tryz.ntmps68
      go_wp2
      go_ret
      exact ⟨ret_bool (by rw [HD.out]; simp [h1, h2]), rfl⟩
  · go_enter Tryz.func68, Tryz.ntmps68
    go_wp2
    go_ret
    exact ⟨ret_bool (by rw [HD.out]; simp [h1]), rfl⟩
set_option maxHeartbeats 1000000 in
theorem size_any (w : World) (h : FileX B w g m n V l) : Calls Tryz.prog 38 #[.pointer (some ⟨g, 0, none⟩)] w fun e w' => e = .returned (.int .i64 (sizeX l : Nat)) ∧ w = w' := by
  obtain ⟨gv, c, h⟩ := h
  have hc3 : w.cell? ⟨g, 11, none⟩ = some (.int .i64 ((l.getD 3 0 : Nat) : Int)) := h.ino 3 (by omega)
  have hl := fit_lt h.fit 3
  have HS : Hid (sizeX l = min (l.getD 3 0) 8960) := rfl
  clear h
  generalize l.getD 3 0 = s at *
  go_enter Tryz.func38, Tryz.ntmps38
  go_wp2
  go_ret
  exact ⟨ret_int (by rw [HS.out]; omega), rfl⟩
/-- the bytes of two of a block -/
theorem two_sub (s : ByteArray) (p : Nat) : leN ((s.extract p (p + 2)).data.toList.take 8) = numAt s.data.toList p 2 := by
  unfold numAt
  rw [Lib.extract_data, Nat.add_sub_cancel_left, List.take_take]
  rfl
set_option maxHeartbeats 2000000 in
theorem at_any (k : Nat) (w : World) (hk : k < 70) (h : FileX B w g m n V l) : Calls Tryz.prog 67 #[.pointer (some ⟨g, 0, none⟩), .int .i64 k] w fun e w' => e = .returned (.int .i64 (atI (atX V m l k))) ∧ Below w.heap.size w w' := by
  have HX := Lib.hid h
  obtain ⟨gv, c, h⟩ := h
  have HI := Lib.hid (fun (k : Nat) (w : World) (h : FileX B w g m n V l) => is_any k w h)
  have HA : Hid (∀ r, rawX V m l k = r → atI (atX V m l k) = if datB V m r = true then (r : Int) else -1) := fun r hr => by
    unfold atX
    rw [hr]
    by_cases hd : datB V m r = true
    · rw [if_pos hd, if_pos hd]
      have := datB_pos hd
      unfold atI
      rw [if_neg (by omega)]
    · rw [if_neg hd, if_neg hd]; rfl
  have hsm := h.small
  by_cases h6 : k < 6
  · have hcell : w.cell? ⟨g, 8 + (4 + k), none⟩ = some (.int .i64 ((l.getD (4 + k) 0 : Nat) : Int)) := h.ino (4 + k) (by omega)
    have HR : Hid (rawX V m l k = l.getD (4 + k) 0) := by show _ = _; unfold rawX; rw [if_pos h6]
    have k1 : (k : Int) < 6 := by omega
    have k2 : (0 : Int) ≤ (k : Int) := by omega
    rw [show 8 + (4 + k) = 12 + k by omega] at hcell
    clear h
    generalize l.getD (4 + k) 0 = r at *
    have HF := Lib.hid (HA.out r HR.out)
    cases hd : datB V m r with
    | true =>
      go_enter Tryz.func67, Tryz.ntmps67
      go_wp2_with fail
      refine (HI.out r _ HX.out).mono ?_
      rw [hd]
      rintro e w' ⟨rfl, rfl⟩
      go_wp2
      go_ret
      exact ⟨ret_int (by rw [HF.out, hd, if_pos rfl]), Below.refl _ _⟩
    | false =>
      go_enter Tryz.func67, Tryz.ntmps67
      go_wp2_with fail
      refine (HI.out r _ HX.out).mono ?_
      rw [hd]
      rintro e w' ⟨rfl, rfl⟩
      go_wp2
      go_ret
      exact ⟨ret_int (by rw [HF.out, hd]; rfl), Below.refl _ _⟩
  · have hcell : w.cell? ⟨g, 18, none⟩ = some (.int .i64 ((l.getD 10 0 : Nat) : Int)) := h.ino 10 (by omega)
    have h0 := h.c0
    have HR : Hid (rawX V m l k = if datB V m (l.getD 10 0) = true then numAt (blkL V (l.getD 10 0)) (2 * (k - 6)) 2 else 0) := by show _ = _; unfold rawX; rw [if_neg h6]
    have k1 : ¬ (k : Int) < 6 := by omega
    have HS : Hid (∀ i, i < V.length → w.cell? ⟨gv, i, none⟩ = some (.string (V.getD i ⟨#[]⟩))) := fun i hi => h.str i hi
    have HZ : Hid (∀ i, i < V.length → (V.getD i ⟨#[]⟩).size = 128) := fun i hi => h.vol.size i hi
    have hli := fit_lt h.fit 10
    clear h
    generalize l.getD 10 0 = i at *
    cases hd : datB V m i with
    | false =>
      have HF := Lib.hid (HA.out 0 (by rw [HR.out, hd]; rfl))
      have hz := datB_zero V m
      go_enter Tryz.func67, Tryz.ntmps67
      go_wp2_with fail
      refine (HI.out i _ HX.out).mono ?_
      rw [hd]
      rintro e w' ⟨rfl, rfl⟩
      go_wp2_with fail
      refine (HI.out 0 _ HX.out).mono ?_
      rw [hz]
      rintro e w' ⟨rfl, rfl⟩
      go_wp2
      go_ret
      exact ⟨ret_int (by rw [HF.out, hz]; rfl), Below.refl _ _⟩
    | true =>
      have hlt := (datB_iff.1 hd).2
      have hstr := HS.out i hlt
      have hsz := HZ.out i hlt
      obtain ⟨r, hr⟩ : ∃ r, numAt (blkL V i) (2 * (k - 6)) 2 = r := ⟨_, rfl⟩
      have HF := Lib.hid (HA.out r (by rw [HR.out, hd, if_pos rfl, hr]))
      have hrl : r < 65536 := by rw [← hr]; exact numAt_lt _ _ 2
      unfold blkL at hr
      generalize V.getD i ⟨#[]⟩ = s at *
      obtain ⟨p, hp⟩ : ∃ p, 2 * (k - 6) = p := ⟨_, rfl⟩
      rw [hp] at hr
      have p1 : (2 : Int) * ((k : Int) - 6) = (p : Int) := by omega
      have p2 : p + 2 ≤ 128 := by omega
      have CG : Hid (∀ u : Ext w, Calls Tryz.prog 62 #[.string (s.extract p (p + 2))] u.val fun e w' => e = .returned (.int .u64 (r : Int)) ∧ u.val = w') := fun u => by
        have := get_any (s.extract p (p + 2)) u.val (by rw [ByteArray.size_extract]; omega)
        rw [two_sub, hr] at this
        exact this
      have u0 : ∀ u : Ext w, u.val.cell? ⟨g, 0, none⟩ = some (.slice (some ⟨gv, 0, none⟩) V.length c) := fun u => u.cell h0
      have u1 : ∀ u : Ext w, u.val.cell? ⟨g, 18, none⟩ = some (.int .i64 (i : Int)) := fun u => u.cell hcell
      have u2 : ∀ u : Ext w, u.val.cell? ⟨gv, i, none⟩ = some (.string s) := fun u => u.cell hstr
      have s1 : IntKind.i64.wrap ((p : Int) + 2) = (p : Int) + 2 := IntWalk.i64_in _ (by omega)
      have s2 : (0 : Int) ≤ (p : Int) + 2 := by omega
      have s3 : ((p : Int) + 2).toNat = p + 2 := by omega
      have s4 : IntKind.i64.wrap (r : Int) = (r : Int) := IntWalk.i64_in _ (by omega)
      have s5 : (i : Int) < (V.length : Int) := by omega
      have s6 : (0 : Int) ≤ (i : Int) := by omega
      have s7 : (0 : Int) ≤ (p : Int) := by omega
      have s8 : (p : Int) ≤ (p : Int) + 2 := by omega
      have s9 : (p : Int) + 2 ≤ (s.size : Int) := by omega
      have q1 : IntKind.i64.wrap ((k : Int) - 6) = (k : Int) - 6 := IntWalk.i64_in _ (by omega)
      have q2 : IntKind.i64.wrap ((2 : Int) * ((k : Int) - 6)) = (p : Int) := by rw [p1]; exact IntWalk.i64_in _ (by omega)
      have HK := Lib.hid hr
      clear hr p1
      go_enter Tryz.func67, Tryz.ntmps67
      go_wp2_with fail
      refine (HI.out i _ HX.out).mono ?_
      rw [hd]
      rintro e w' ⟨rfl, rfl⟩
      go_wp2_with fail
      refine wp_region_ext (by kernel_rfl) (by kernel_rfl) ?_
      repeat (go_big_quiet_step (first
        | (go_at_call 62; with_reducible exact Ext.call_same (CG.out _))))
      refine wpQuiet_nil ?_
      rintro _ ⟨u, rfl⟩
      have UB := Lib.hid u.below
      have HX2 := Lib.hid (HX.out.below u.below)
      generalize u.val = W2 at *
      clear u0 u1 u2 CG
      cases hd2 : datB V m r with
      | true =>
        go_wp2_with fail
        refine (HI.out r _ HX2.out).mono ?_
        rw [hd2]
        rintro e w' ⟨rfl, rfl⟩
        go_wp2
        go_ret
        exact ⟨ret_int (by rw [HF.out, hd2, if_pos rfl]), UB.out⟩
      | false =>
        go_wp2_with fail
        refine (HI.out r _ HX2.out).mono ?_
        rw [hd2]
        rintro e w' ⟨rfl, rfl⟩
        go_wp2
        go_ret
        exact ⟨ret_int (by rw [HF.out, hd2]; rfl), UB.out⟩
end
end Go.Proofs.YtoanladhikdcaaaGreat
