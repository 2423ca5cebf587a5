/-
  What the methods name and place of an open file do.
-/
import Derived.Test.YtoanladhikdcaaaGreatExtB
namespace Go.Proofs.YtoanladhikdcaaaGreat
open Go.RowKit
set_option linter.unusedVariables false
set_option linter.unusedSimpArgs false
set_option maxRecDepth 100000
section
variable {B : Nat} {g m n : Nat} {V : List ByteArray} {l : List Nat}
theorem FileX.base {w : World} (h : FileX B w g m n V l) : B ≤ w.heap.size := by
  obtain ⟨gv, c, h⟩ := h
  have := h.low
  have := h.blk.lt
  omega
theorem FileX.ok {w : World} (h : FileX B w g m n V l) : OkS V.length m (V, l) ∧ 1 ≤ n ∧ n ≤ m := by
  obtain ⟨gv, c, h⟩ := h
  exact ⟨⟨h.vol, rfl, h.fit⟩, h.one, h.top⟩
set_option maxHeartbeats 2000000 in
theorem name_any (k b : Nat) (w : World) (hk : k < 70) (hb : b < 65536) (h : FileX B w g m n V l) :
    Calls Tryz.prog 70 #[.pointer (some ⟨g, 0, none⟩), .int .i64 k, .int .i64 b] w fun e w' => e = .returned (.int .i64 0) ∧ FileX B w' g m n (nameG (putK n) V m l k b).1 (nameG (putK n) V m l k b).2 ∧ Below B w w' := by
  have hz := h.base
  by_cases h6 : k < 6
  · have HN : Hid (nameG (putK n) V m l k b = (putV V n (l.set (4 + k) b), l.set (4 + k) b)) := by show _ = _; unfold nameG; rw [if_pos h6]; rfl
    obtain ⟨gv, c, h⟩ := h
    have HF := Lib.hid h
    have hcell : w.cell? ⟨g, 8 + (4 + k), none⟩ = some (.int .i64 ((l.getD (4 + k) 0 : Nat) : Int)) := h.ino (4 + k) (by omega)
    have hfz : w.frozen? ⟨g, 8 + (4 + k), none⟩ = false := h.blk.frozen _
    have HP : Hid (FileW B (w.setCell ⟨g, 8 + (4 + k), none⟩ (.int .i64 (b : Int))) g m n V (l.set (4 + k) b) gv c) := h.put (4 + k) b (h.fit.direct h6 hb)
    have BP : Hid (Below B w (w.setCell ⟨g, 8 + (4 + k), none⟩ (.int .i64 (b : Int)))) := (Below.refl B w).setCell h.low _
    rw [show 8 + (4 + k) = 12 + k by omega] at hcell hfz HP BP
    have k1 : (k : Int) < 6 := by omega
    have k2 : (0 : Int) ≤ (k : Int) := by omega
    clear h
    generalize l.getD (4 + k) 0 = r at *
    go_enter Tryz.func70, Tryz.ntmps70
    go_wp2_with fail
    refine (keep_any _ (by simpa [World.setCell] using hz) ⟨gv, c, HP.out⟩).mono ?_
    rintro e w' ⟨rfl, hf, hbl⟩
    have H1 := Lib.hid hf
    have B1 := Lib.hid (BP.out.trans hbl)
    clear hf hbl
    go_wp2
    go_ret
    rw [HN.out]
    exact ⟨rfl, H1.out, B1.out⟩
  · have HX := Lib.hid h
    obtain ⟨gv, c, h⟩ := h
    have hcell : w.cell? ⟨g, 18, none⟩ = some (.int .i64 ((l.getD 10 0 : Nat) : Int)) := h.ino 10 (by omega)
    have k1 : ¬ (k : Int) < 6 := by omega
    have HN : Hid (nameG (putK n) V m l k b = if datB V m (l.getD 10 0) = true then (layX V (l.getD 10 0) (2 * (k - 6)) (putL b 2), l) else (V, l)) := by show _ = _; unfold nameG; rw [if_neg h6]
    clear h
    generalize l.getD 10 0 = i at *
    cases hd : datB V m i with
    | false =>
      rw [hd] at HN
      go_enter Tryz.func70, Tryz.ntmps70
      go_wp2_with fail
      refine (is_any i _ HX.out).mono ?_
      rw [hd]
      rintro e w' ⟨rfl, rfl⟩
      go_wp2
      go_ret
      rw [HN.out]
      exact ⟨rfl, HX.out, Below.refl _ _⟩
    | true =>
      rw [hd] at HN
      obtain ⟨p, hp⟩ : ∃ p, 2 * (k - 6) = p := ⟨_, rfl⟩
      rw [hp] at HN
      have p1 : (2 : Int) * ((k : Int) - 6) = (p : Int) := by omega
      have p2 : p + 2 ≤ 128 := by omega
      have q1 : IntKind.i64.wrap ((k : Int) - 6) = (k : Int) - 6 := IntWalk.i64_in _ (by omega)
      have q2 : IntKind.i64.wrap ((2 : Int) * ((k : Int) - 6)) = (p : Int) := by rw [p1]; exact IntWalk.i64_in _ (by omega)
      have q3 : IntKind.u64.wrap (b : Int) = (b : Int) := IntWalk.u64_in _ (by omega)
      obtain ⟨st, hst⟩ : ∃ st : ByteArray, (⟨(putL b 2).toArray⟩ : ByteArray) = st := ⟨_, rfl⟩
      have HS : Hid (st.data.toList = putL b 2 ∧ st.size = 2) := by
        rw [← hst]
        refine ⟨by simp, ?_⟩
        show (putL b 2).toArray.size = 2
        rw [List.size_toArray, putL_length]
      have CP : Hid (∀ u : Ext w, Calls Tryz.prog 66 #[.int .u64 b, .int .i64 2] u.val fun e w' => e = .returned (.string st) ∧ Below u.val.heap.size u.val w') := fun u => by
        have := put_any b 2 u.val (by omega) (by omega)
        rw [hst] at this
        exact this
      have u1 : ∀ u : Ext w, u.val.cell? ⟨g, 18, none⟩ = some (.int .i64 (i : Int)) := fun u => u.cell hcell
      have HD := Lib.hid hd
      clear p1 hst
      go_enter Tryz.func70, Tryz.ntmps70
      go_wp2_with fail
      refine (is_any i _ HX.out).mono ?_
      rw [hd]
      rintro e w' ⟨rfl, rfl⟩
      go_wp2_with fail
      refine wp_region_ext_tail 12 (by kernel_rfl) (by kernel_rfl) ?_
      simp only [List.take_succ_cons, List.take_zero, List.drop_succ_cons, List.drop_zero]
      repeat (go_big_quiet_step (first
        | (go_at_call 66; with_reducible exact Ext.call (CP.out _))))
      refine wpQuiet_nil ?_
      rintro _ ⟨u, rfl⟩
      have UB := Lib.hid (u.below.mono hz)
      have HX2 := Lib.hid (HX.out.below u.below)
      generalize u.val = W2 at *
      clear u1 CP
      go_wp2_with fail
      refine (lay_any i p st _ HX2.out.base HD.out (by rw [HS.out.2]; exact p2) HX2.out).mono ?_
      rintro e w3 ⟨rfl, hf, hbl⟩
      rw [HS.out.1] at hf
      have H3 := Lib.hid hf
      have B3 := Lib.hid (UB.out.trans hbl)
      clear hf hbl
      go_wp2
      go_ret
      rw [HN.out]
      exact ⟨rfl, H3.out, B3.out⟩
end
end Go.Proofs.YtoanladhikdcaaaGreat
