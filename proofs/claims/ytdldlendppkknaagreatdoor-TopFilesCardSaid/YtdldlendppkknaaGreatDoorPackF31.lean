/-
  Contracts and plain laws: SpkD, AttH, TopF, TopC.
-/
import Derived.Test.YtdldlendppkknaaGreatDoorPackF26
import Derived.Test.YtdldlendppkknaaGreatDoorPackF28
import Derived.Test.YtdldlendppkknaaGreatDoorPackF29
import Derived.Test.YtdldlendppkknaaGreatDoorPackF30
namespace Go.Proofs.YtdldlendppkknaaGreatDoor
open Go.RowKit
set_option linter.unusedVariables false
set_option linter.unusedSimpArgs false
set_option maxRecDepth 100000
def spkS (i : Nat) (v : Value) (w : World) : Prop :=
 match i with
 | 0 => v = .string zeroP
 | 1 => v = .string zeroP
 | 2 => ∃ g, v = .slice (some ⟨g, 0, none⟩) 2 2 ∧ Blk w g 9 #[.string zeroP, .string zeroP]
 | 3 => v = .agg #[.bool true, .bool true, .int .i64 1]
 | 4 => v = .agg (pteL layPages).toArray
 | 5 => v = .int .u32 71876608
 | 6 => v = .int .u8 0
 | 7 => v = .int .u32 71876608
 | 8 => v = .int .u32 280768
 | 9 => v = .int .u8 192
 | 10 => v = .int .u32 71876608
 | 11 => v = .int .u32 1096
 | 12 => v = .int .u8 72
 | 13 => v = .int .u32 71876608
 | 14 => v = .int .u32 4
 | 15 => v = .int .u8 4
 | 16 => ∃ g, v = .slice (some ⟨g, 0, none⟩) 4 4 ∧ Blk w g 5 #[.int .u8 0, .int .u8 192, .int .u8 72, .int .u8 4]
 | 17 => v = .string wordB
 | 18 => ∃ A c, v = .tuple #[.slice A 2 c, .bool true] ∧ RowAt w w.heap.size A ([zeroP, codeP].map .string)
 | 19 => ∃ A c, v = .tuple #[.slice A 2 c, .bool true] ∧ RowAt w w.heap.size A ([zeroP, codeP].map .string)
 | 20 => ∃ A c, v = .slice A 2 c ∧ RowAt w w.heap.size A ([zeroP, codeP].map .string)
 | 21 => v = .bool true
 | 22 => ∃ A c, v = .slice A 2 c ∧ RowAt w w.heap.size A ([zeroP, codeP].map .string)
 | 23 => v = .bool true
 | _ => True
theorem spkS_mono (i : Nat) (v : Value) (w w' : World) (h : spkS i v w) (hb : Below w.heap.size w w') : spkS i v w' := by
 unfold spkS at h ⊢
 split at h <;> first
  | exact h
  | (obtain ⟨g, hv, hg⟩ := h; exact ⟨g, hv, hg.below hb hg.lt⟩)
  | (obtain ⟨A, c, hv, hr⟩ := h; exact ⟨A, c, hv, (hr.below hb).mono hb.size⟩)
  | trivial
def regs0 : List Nat := [0, 0, 2, 3, 0, 0, 0, 0, 0, 0, 0, 0, 0, 0, 0, 0]
def regs1 : List Nat := [0, 5, 2, 3, 0, 0, 0, 0, 0, 0, 0, 0, 0, 0, 0, 0]
theorem ev_new {w w' : World} {oc : Obj} {cs : Array Value} (hg : ((w.alloc oc).alloc (.cells cs 84)).grownBy w' (some w.heap.size)) : Blk w' (w.heap.size + 1) 84 cs := by
 have := Blk.new (w.alloc oc) 84 cs
 rw [World.size_alloc] at this
 exact this.grown hg (ne_blk (by omega))
theorem two_below {b w w4 w5 : World} {o1 o2 : Obj} (hg4 : ((w.alloc o1).alloc o2).grownBy w4 (some w.heap.size)) (hg5 : w4.grownBy w5 (some (w.heap.size + 1))) (h : Below b.heap.size b w) : Below b.heap.size b w5 := by
 have h2 := (h.alloc h.size o1).alloc (by have := h.size; simp; omega) o2
 have h3 := h2.grown hg4 h2.size (fun k hk => by cases hk; exact h.size)
 exact h3.grown hg5 h3.size (fun k hk => by cases hk; have := h.size; omega)
theorem step_spk (A : Option Addr) (c : Nat) (w : World) (h : RowAt w w.heap.size A ([zeroP, codeP].map .string)) :
  Calls Tryz.prog 31 #[.agg (cpuC regs0 0), .agg (pteL codePages).toArray, .slice A 2 c] w fun e w' => (∃ v, e = .returned (.tuple #[.agg (cpuC regs1 4), v, .agg #[.int .i64 0, .int .u32 0]])) ∧ Below w.heap.size w w' := by
 have h0 : A = none → [zeroP, codeP].length = 0 ∧ c = 0 := fun e => by
  subst e
  obtain ⟨b, o, hA, _⟩ := RowAt.at_ h (by decide)
  cases hA
 have := step_add regs0 0 codePages A c [zeroP, codeP] w ⟨rfl, by decide⟩ (by decide) rfl (by decide) h h0 code_load
 exact this
set_option maxHeartbeats 4000000 in
theorem speaks_any (w : World) (ht : SpkT w) : Calls Tryz.prog 8 #[] w fun e w' => e = .returned (.bool true) ∧ Below w.heap.size w w' := by
 have HT := Lib.hid ht
 clear ht
 go_enter Tryz.func8, Tryz.ntmps8
 go_wp2_with fail
 refine (op_add _ HT.out).mono ?_
 rintro e w1 ⟨rfl, hb1⟩
 have B1 := Lib.hid hb1
 clear hb1
 go_wp2_with fail
 refine (enc_add _).mono ?_
 rintro e w2 ⟨rfl, hb2⟩
 have B2 := Lib.hid (B1.out.trans (hb2.mono B1.out.size))
 clear hb2 B1
 go_wp2_with (first
  | (refine store_blk 76 (.tmp 5) (.tmp 23) w2.heap.size 76 (pteL (List.replicate 16 ⟨false, false, 0⟩)).toArray (pteL codePages).toArray rfl rfl rfl rfl (Blk.new w2 _ _) rfl (space_size rfl) (by decide) ?_; intro w3 hs3 hg3; have S3 := Lib.hid hs3; have G3 := Lib.hid hg3; clear hs3 hg3; go_frame)
  | (refine store_blk 79 (.tmp 6) (.tmp 24) w3.heap.size 79 zC zC rfl rfl rfl rfl (Blk.new w3 _ _) rfl cpu_info (by decide) ?_; intro w4 hs4 hg4; have S4 := Lib.hid hs4; have G4 := Lib.hid hg4; have q2 : w4.cell? ⟨w3.heap.size, 2, none⟩ = some (.int .u32 0) := hs4.cell 2 rfl; have f2 := hs4.frozen 2; have q3 : w4.cell? ⟨w3.heap.size, 3, none⟩ = some (.int .u32 0) := hs4.cell 3 rfl; have f3 := hs4.frozen 3; clear hs4 hg4; go_frame))
 have B3 : Hid (Below w.heap.size w w3) := (B2.out.alloc B2.out.size _).grown G3.out (by have := B2.out.size; simp; omega) (fun k hk => by cases hk; exact B2.out.size)
 have B4 : Hid (Below w.heap.size w w4) := (B3.out.alloc B3.out.size _).grown G4.out (by have := B3.out.size; simp; omega) (fun k hk => by cases hk; exact B3.out.size)
 have hlt : w2.heap.size < w3.heap.size := S3.out.lt
 have S4s : Hid (Blk w4 w2.heap.size 76 (pteL codePages).toArray) := (S3.out.alloc _).grown G4.out (ne_blk (by omega))
 obtain ⟨w5, hw5⟩ : ∃ w5, (w4.setCell ⟨w3.heap.size, 2, none⟩ (.int .u32 2)).setCell ⟨w3.heap.size, 3, none⟩ (.int .u32 3) = w5 := ⟨_, rfl⟩
 rw [hw5]
 have X5 : Hid (Blk w5 w2.heap.size 76 (pteL codePages).toArray) := hw5 ▸ (S4s.out.far (by show w2.heap.size ≠ w3.heap.size; omega) _).far (by show w2.heap.size ≠ w3.heap.size; omega) _
 have X6 : Hid (Blk w5 w3.heap.size 79 (cpuC regs0 0)) := by
  have h := (S4.out.set_ 2 (.int .u32 2)).set_ 3 (.int .u32 3)
  rw [hw5] at h
  exact h
 have B5 : Hid (Below w.heap.size w w5) := hw5 ▸ (B4.out.setCell (by exact B3.out.size) _).setCell (by exact B3.out.size) _
 generalize w2.heap.size = gs at *
 generalize w3.heap.size = gc at *
 clear hw5 B2 HT S3 G3 S4 G4 q2 f2 q3 f3 B3 B4 S4s hlt
 generalize ha : ({ tmps := _, defers := _ } : Act) = a
 have ha3 : a.eval (.tmp 3) = .int .u32 71876608 := by rw [← ha]; rfl
 have hasz : a.tmps.size = 83 := by rw [← ha]; rfl
 have HA := Lib.hid ha
 clear ha
 refine wp_region_inv 24 spkS (by kernel_rfl) (by rw [hasz]; kernel_rfl) spkS_mono ?_ ?_
 ·intro i o a' w' hi ho hb hag
  have ev : ∀ t, Operand.tmp t ∈ o.op.operands → ∀ (j : Nat) (oj : Oper), _ → oj.dst = some t → spkS j (a'.eval (.tmp t)) w' := fun t ht j oj hj hd => (hag t ht).1 j oj hj hd
  have eb : ∀ t, Operand.tmp t ∈ o.op.operands → _ → a'.eval (.tmp t) = _ := fun t ht h => (hag t ht).2 h
  obtain rfl | rfl | rfl | rfl | rfl | rfl | rfl | rfl | rfl | rfl | rfl | rfl | rfl | rfl | rfl | rfl | rfl | rfl | rfl | rfl | rfl | rfl | rfl | rfl : i = 0 ∨ i = 1 ∨ i = 2 ∨ i = 3 ∨ i = 4 ∨ i = 5 ∨ i = 6 ∨ i = 7 ∨ i = 8 ∨ i = 9 ∨ i = 10 ∨ i = 11 ∨ i = 12 ∨ i = 13 ∨ i = 14 ∨ i = 15 ∨ i = 16 ∨ i = 17 ∨ i = 18 ∨ i = 19 ∨ i = 20 ∨ i = 21 ∨ i = 22 ∨ i = 23 := by omega
  ·cases ho
   refine step_call (f := 30) (args := #[.int .u8 0]) ?_ ?_
   ·unfold execOp
    simp [go_sem]
   ·exact (page_any w').mono fun e w2 ⟨he, hb2⟩ => ⟨_, he, rfl, hb2⟩
  ·cases ho
   refine step_call (f := 30) (args := #[.int .u8 0]) ?_ ?_
   ·unfold execOp
    simp [go_sem]
   ·exact (page_any w').mono fun e w2 ⟨he, hb2⟩ => ⟨_, he, rfl, hb2⟩
  ·cases ho
   have e30 : a'.eval (.tmp 30) = .string zeroP := ev 30 (by simp [Op.operands]) 0 _ rfl rfl
   have e31 : a'.eval (.tmp 31) = .string zeroP := ev 31 (by simp [Op.operands]) 1 _ rfl rfl
   refine step_val (v := .slice (some ⟨w'.heap.size, 0, none⟩) 2 2) (w' := w'.alloc (.cells #[.string zeroP, .string zeroP] 9)) ?_ ⟨_, rfl, Blk.new w' _ _⟩ ((Below.refl _ _).alloc (Nat.le_refl _) _)
   unfold execOp
   simp only [List.map_toArray, List.map_cons, List.map_nil, e30, e31]
   simp [go_sem]
  ·cases ho
   refine step_val (v := .agg #[.bool true, .bool true, .int .i64 1]) (w' := w') ?_ rfl (Below.refl _ _)
   unfold execOp
   simp [go_sem]
  ·cases ho
   have e33 : a'.eval (.tmp 33) = .agg #[.bool true, .bool true, .int .i64 1] := ev 33 (by simp [Op.operands]) 3 _ rfl rfl
   refine step_val (v := .agg (pteL layPages).toArray) (w' := w') ?_ rfl (Below.refl _ _)
   unfold execOp
   simp only [List.map_toArray, List.map_cons, List.map_nil, e33]
   kernel_rfl
  ·cases ho
   have e : a'.eval (.tmp 3) = .int .u32 71876608 := (eb 3 (by simp [Op.operands]) (notDstQ rfl)).trans ha3
   refine step_val (v := .int .u32 71876608) (w' := w') ?_ rfl (Below.refl _ _)
   unfold execOp
   simp only [e, Sem.run_pure]
   first | done | rfl
  ·cases ho
   have e35 : a'.eval (.tmp 35) = .int .u32 71876608 := ev 35 (by simp [Op.operands]) 5 _ rfl rfl
   refine step_val (v := .int .u8 0) (w' := w') ?_ rfl (Below.refl _ _)
   unfold execOp
   simp only [e35]
   first | done | kernel_rfl
  ·cases ho
   have e : a'.eval (.tmp 3) = .int .u32 71876608 := (eb 3 (by simp [Op.operands]) (notDstQ rfl)).trans ha3
   refine step_val (v := .int .u32 71876608) (w' := w') ?_ rfl (Below.refl _ _)
   unfold execOp
   simp only [e, Sem.run_pure]
   first | done | rfl
  ·cases ho
   have e37 : a'.eval (.tmp 37) = .int .u32 71876608 := ev 37 (by simp [Op.operands]) 7 _ rfl rfl
   refine step_val (v := .int .u32 280768) (w' := w') ?_ rfl (Below.refl _ _)
   unfold execOp
   simp only [e37]
   first | done | kernel_rfl
  ·cases ho
   have e38 : a'.eval (.tmp 38) = .int .u32 280768 := ev 38 (by simp [Op.operands]) 8 _ rfl rfl
   refine step_val (v := .int .u8 192) (w' := w') ?_ rfl (Below.refl _ _)
   unfold execOp
   simp only [e38]
   first | done | kernel_rfl
  ·cases ho
   have e : a'.eval (.tmp 3) = .int .u32 71876608 := (eb 3 (by simp [Op.operands]) (notDstQ rfl)).trans ha3
   refine step_val (v := .int .u32 71876608) (w' := w') ?_ rfl (Below.refl _ _)
   unfold execOp
   simp only [e, Sem.run_pure]
   first | done | rfl
  ·cases ho
   have e40 : a'.eval (.tmp 40) = .int .u32 71876608 := ev 40 (by simp [Op.operands]) 10 _ rfl rfl
   refine step_val (v := .int .u32 1096) (w' := w') ?_ rfl (Below.refl _ _)
   unfold execOp
   simp only [e40]
   first | done | kernel_rfl
  ·cases ho
   have e41 : a'.eval (.tmp 41) = .int .u32 1096 := ev 41 (by simp [Op.operands]) 11 _ rfl rfl
   refine step_val (v := .int .u8 72) (w' := w') ?_ rfl (Below.refl _ _)
   unfold execOp
   simp only [e41]
   first | done | kernel_rfl
  ·cases ho
   have e : a'.eval (.tmp 3) = .int .u32 71876608 := (eb 3 (by simp [Op.operands]) (notDstQ rfl)).trans ha3
   refine step_val (v := .int .u32 71876608) (w' := w') ?_ rfl (Below.refl _ _)
   unfold execOp
   simp only [e, Sem.run_pure]
   first | done | rfl
  ·cases ho
   have e43 : a'.eval (.tmp 43) = .int .u32 71876608 := ev 43 (by simp [Op.operands]) 13 _ rfl rfl
   refine step_val (v := .int .u32 4) (w' := w') ?_ rfl (Below.refl _ _)
   unfold execOp
   simp only [e43]
   first | done | kernel_rfl
  ·cases ho
   have e44 : a'.eval (.tmp 44) = .int .u32 4 := ev 44 (by simp [Op.operands]) 14 _ rfl rfl
   refine step_val (v := .int .u8 4) (w' := w') ?_ rfl (Below.refl _ _)
   unfold execOp
   simp only [e44]
   first | done | kernel_rfl
  ·cases ho
   have e36 : a'.eval (.tmp 36) = .int .u8 0 := ev 36 (by simp [Op.operands]) 6 _ rfl rfl
   have e39 : a'.eval (.tmp 39) = .int .u8 192 := ev 39 (by simp [Op.operands]) 9 _ rfl rfl
   have e42 : a'.eval (.tmp 42) = .int .u8 72 := ev 42 (by simp [Op.operands]) 12 _ rfl rfl
   have e45 : a'.eval (.tmp 45) = .int .u8 4 := ev 45 (by simp [Op.operands]) 15 _ rfl rfl
   refine step_val (v := .slice (some ⟨w'.heap.size, 0, none⟩) 4 4) (w' := w'.alloc (.cells #[.int .u8 0, .int .u8 192, .int .u8 72, .int .u8 4] 5)) ?_ ⟨_, rfl, Blk.new w' _ _⟩ ((Below.refl _ _).alloc (Nat.le_refl _) _)
   unfold execOp
   simp only [List.map_toArray, List.map_cons, List.map_nil, e36, e39, e42, e45]
   simp [go_sem]
  ·cases ho
   obtain ⟨g, e46, hg⟩ := ev 46 (by simp [Op.operands]) 16 _ rfl rfl
   refine step_val (v := .string wordB) (w' := w') ?_ rfl (Below.refl _ _)
   have := run_convert_bytes_back (P := Tryz.prog) w' 44 9 5 ⟨g, 0, none⟩ 4 [0, 192, 72, 4] Tryz.underlying44 Tryz.underlying5 Tryz.underlying9 (fun j hj => by
    rw [Addr.add_lit, Nat.zero_add]
    have hj : j < 4 := hj
    obtain rfl | rfl | rfl | rfl : j = 0 ∨ j = 1 ∨ j = 2 ∨ j = 3 := by omega
    ·exact hg.cell 0 rfl
    ·exact hg.cell 1 rfl
    ·exact hg.cell 2 rfl
    ·exact hg.cell 3 rfl)
   unfold execOp
   simp only [e46]
   rw [Sem.run_bind]
   erw [this]
   rfl
  ·cases ho
   obtain ⟨g, e32, hg⟩ := ev 32 (by simp [Op.operands, Call.operands]) 2 _ rfl rfl
   have e34 : a'.eval (.tmp 34) = .agg (pteL layPages).toArray := ev 34 (by simp [Op.operands, Call.operands]) 4 _ rfl rfl
   have e47 : a'.eval (.tmp 47) = .string wordB := ev 47 (by simp [Op.operands, Call.operands]) 17 _ rfl rfl
   have q32 : a'.tmps[32]?.getD undef = .slice (some ⟨g, 0, none⟩) 2 2 := by rw [← Array.getD_eq_getD_getElem?]; exact e32
   have q34 : a'.tmps[34]?.getD undef = .agg (pteL layPages).toArray := by rw [← Array.getD_eq_getD_getElem?]; exact e34
   have q47 : a'.tmps[47]?.getD undef = .string wordB := by rw [← Array.getD_eq_getD_getElem?]; exact e47
   refine step_call (f := 29) (args := #[.slice (some ⟨g, 0, none⟩) 2 2, .agg (pteL layPages).toArray, .int .u32 0, .string wordB]) ?_ ?_
   ·unfold execOp
    simp [go_sem, q32, q34, q47]
   ·refine (slay_any (some ⟨g, 0, none⟩) 2 w' (fun e => by cases e) (Blk.row hg)).mono ?_
    rintro e w2 ⟨⟨v, rfl, hown⟩, hb2⟩
    obtain ⟨A, c, rfl, hr, _⟩ := own_read hown
    exact ⟨_, rfl, ⟨A, c, rfl, hr⟩, hb2⟩
  ·cases ho
   obtain ⟨A, c, e48, hr⟩ := ev 48 (by simp [Op.operands]) 18 _ rfl rfl
   refine step_val (v := .tuple #[.slice A 2 c, .bool true]) (w' := w') ?_ ⟨A, c, rfl, hr⟩ (Below.refl _ _)
   unfold execOp
   simp only [e48, Sem.run_pure]
   first | done | rfl
  ·cases ho
   obtain ⟨A, c, e29, hr⟩ := ev 29 (by simp [Op.operands]) 19 _ rfl rfl
   refine step_val (v := .slice A 2 c) (w' := w') ?_ ⟨A, c, rfl, hr⟩ (Below.refl _ _)
   unfold execOp
   simp only [e29]
   first | done | rfl
  ·cases ho
   obtain ⟨A, c, e29, hr⟩ := ev 29 (by simp [Op.operands]) 19 _ rfl rfl
   refine step_val (v := .bool true) (w' := w') ?_ rfl (Below.refl _ _)
   unfold execOp
   simp only [e29]
   first | done | rfl
  ·cases ho
   obtain ⟨A, c, e49, hr⟩ := ev 49 (by simp [Op.operands]) 20 _ rfl rfl
   refine step_val (v := .slice A 2 c) (w' := w') ?_ ⟨A, c, rfl, hr⟩ (Below.refl _ _)
   unfold execOp
   simp only [e49, Sem.run_pure]
   first | done | rfl
  ·cases ho
   have e50 : a'.eval (.tmp 50) = .bool true := ev 50 (by simp [Op.operands]) 21 _ rfl rfl
   refine step_val (v := .bool true) (w' := w') ?_ rfl (Below.refl _ _)
   unfold execOp
   simp only [e50]
   first | done | kernel_rfl
 ·intro a' w4 hb4 hdf hsz hsp hrest
  have hf := frame_of [30, 31, 32, 33, 34, 35, 36, 37, 38, 39, 40, 41, 42, 43, 44, 45, 46, 47, 48, 29, 49, 50, 7, 8] hdf hsz (fun t ht => hrest t (notDst_of rfl ht))
  have v30 : a'.tmps.getD 30 undef = .string zeroP := hsp 0 _ 30 (by decide) rfl rfl
  have v31 : a'.tmps.getD 31 undef = .string zeroP := hsp 1 _ 31 (by decide) rfl rfl
  obtain ⟨g32, v32, hg32⟩ := hsp 2 _ 32 (by decide) rfl rfl
  have v33 : a'.tmps.getD 33 undef = .agg #[.bool true, .bool true, .int .i64 1] := hsp 3 _ 33 (by decide) rfl rfl
  have v34 : a'.tmps.getD 34 undef = .agg (pteL layPages).toArray := hsp 4 _ 34 (by decide) rfl rfl
  have v35 : a'.tmps.getD 35 undef = .int .u32 71876608 := hsp 5 _ 35 (by decide) rfl rfl
  have v36 : a'.tmps.getD 36 undef = .int .u8 0 := hsp 6 _ 36 (by decide) rfl rfl
  have v37 : a'.tmps.getD 37 undef = .int .u32 71876608 := hsp 7 _ 37 (by decide) rfl rfl
  have v38 : a'.tmps.getD 38 undef = .int .u32 280768 := hsp 8 _ 38 (by decide) rfl rfl
  have v39 : a'.tmps.getD 39 undef = .int .u8 192 := hsp 9 _ 39 (by decide) rfl rfl
  have v40 : a'.tmps.getD 40 undef = .int .u32 71876608 := hsp 10 _ 40 (by decide) rfl rfl
  have v41 : a'.tmps.getD 41 undef = .int .u32 1096 := hsp 11 _ 41 (by decide) rfl rfl
  have v42 : a'.tmps.getD 42 undef = .int .u8 72 := hsp 12 _ 42 (by decide) rfl rfl
  have v43 : a'.tmps.getD 43 undef = .int .u32 71876608 := hsp 13 _ 43 (by decide) rfl rfl
  have v44 : a'.tmps.getD 44 undef = .int .u32 4 := hsp 14 _ 44 (by decide) rfl rfl
  have v45 : a'.tmps.getD 45 undef = .int .u8 4 := hsp 15 _ 45 (by decide) rfl rfl
  obtain ⟨g46, v46, hg46⟩ := hsp 16 _ 46 (by decide) rfl rfl
  have v47 : a'.tmps.getD 47 undef = .string wordB := hsp 17 _ 47 (by decide) rfl rfl
  obtain ⟨A48, c48, v48, hr48⟩ := hsp 18 _ 48 (by decide) rfl rfl
  obtain ⟨A29, c29, v29, hr29⟩ := hsp 19 _ 29 (by decide) rfl rfl
  obtain ⟨A49, c49, v49, hr49⟩ := hsp 20 _ 49 (by decide) rfl rfl
  have v50 : a'.tmps.getD 50 undef = .bool true := hsp 21 _ 50 (by decide) rfl rfl
  obtain ⟨A7, c7, v7, hr7⟩ := hsp 22 _ 7 (by decide) rfl rfl
  have v8 : a'.tmps.getD 8 undef = .bool true := hsp 23 _ 8 (by decide) rfl rfl
  simp only [List.map_cons, List.map_nil, putsD] at hf
  rw [v30, v31, v32, v33, v34, v35, v36, v37, v38, v39, v40, v41, v42, v43, v44, v45, v46, v47, v48, v29, v49, v50, v7, v8] at hf
  rw [← HA.out] at hf
  subst hf
  simp only [List.drop_succ_cons, List.drop_zero]
  clear hsp hrest hdf hsz ha3 hasz HA
  clear v30 v31 v32 v33 v34 v35 v36 v37 v38 v39 v40 v41 v42 v43 v44 v45 v46 v47 v48 v29 v49 v50 v7 v8
  have B6 := Lib.hid (B5.out.trans (hb4.mono B5.out.size))
  have Y5 := Lib.hid (X5.out.below hb4 X5.out.lt)
  have Y6 := Lib.hid (X6.out.below hb4 X6.out.lt)
  have R4 := Lib.hid hr7
  clear hb4 B5 X5 X6 hr48 hr29 hr49 hg32 hg46
  go_frame
  go_wp2_with (first
   | (refine load_blk 79 (.tmp 6) gc 79 (cpuC regs0 0) _ rfl rfl rfl Y6.out Tryz.underlying79 rfl (cpu_size rfl) ?_; go_frame)
   | (refine load_blk 76 (.tmp 5) gs 76 (pteL codePages).toArray _ rfl rfl rfl Y5.out Tryz.underlying76 rfl (space_size rfl) ?_; go_frame))
  refine (step_spk A7 c7 _ R4.out).mono ?_
  rintro e w7 ⟨⟨v, rfl⟩, hb7⟩
  have B7 := Lib.hid (B6.out.trans (hb7.mono B6.out.size))
  clear hb7 B6 R4 Y5 Y6
  go_wp2_with (first
   | (refine store_blk 79 (.tmp 9) (.tmp 56) w7.heap.size 79 zC (cpuC regs1 4) rfl rfl rfl rfl ((Blk.new w7 _ _).alloc _) rfl (cpu_size rfl) (cpuC_one _ _) ?_; intro w8 hr8 hg8; go_frame)
   | (refine store_blk 84 (.tmp 11) (.tmp 58) (w7.heap.size + 1) 84 zE (evC 0 0) rfl rfl rfl rfl (ev_new hg8) rfl ev_info (evC_one _ _) ?_; intro w9 hr9 hg9; have k0 : w9.cell? ⟨w7.heap.size + 1, 0, none⟩ = some (.int .i64 0) := hr9.cell 0 rfl; have k1 : w9.cell? ⟨w7.heap.size, 1, none⟩ = some (.int .u32 5) := (hr8.grown hg9 (ne_blk (by omega))).cell 1 rfl; have k2 : w9.cell? ⟨w7.heap.size, 16, none⟩ = some (.int .u32 4) := (hr8.grown hg9 (ne_blk (by omega))).cell 16 rfl; have BF := Lib.hid (two_below hg8 hg9 B7.out); clear hr8 hg8 hr9 hg9 B7; go_frame))
  go_ret
  exact ⟨rfl, BF.out⟩
def getA (l : List AttV) (nm : ByteArray) : ByteArray × Int := if idxA l nm < 0 then (⟨#[]⟩, 9) else ((l.getD (idxA l nm).toNat default).value, 0)
def agetO (xs : List ByteArray) (n : Int) (l : List AttV) (nm : ByteArray) : ByteArray × Int := if opE xs n ≠ 0 then (⟨#[]⟩, opE xs n) else getA l nm
set_option maxHeartbeats 4000000 in
theorem aget_any (A : Option Addr) (c : Nat) (xs : List ByteArray) (n : Int) (l : List AttV) (nm : ByteArray) (w : World) (hx : xs.length ≤ 1000000) (hl : l.length ≤ 1000) (hA : inoE xs n = 0 → (getR xs n).getD 0 0 ≠ 0 → AttAt xs n l) (h : RowAt w w.heap.size A (xs.map .string)) :
  Calls Tryz.prog 16 #[.slice A xs.length c, .int .i64 n, .string nm] w fun e w' => e = .returned (.tuple #[.string (agetO xs n l nm).1, .int .i64 (agetO xs n l nm).2]) ∧ Below w.heap.size w w' := by
 have CO := Lib.hid (aopen_any A c xs n l w hx hA h)
 have CF := Lib.hid (fun A c w h => of_any2 A c l nm w hl h)
 have HO : Hid (agetO xs n l nm = if opE xs n ≠ 0 then (⟨#[]⟩, opE xs n) else getA l nm) := by show _ = _; rfl
 have HG : Hid (getA l nm = if idxA l nm < 0 then (⟨#[]⟩, 9) else ((l.getD (idxA l nm).toNat default).value, 0)) := by show _ = _; rfl
 have HS := Lib.hid (idxA_spec l nm)
 have HLL : Hid (l.length ≤ 1000) := hl
 unfold OpPost at CO
 generalize opE xs n = oe at *
 generalize agetO xs n l nm = z at *
 generalize getA l nm = ga at *
 generalize idxA l nm = ix at *
 obtain ⟨R, hR, hRl⟩ : ∃ R, (if oe = 0 then getR xs n else List.replicate 12 0) = R ∧ R.length = 12 := ⟨_, rfl, by split; exact getR_len _ _; rfl⟩
 rw [hR] at CO
 have HSZ : Hid ((inoC R).size = 12) := by show _ = _; rw [inoC_size, hRl]
 have HONE := Lib.hid (inoC_one R)
 generalize inoC R = rc at *
 clear h hA hx hl hR hRl
 go_enter Tryz.func16, Tryz.ntmps16
 go_wp2_with fail
 refine CO.out.mono ?_
 rintro e' w1 ⟨⟨v, rfl, hown⟩, hb1⟩
 have B1 := Lib.hid hb1
 have O1 := Lib.hid hown
 clear hb1 hown CO
 by_cases h0 : oe = 0
 case neg =>
  have h0' : (oe != 0) = true := by simpa using h0
  rw [if_pos h0] at HO
  go_wp2_with (refine store_blk 39 (.tmp 8) (.tmp 16) w1.heap.size 39 #[.int .i64 0, .int .i64 0, .int .i64 0, .int .i64 0, .int .i64 0, .int .i64 0, .int .i64 0, .int .i64 0, .int .i64 0, .int .i64 0, .int .i64 0, .int .i64 0] rc rfl rfl rfl rfl (Blk.new w1 _ _) (by rw [HSZ.out]; rfl) (by rw [HSZ.out]; kernel_rfl) HONE.out ?_; intro wz hrz hgz)
  go_ret2
  rw [HO.out]
  exact ⟨rfl, ((B1.out.alloc B1.out.size _).grown hgz (B1.out.alloc B1.out.size (.cells #[.int .i64 0, .int .i64 0, .int .i64 0, .int .i64 0, .int .i64 0, .int .i64 0, .int .i64 0, .int .i64 0, .int .i64 0, .int .i64 0, .int .i64 0, .int .i64 0] 39)).size (fun k e => by cases e; exact B1.out.size))⟩
 subst h0
 rw [if_neg (by simp)] at HO
 rw [if_pos rfl] at O1
 obtain ⟨A1, c1, rfl, hrow⟩ := own_atts (l := l) O1.out rfl
 have R1 := Lib.hid hrow
 clear hrow O1
 have hlt1 : w1.heap.size < (w1.alloc (.cells #[.int .i64 0, .int .i64 0, .int .i64 0, .int .i64 0, .int .i64 0, .int .i64 0, .int .i64 0, .int .i64 0, .int .i64 0, .int .i64 0, .int .i64 0, .int .i64 0] 39)).heap.size := by simp
 go_wp2_with (refine store_blk 39 (.tmp 8) (.tmp 16) w1.heap.size 39 #[.int .i64 0, .int .i64 0, .int .i64 0, .int .i64 0, .int .i64 0, .int .i64 0, .int .i64 0, .int .i64 0, .int .i64 0, .int .i64 0, .int .i64 0, .int .i64 0] rc rfl rfl rfl rfl (Blk.new w1 _ _) (by rw [HSZ.out]; rfl) (by rw [HSZ.out]; kernel_rfl) HONE.out ?_; intro wz hrz hgz; have BZ : Hid (Below w1.heap.size w1 wz) := ((Below.refl w1.heap.size w1).alloc (Nat.le_refl _) (.cells #[.int .i64 0, .int .i64 0, .int .i64 0, .int .i64 0, .int .i64 0, .int .i64 0, .int .i64 0, .int .i64 0, .int .i64 0, .int .i64 0, .int .i64 0, .int .i64 0] 39)).grown hgz ((Below.refl w1.heap.size w1).alloc (Nat.le_refl _) (.cells #[.int .i64 0, .int .i64 0, .int .i64 0, .int .i64 0, .int .i64 0, .int .i64 0, .int .i64 0, .int .i64 0, .int .i64 0, .int .i64 0, .int .i64 0, .int .i64 0] 39)).size (fun k e => by cases e; exact Nat.le_refl _); clear hrz hgz)
 have R2 := Lib.hid (row_keep R1.out BZ.out BZ.out.size)
 have B2 := Lib.hid (B1.out.trans (BZ.out.mono B1.out.size))
 clear R1 BZ B1 hlt1
 refine (CF.out _ _ _ R2.out).mono ?_
 rintro e' w3 ⟨rfl, hb3⟩
 have R3 := Lib.hid (row_keep R2.out hb3 hb3.size)
 have B3 := Lib.hid (B2.out.trans (hb3.mono B2.out.size))
 clear hb3 R2 B2 CF
 rcases HS.out with ⟨hi, _⟩ | ⟨k, hk, hi, _, _⟩
 ·subst hi
  rw [if_pos (by decide)] at HG
  go_wp2
  go_ret2
  rw [HO.out, HG.out]
  exact ⟨rfl, B3.out⟩
 ·subst hi
  rw [if_neg (by omega), Int.toNat_natCast, List.getD_eq_getElem?_getD, List.getElem?_eq_getElem hk, Option.getD_some] at HG
  obtain ⟨bb, oo, rfl, hbb, hcc⟩ := att_at R3.out hk
  have c0 := hcc 1 (.string l[k].value) rfl
  generalize l[k] = x at *
  obtain ⟨a, v⟩ := x
  have i0 : ¬ (k : Int) < 0 := by omega
  have i1 : (0 : Int) ≤ (k : Int) := by omega
  have i2 : (k : Int) < (l.length : Int) := by omega
  clear hcc hbb HS
  go_wp2
  go_ret2
  rw [HO.out, HG.out]
  exact ⟨rfl, B3.out⟩
section
variable {V W X ys : List ByteArray} {m n k off size : Nat} {d : List UInt8}
theorem act_keep (h : FsT V m) (a : DeedV) : FsT (actO V a).1 m ∧ (actO V a).1.length = V.length := by
 unfold actO
 by_cases he : (actI V a).2 = 0
 ·rw [if_pos he]
  show FsT (actI V a).1 m ∧ (actI V a).1.length = V.length
  unfold actI at he ⊢
  by_cases h0 : a.kind = 0
  ·rw [if_pos h0] at he ⊢
   exact TreeX.made h he
  rw [if_neg h0] at he ⊢
  by_cases h1 : a.kind = 1
  ·rw [if_pos h1] at he ⊢
   exact TreeX.made h he
  rw [if_neg h1] at he ⊢
  by_cases h2 : a.kind = 2
  ·rw [if_pos h2] at he ⊢
   exact TreeX.link h he
  rw [if_neg h2] at he ⊢
  by_cases h3 : a.kind = 3
  ·rw [if_pos h3] at he ⊢
   exact TreeX.remove h he
  rw [if_neg h3] at he ⊢
  by_cases h4 : a.kind = 4
  ·rw [if_pos h4] at he ⊢
   exact TreeX.rename h he
  rw [if_neg h4] at he ⊢
  by_cases h5 : a.kind = 5
  ·rw [if_pos h5] at he ⊢
   exact TreeX.write h he
  rw [if_neg h5] at he ⊢
  by_cases h6 : a.kind = 6
  ·rw [if_pos h6] at he ⊢
   exact TreeX.cut h he
  rw [if_neg h6] at he ⊢
  by_cases h7 : a.kind = 7
  ·rw [if_pos h7] at he ⊢
   obtain ⟨x, y, _⟩ := TreeX.setattr h he
   exact ⟨x, y⟩
  rw [if_neg h7] at he ⊢
  by_cases h8 : a.kind = 8
  ·rw [if_pos h8] at he ⊢
   obtain ⟨x, y⟩ := TreeX.limit h he
   exact ⟨x, y.len⟩
  rw [if_neg h8] at he
  exact absurd he (by decide)
 ·rw [if_neg he]
  exact ⟨h, rfl⟩
def wholeT (V : List ByteArray) (m n : Nat) : List UInt8 := (List.range (sizeX (getR V (n : Int)))).map (byteX V m (getR V (n : Int)))
theorem readO_whole (hv : IsVol V m) (h1 : 1 ≤ n) (h2 : n ≤ m) : readO V (n : Int) 0 8960 = (wholeT V m n, 0) := by
 unfold readO
 rw [inoE_zero hv h1 h2, if_neg (by simp), if_neg (by omega), mO_vol hv]
 unfold readX spanX
 have := sizeX_le (getR V (n : Int))
 rw [show min ((0 : Int).toNat + (8960 : Int).toNat) (sizeX (getR V (n : Int))) - (0 : Int).toNat = sizeX (getR V (n : Int)) by show min (0 + 8960) _ - 0 = _; omega]
 congr 1
 unfold wholeT
 rw [List.range_eq_range']
 rfl
theorem fileO_one (hv : IsVol V m) (h1 : 1 ≤ n) (h2 : n ≤ m) : fileO V (n : Int) = if kindR V n ≠ 1 then 11 else 0 := by
 unfold fileO
 rw [inoE_zero hv h1 h2, if_neg (by simp), kind_getT hv h1 h2]
theorem readF_whole (hv : IsVol V m) (h1 : 1 ≤ n) (h2 : n ≤ m) : readF V (n : Int) 0 8960 = if kindR V n ≠ 1 then ([], 11) else (wholeT V m n, 0) := by
 unfold readF
 rw [fileO_one hv h1 h2, readO_whole hv h1 h2]
 by_cases h : kindR V n = 1
 ·simp [h]
 ·simp [h]
theorem wholeT_same (hg : getR W (n : Int) = getR V (n : Int)) (hb : ∀ i, i < 8960 → byteX W m (getR V (n : Int)) i = byteX V m (getR V (n : Int)) i) : wholeT W m n = wholeT V m n := by
 unfold wholeT
 rw [hg]
 refine List.map_congr_left fun i hi => hb i ?_
 have := List.mem_range.1 hi
 have := sizeX_le (getR V (n : Int))
 omega
theorem FarT.read (hv : IsVol V m) (f : FarT V W m n) (hk : LiveT V m k) (hne : k ≠ n) : readF W (k : Int) 0 8960 = readF V (k : Int) 0 8960 := by
 rw [readF_whole f.inv.vol hk.1 hk.2.1, readF_whole hv hk.1 hk.2.1, f.kind hv hk.1 hk.2.1 hne, wholeT_same (f.rest k hk.1 hk.2.1 hne) (f.byte k hk hne)]
def cutL (size : Nat) (l : List UInt8) : List UInt8 := l.take size ++ List.replicate (size - l.length) 0
theorem cutL_len (size : Nat) (l : List UInt8) : (cutL size l).length = size := by unfold cutL; simp; omega
theorem cutL_get (size : Nat) (l : List UInt8) (i : Nat) : (cutL size l)[i]? = if i < size then some (l.getD i 0) else none := by
 unfold cutL
 by_cases h : i < size
 ·rw [if_pos h]
  by_cases h2 : i < l.length
  ·rw [List.getElem?_append_left (by simp; omega), List.getElem?_take, if_pos h, List.getD_eq_getElem?_getD, List.getElem?_eq_getElem h2]; rfl
  ·rw [List.getElem?_append_right (by simp; omega), List.getElem?_replicate, if_pos (by simp; omega), List.getD_eq_getElem?_getD, List.getElem?_eq_none (by omega)]; rfl
 ·rw [if_neg h, List.getElem?_eq_none (by simp; omega)]
theorem cutL_grow {l : List UInt8} (h : l.length ≤ size) : cutL size l = l ++ List.replicate (size - l.length) 0 := by
 unfold cutL
 rw [List.take_of_length_le h]
def wrL (off : Nat) (d l : List UInt8) : List UInt8 := if d = [] then l else (cutL (max l.length (off + d.length)) l).take off ++ d ++ (cutL (max l.length (off + d.length)) l).drop (off + d.length)
theorem wrL_get (off : Nat) (d l : List UInt8) (hd : d ≠ []) (i : Nat) : (wrL off d l)[i]? = if i < max l.length (off + d.length) then some (if off ≤ i ∧ i < off + d.length then d.getD (i - off) 0 else l.getD i 0) else none := by
 unfold wrL
 rw [if_neg hd]
 have e := cutL_len (max l.length (off + d.length)) l
 have e1 : ((cutL (max l.length (off + d.length)) l).take off).length = off := by rw [List.length_take, e]; omega
 have e2 : ((cutL (max l.length (off + d.length)) l).take off ++ d).length = off + d.length := by rw [List.length_append, e1]
 by_cases h1 : i < off
 ·rw [if_pos (by omega), if_neg (by omega), List.getElem?_append_left (by omega), List.getElem?_append_left (by omega), List.getElem?_take, if_pos h1, cutL_get, if_pos (by omega)]
 ·by_cases h2 : i < off + d.length
  ·rw [if_pos (by omega), if_pos ⟨by omega, h2⟩, List.getElem?_append_left (by omega), List.getElem?_append_right (by omega), e1, List.getD_eq_getElem?_getD, List.getElem?_eq_getElem (by omega)]; rfl
  ·rw [List.getElem?_append_right (by omega), e2, List.getElem?_drop, cutL_get, show off + d.length + (i - (off + d.length)) = i by omega, if_neg (show ¬ (off ≤ i ∧ i < off + d.length) by omega)]
theorem wrL_some {l : List UInt8} (hd : d ≠ []) : wrL off d l = (cutL (max l.length (off + d.length)) l).take off ++ d ++ (cutL (max l.length (off + d.length)) l).drop (off + d.length) := by
 unfold wrL
 rw [if_neg hd]
theorem wrL_none (off : Nat) (l : List UInt8) : wrL off [] l = l := by
 unfold wrL
 rw [if_pos rfl]
theorem reads_row {l d : List UInt8} {off j k : Nat} (hk : k = min off (l.length + j)) (hj : d ≠ [] → j = max l.length (off + d.length) - l.length) (hj0 : d = [] → j = 0) :
  (l ++ List.replicate j 0).take k ++ d ++ (l ++ List.replicate j 0).drop (k + d.length) = wrL off d l := by
 by_cases h : d = []
 ·subst h
  rw [wrL_none, hj0 rfl]
  simp
 ·have e : l ++ List.replicate j 0 = cutL (max l.length (off + d.length)) l := by rw [cutL_grow (Nat.le_max_left _ _), hj h]
  have hp := List.length_pos_iff.2 h
  have ek : k = off := by rw [hk, hj h]; omega
  rw [wrL_some h, e, ek]
theorem wholeT_len (V : List ByteArray) (m n : Nat) : (wholeT V m n).length = sizeX (getR V (n : Int)) := by unfold wholeT; simp
theorem wholeT_get (V : List ByteArray) (m n i : Nat) : (wholeT V m n)[i]? = if i < sizeX (getR V (n : Int)) then some (byteX V m (getR V (n : Int)) i) else none := by
 unfold wholeT
 rw [List.getElem?_map]
 by_cases hi : i < sizeX (getR V (n : Int))
 ·rw [if_pos hi, List.getElem?_range hi]; rfl
 ·rw [if_neg hi, List.getElem?_eq_none (by simpa using hi)]; rfl
theorem wholeT_getD (g : GoodT V m (getR V (n : Int))) {i : Nat} (hi : i < 8960) : (wholeT V m n).getD i 0 = byteX V m (getR V (n : Int)) i := by
 rw [List.getD_eq_getElem?_getD, wholeT_get]
 by_cases h1 : i < sizeX (getR V (n : Int))
 ·rw [if_pos h1]; rfl
 ·rw [if_neg h1, g.zero i (by omega) hi]; rfl
structure WriteT (V W : List ByteArray) (m n off : Nat) (d : List UInt8) : Prop where
 tree : FsT W m
 len : W.length = V.length
 small : off + d.length ≤ 8960
 here : LiveT W m n
 kind : kindR W n = 1
 whole : wholeT W m n = wrL off d (wholeT V m n)
 other : ∀ k, LiveT V m k → k ≠ n → readF W (k : Int) 0 8960 = readF V (k : Int) 0 8960
theorem TreeX.write_whole (h : FsT V m) (hn : LiveT V m n) (hk : kindR V n = 1) (he : (writeF V (n : Int) (off : Int) d).2 = 0) : WriteT V (writeF V (n : Int) (off : Int) d).1 m n off d := by
 obtain ⟨t, l⟩ := TreeX.write h he
 have hf : fileO V (n : Int) = 0 := by rw [fileO_one h.vol hn.1 hn.2.1, if_neg (fun e => e hk)]
 have hw1 : writeF V (n : Int) (off : Int) d = weighO V (writeO V (n : Int) (off : Int) d) := by unfold writeF; rw [hf, if_neg (by simp)]
 rw [hw1] at he t l ⊢
 obtain ⟨hw, hW, _⟩ := weigh_ok he
 rw [hW] at t l ⊢
 dsimp only at t l ⊢
 obtain ⟨_, hs, r, ws, hr, mv⟩ := h.dir.inv.write hn hw
 rw [Int.toNat_natCast] at ws
 generalize (writeO V (n : Int) (off : Int) d).1 = W at *
 have f := mv.far
 have hz := sizeX_le (getR V (n : Int))
 have hl : LiveT W m n := (mv.live n).2 hn
 refine ⟨t, l, by omega, hl, ?_, ?_, fun k hk2 hne => f.read h.vol hk2 hne⟩
 ·rw [← kind_getT f.inv.vol hn.1 hn.2.1, mv.get, ws.mv.keep 0 (.inl (by omega)), kind_getT h.vol hn.1 hn.2.1]; exact hk
 ·have g := h.dir.inv.good n hn
  have ez := ws.size
  by_cases hd : d = []
  ·rw [if_pos hd] at ez
   subst hd
   rw [wrL_none]
   unfold wholeT
   rw [mv.get, ez]
   refine List.map_congr_left fun i hi => ?_
   have := List.mem_range.1 hi
   rw [mv.byte, ws.byte i (by omega)]
   unfold wrF
   rw [if_neg (by simp)]
  ·rw [if_neg hd] at ez
   apply List.ext_getElem?
   intro i
   rw [wholeT_get, wrL_get _ _ _ hd, mv.get, ez, wholeT_len]
   by_cases hi : i < max (sizeX (getR V (n : Int))) (off + d.length)
   ·rw [if_pos hi, if_pos hi, mv.byte, ws.byte i (by omega), wholeT_getD g (by omega)]; rfl
   ·rw [if_neg hi, if_neg hi]
theorem TreeX.attr_file (h : FsT V m) (hn : LiveT V m n) {nm v : ByteArray} (he : (setF V (n : Int) (attL V (n : Int)) nm v).2 = 0) :
  FsT (setF V (n : Int) (attL V (n : Int)) nm v).1 m ∧ (setF V (n : Int) (attL V (n : Int)) nm v).1.length = V.length ∧ readF (setF V (n : Int) (attL V (n : Int)) nm v).1 (n : Int) 0 8960 = readF V (n : Int) 0 8960 ∧
  AttAt (setF V (n : Int) (attL V (n : Int)) nm v).1 (n : Int) (putA (attL V (n : Int)) nm v) ∧ agetO (setF V (n : Int) (attL V (n : Int)) nm v).1 (n : Int) (putA (attL V (n : Int)) nm v) nm = (v, 0) := by
 obtain ⟨t, l, hs, e⟩ := TreeX.setattr h he
 rw [e] at t l ⊢
 dsimp only at t l ⊢
 obtain ⟨n2, hn2, _, hm, a⟩ := h.dir.attr hs
 obtain rfl : n = n2 := by omega
 have hps := (add_facts2 (attL_ok V (n : Int)).1 nm v).2.1
 have hpm : (⟨nm, v⟩ : AttV) ∈ putA (attL V (n : Int)) nm v := by
  rw [put_mem]
  unfold addA
  split
  ·rename_i hi
   rcases idxA_spec (attL V (n : Int)) nm with ⟨e2, _⟩ | ⟨k, hk, e2, _, _⟩
   ·omega
   ·rw [e2, Int.toNat_natCast]
    exact List.mem_iff_getElem.2 ⟨k, by simpa using hk, by simp⟩
  ·simp
 generalize (setA V (n : Int) (attL V (n : Int)) nm v).1 = W at *
 generalize putA (attL V (n : Int)) nm v = L at *
 have hz := sizeX_le (getR V (n : Int))
 refine ⟨t, l, ?_, a.att, ?_⟩
 ·rw [readF_whole a.dir.inv.vol hn.1 hn.2.1, readF_whole h.vol hn.1 hn.2.1]
  have hkk : kindR W n = kindR V n := by
   rw [← kind_getT a.dir.inv.vol hn.1 hn.2.1, ← kind_getT h.vol hn.1 hn.2.1]; exact a.keep 0 (by omega)
  have hsz : sizeX (getR W (n : Int)) = sizeX (getR V (n : Int)) := by unfold sizeX; rw [a.keep 3 (by omega)]
  have hw : wholeT W m n = wholeT V m n := by
   unfold wholeT
   rw [hsz]
   refine List.map_congr_left fun i hi => a.byte i ?_
   have := List.mem_range.1 hi
   omega
  rw [hkk, hw]
 ·have ho : opE W (n : Int) = 0 := by
   unfold opE
   rw [inoE_zero a.dir.inv.vol hn.1 hn.2.1, if_neg (by simp), kind_getT a.dir.inv.vol hn.1 hn.2.1, if_neg a.here.2.2]
  unfold agetO
  rw [ho, if_neg (by simp)]
  unfold getA
  rcases idxA_spec L nm with ⟨_, e2⟩ | ⟨k, hk, e2, e3, _⟩
  ·exact absurd rfl (e2 _ hpm)
  ·rw [e2, if_neg (by omega), Int.toNat_natCast, List.getD_eq_getElem?_getD, List.getElem?_eq_getElem hk]
   show (L[k].value, (0 : Int)) = (v, 0)
   have : L[k] = ⟨nm, v⟩ := by
    obtain ⟨j, hj, ej⟩ := List.mem_iff_getElem.1 hpm
    have hd := List.pairwise_iff_getElem.1 (sorted_dist hps)
    by_cases hjk : j = k
    ·subst hjk; exact ej
    ·rcases Nat.lt_or_gt_of_ne hjk with h1 | h1
     ·exact absurd (by rw [ej, e3]) (hd j k hj hk h1)
     ·exact absurd (by rw [ej, e3]) (hd k j hk hj h1)
   rw [this]
end
theorem plan_of (x y : Nat) : planE ((20 + x % 40 : Nat) : Int) ((4 + y % 12 : Nat) : Int) = 0 ∧ 9 ≤ (20 + x % 40) - dataN (4 + y % 12) := by
 constructor
 ·unfold planE
  rw [if_neg (by omega), if_neg (by omega)]
 ·unfold dataN
  omega
set_option maxHeartbeats 4000000 in
theorem volume_any (x y : Nat) (w : World) (hx : x < 256) (hy : y < 256) : Calls Tryz.prog 6 #[.int .u8 x, .int .u8 y] w fun e w' => (∃ v, e = .returned (.tuple #[v, .bool true]) ∧ OwnRow (startV (20 + x % 40) (4 + y % 12)) w v w') ∧ Below w.heap.size w w' := by
 obtain ⟨hp, hr⟩ := plan_of x y
 have s1 : IntKind.i64.wrap (x : Int) = (x : Int) := IntWalk.i64_in _ (by omega)
 have s1' : wrap64 (x : Int) = (x : Int) := by unfold wrap64; omega
 have s2 : IntKind.i64.wrap (y : Int) = (y : Int) := IntWalk.i64_in _ (by omega)
 have s2' : wrap64 (y : Int) = (y : Int) := by unfold wrap64; omega
 obtain ⟨xm, hxm⟩ : ∃ xm, xm = x % 40 := ⟨_, rfl⟩
 obtain ⟨ym, hym⟩ : ∃ ym, ym = y % 12 := ⟨_, rfl⟩
 have s3 : (x : Int).tmod 40 = (xm : Int) := by rw [Int.tmod_eq_emod_of_nonneg (by omega)]; omega
 have s4 : (y : Int).tmod 12 = (ym : Int) := by rw [Int.tmod_eq_emod_of_nonneg (by omega)]; omega
 rw [← hxm, ← hym] at hp hr ⊢
 obtain ⟨b, hb⟩ : ∃ b, b = 20 + xm := ⟨_, rfl⟩
 obtain ⟨m, hm⟩ : ∃ m, m = 4 + ym := ⟨_, rfl⟩
 rw [← hb, ← hm] at hp hr ⊢
 have s5 : IntKind.i64.wrap ((20 : Int) + (xm : Int)) = (b : Int) := by rw [show (20 : Int) + (xm : Int) = (b : Int) by omega]; exact IntWalk.i64_in _ (by omega)
 have s6 : IntKind.i64.wrap ((4 : Int) + (ym : Int)) = (m : Int) := by rw [show (4 : Int) + (ym : Int) = (m : Int) by omega]; exact IntWalk.i64_in _ (by omega)
 have hb6 : b ≤ 59 := by omega
 obtain ⟨t1, _, _, t4, _⟩ := top_tree hp
 obtain ⟨f1, f2, _, _, _, _, _, f8⟩ := file_made hp hr
 obtain ⟨g1, g2, g3, _⟩ := start_ok hp hr
 have CM : Hid (∀ w, Calls Tryz.prog 25 #[.int .i64 b, .int .i64 m] w (RowCode (topV b m) 0 w)) := fun w => by
  have h := make_any (b : Int) (m : Int) w (fun _ => by rw [Int.toNat_natCast, fmtV_length]; omega)
  rw [top_make hp] at h
  exact h
 have CC : Hid (∀ A c w, RowAt w w.heap.size A ((topV b m).map .string) → Calls Tryz.prog 26 #[.slice A (topV b m).length c, .string initP, .int .i64 0] w (RowNumCode (fileV b m, 2, 0) w)) := fun A c w h => by
  have h := create_any A c (topV b m) initP 0 w (by omega) (by decide) h
  rw [f1] at h
  exact h
 have CW : Hid (∀ A c w, RowAt w w.heap.size A ((fileV b m).map .string) → Calls Tryz.prog 13 #[.slice A (fileV b m).length c, .int .i64 2, .int .i64 0, .string fileB] w (RowCode (startV b m) 0 w)) := fun A c w h => by
  have h := writeF_any A c (fileV b m) 2 0 fileB w (by omega) (by decide) (by decide) h
  rw [g1] at h
  exact h
 unfold RowCode at CM CW
 unfold RowNumCode at CC
 dsimp only at CM CC CW
 generalize topV b m = V1 at *
 generalize fileV b m = V2 at *
 generalize startV b m = V3 at *
 have hI : initP = ⟨#[47, 105, 110, 105, 116]⟩ := rfl
 have hF : fileB = ⟨#[97, 32, 102, 105, 108, 101]⟩ := rfl
 rw [hI] at CC
 rw [hF] at CW
 clear hp hr t1 t4 f1 f2 f8 g1 g2 g3 hxm hym hb hm hx hy hb6 hI hF
 go_enter Tryz.func6, Tryz.ntmps6
 go_wp2_with fail
 refine (CM.out _).mono ?_
 rintro e w1 ⟨⟨v, rfl, hown⟩, hb1⟩
 obtain ⟨A1, c1, rfl, hrow⟩ := OwnRow.read hown
 have R1 := Lib.hid hrow
 have B1 := Lib.hid hb1
 clear hown hb1 hrow CM
 go_wp2_with fail
 refine (CC.out _ _ _ R1.out).mono ?_
 rintro e w2 ⟨⟨v, rfl, hown⟩, hb2⟩
 obtain ⟨A2, c2, rfl, hrow⟩ := OwnRow.read hown
 have R2 := Lib.hid hrow
 have B2 := Lib.hid (B1.out.trans (hb2.mono B1.out.size))
 clear hown hb2 hrow CC
 go_wp2_with fail
 refine (CW.out _ _ _ R2.out).mono ?_
 rintro e w3 ⟨⟨v, rfl, hown⟩, hb3⟩
 have ON := Lib.hid (own_low hown B2.out.size)
 have B3 := Lib.hid (B2.out.trans (hb3.mono B2.out.size))
 clear hown hb3 CW
 go_wp2
 go_ret2
 exact ⟨⟨_, rfl, ON.out⟩, B3.out⟩
end Go.Proofs.YtdldlendppkknaaGreatDoor
