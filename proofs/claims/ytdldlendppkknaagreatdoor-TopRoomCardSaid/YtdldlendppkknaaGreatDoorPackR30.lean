/-
  Contracts and plain laws: SpkD, TreeE, TreeF.
-/
import Derived.Test.YtdldlendppkknaaGreatDoorPackR16
import Derived.Test.YtdldlendppkknaaGreatDoorPackR27
import Derived.Test.YtdldlendppkknaaGreatDoorPackR28
import Derived.Test.YtdldlendppkknaaGreatDoorPackR29
namespace Go.Proofs.YtdldlendppkknaaGreatDoor
open Go.RowKit
set_option linter.unusedVariables false
set_option linter.unusedSimpArgs false
set_option maxRecDepth 100000
def spkS (i : Nat) (v : Value) (w : World) : Prop :=
 match i with
 | 0 => v = .string zeroP
 | 1 => v = .string zeroP
 | 2 => ∃ g, v = .slice (some ⟨g, 0, none⟩) 2 2 ∧ Blk w g 9 #[.string zeroP, .string zeroP]
 | 3 => v = .agg #[.bool true, .bool true, .int .i64 1]
 | 4 => v = .agg (pteL layPages).toArray
 | 5 => v = .int .u32 71876608
 | 6 => v = .int .u8 0
 | 7 => v = .int .u32 71876608
 | 8 => v = .int .u32 280768
 | 9 => v = .int .u8 192
 | 10 => v = .int .u32 71876608
 | 11 => v = .int .u32 1096
 | 12 => v = .int .u8 72
 | 13 => v = .int .u32 71876608
 | 14 => v = .int .u32 4
 | 15 => v = .int .u8 4
 | 16 => ∃ g, v = .slice (some ⟨g, 0, none⟩) 4 4 ∧ Blk w g 5 #[.int .u8 0, .int .u8 192, .int .u8 72, .int .u8 4]
 | 17 => v = .string wordB
 | 18 => ∃ A c, v = .tuple #[.slice A 2 c, .bool true] ∧ RowAt w w.heap.size A ([zeroP, codeP].map .string)
 | 19 => ∃ A c, v = .tuple #[.slice A 2 c, .bool true] ∧ RowAt w w.heap.size A ([zeroP, codeP].map .string)
 | 20 => ∃ A c, v = .slice A 2 c ∧ RowAt w w.heap.size A ([zeroP, codeP].map .string)
 | 21 => v = .bool true
 | 22 => ∃ A c, v = .slice A 2 c ∧ RowAt w w.heap.size A ([zeroP, codeP].map .string)
 | 23 => v = .bool true
 | _ => True
theorem spkS_mono (i : Nat) (v : Value) (w w' : World) (h : spkS i v w) (hb : Below w.heap.size w w') : spkS i v w' := by
 unfold spkS at h ⊢
 split at h <;> first
  | exact h
  | (obtain ⟨g, hv, hg⟩ := h; exact ⟨g, hv, hg.below hb hg.lt⟩)
  | (obtain ⟨A, c, hv, hr⟩ := h; exact ⟨A, c, hv, (hr.below hb).mono hb.size⟩)
  | trivial
def regs0 : List Nat := [0, 0, 2, 3, 0, 0, 0, 0, 0, 0, 0, 0, 0, 0, 0, 0]
def regs1 : List Nat := [0, 5, 2, 3, 0, 0, 0, 0, 0, 0, 0, 0, 0, 0, 0, 0]
theorem ev_new {w w' : World} {oc : Obj} {cs : Array Value} (hg : ((w.alloc oc).alloc (.cells cs 84)).grownBy w' (some w.heap.size)) : Blk w' (w.heap.size + 1) 84 cs := by
 have := Blk.new (w.alloc oc) 84 cs
 rw [World.size_alloc] at this
 exact this.grown hg (ne_blk (by omega))
theorem two_below {b w w4 w5 : World} {o1 o2 : Obj} (hg4 : ((w.alloc o1).alloc o2).grownBy w4 (some w.heap.size)) (hg5 : w4.grownBy w5 (some (w.heap.size + 1))) (h : Below b.heap.size b w) : Below b.heap.size b w5 := by
 have h2 := (h.alloc h.size o1).alloc (by have := h.size; simp; omega) o2
 have h3 := h2.grown hg4 h2.size (fun k hk => by cases hk; exact h.size)
 exact h3.grown hg5 h3.size (fun k hk => by cases hk; have := h.size; omega)
theorem step_spk (A : Option Addr) (c : Nat) (w : World) (h : RowAt w w.heap.size A ([zeroP, codeP].map .string)) :
  Calls Tryz.prog 31 #[.agg (cpuC regs0 0), .agg (pteL codePages).toArray, .slice A 2 c] w fun e w' => (∃ v, e = .returned (.tuple #[.agg (cpuC regs1 4), v, .agg #[.int .i64 0, .int .u32 0]])) ∧ Below w.heap.size w w' := by
 have h0 : A = none → [zeroP, codeP].length = 0 ∧ c = 0 := fun e => by
  subst e
  obtain ⟨b, o, hA, _⟩ := RowAt.at_ h (by decide)
  cases hA
 have := step_add regs0 0 codePages A c [zeroP, codeP] w ⟨rfl, by decide⟩ (by decide) rfl (by decide) h h0 code_load
 exact this
set_option maxHeartbeats 4000000 in
theorem speaks_any (w : World) (ht : SpkT w) : Calls Tryz.prog 8 #[] w fun e w' => e = .returned (.bool true) ∧ Below w.heap.size w w' := by
 have HT := Lib.hid ht
 clear ht
 go_enter Tryz.func8, Tryz.ntmps8
 go_wp2_with fail
 refine (op_add _ HT.out).mono ?_
 rintro e w1 ⟨rfl, hb1⟩
 have B1 := Lib.hid hb1
 clear hb1
 go_wp2_with fail
 refine (enc_add _).mono ?_
 rintro e w2 ⟨rfl, hb2⟩
 have B2 := Lib.hid (B1.out.trans (hb2.mono B1.out.size))
 clear hb2 B1
 go_wp2_with (first
  | (refine store_blk 76 (.tmp 5) (.tmp 23) w2.heap.size 76 (pteL (List.replicate 16 ⟨false, false, 0⟩)).toArray (pteL codePages).toArray rfl rfl rfl rfl (Blk.new w2 _ _) rfl (space_size rfl) (by decide) ?_; intro w3 hs3 hg3; have S3 := Lib.hid hs3; have G3 := Lib.hid hg3; clear hs3 hg3; go_frame)
  | (refine store_blk 79 (.tmp 6) (.tmp 24) w3.heap.size 79 zC zC rfl rfl rfl rfl (Blk.new w3 _ _) rfl cpu_info (by decide) ?_; intro w4 hs4 hg4; have S4 := Lib.hid hs4; have G4 := Lib.hid hg4; have q2 : w4.cell? ⟨w3.heap.size, 2, none⟩ = some (.int .u32 0) := hs4.cell 2 rfl; have f2 := hs4.frozen 2; have q3 : w4.cell? ⟨w3.heap.size, 3, none⟩ = some (.int .u32 0) := hs4.cell 3 rfl; have f3 := hs4.frozen 3; clear hs4 hg4; go_frame))
 have B3 : Hid (Below w.heap.size w w3) := (B2.out.alloc B2.out.size _).grown G3.out (by have := B2.out.size; simp; omega) (fun k hk => by cases hk; exact B2.out.size)
 have B4 : Hid (Below w.heap.size w w4) := (B3.out.alloc B3.out.size _).grown G4.out (by have := B3.out.size; simp; omega) (fun k hk => by cases hk; exact B3.out.size)
 have hlt : w2.heap.size < w3.heap.size := S3.out.lt
 have S4s : Hid (Blk w4 w2.heap.size 76 (pteL codePages).toArray) := (S3.out.alloc _).grown G4.out (ne_blk (by omega))
 obtain ⟨w5, hw5⟩ : ∃ w5, (w4.setCell ⟨w3.heap.size, 2, none⟩ (.int .u32 2)).setCell ⟨w3.heap.size, 3, none⟩ (.int .u32 3) = w5 := ⟨_, rfl⟩
 rw [hw5]
 have X5 : Hid (Blk w5 w2.heap.size 76 (pteL codePages).toArray) := hw5 ▸ (S4s.out.far (by show w2.heap.size ≠ w3.heap.size; omega) _).far (by show w2.heap.size ≠ w3.heap.size; omega) _
 have X6 : Hid (Blk w5 w3.heap.size 79 (cpuC regs0 0)) := by
  have h := (S4.out.set_ 2 (.int .u32 2)).set_ 3 (.int .u32 3)
  rw [hw5] at h
  exact h
 have B5 : Hid (Below w.heap.size w w5) := hw5 ▸ (B4.out.setCell (by exact B3.out.size) _).setCell (by exact B3.out.size) _
 generalize w2.heap.size = gs at *
 generalize w3.heap.size = gc at *
 clear hw5 B2 HT S3 G3 S4 G4 q2 f2 q3 f3 B3 B4 S4s hlt
 generalize ha : ({ tmps := _, defers := _ } : Act) = a
 have ha3 : a.eval (.tmp 3) = .int .u32 71876608 := by rw [← ha]; rfl
 have hasz : a.tmps.size = 83 := by rw [← ha]; rfl
 have HA := Lib.hid ha
 clear ha
 refine wp_region_inv 24 spkS (by kernel_rfl) (by rw [hasz]; kernel_rfl) spkS_mono ?_ ?_
 ·intro i o a' w' hi ho hb hag
  have ev : ∀ t, Operand.tmp t ∈ o.op.operands → ∀ (j : Nat) (oj : Oper), _ → oj.dst = some t → spkS j (a'.eval (.tmp t)) w' := fun t ht j oj hj hd => (hag t ht).1 j oj hj hd
  have eb : ∀ t, Operand.tmp t ∈ o.op.operands → _ → a'.eval (.tmp t) = _ := fun t ht h => (hag t ht).2 h
  obtain rfl | rfl | rfl | rfl | rfl | rfl | rfl | rfl | rfl | rfl | rfl | rfl | rfl | rfl | rfl | rfl | rfl | rfl | rfl | rfl | rfl | rfl | rfl | rfl : i = 0 ∨ i = 1 ∨ i = 2 ∨ i = 3 ∨ i = 4 ∨ i = 5 ∨ i = 6 ∨ i = 7 ∨ i = 8 ∨ i = 9 ∨ i = 10 ∨ i = 11 ∨ i = 12 ∨ i = 13 ∨ i = 14 ∨ i = 15 ∨ i = 16 ∨ i = 17 ∨ i = 18 ∨ i = 19 ∨ i = 20 ∨ i = 21 ∨ i = 22 ∨ i = 23 := by omega
  ·cases ho
   refine step_call (f := 30) (args := #[.int .u8 0]) ?_ ?_
   ·unfold execOp
    simp [go_sem]
   ·exact (page_any w').mono fun e w2 ⟨he, hb2⟩ => ⟨_, he, rfl, hb2⟩
  ·cases ho
   refine step_call (f := 30) (args := #[.int .u8 0]) ?_ ?_
   ·unfold execOp
    simp [go_sem]
   ·exact (page_any w').mono fun e w2 ⟨he, hb2⟩ => ⟨_, he, rfl, hb2⟩
  ·cases ho
   have e30 : a'.eval (.tmp 30) = .string zeroP := ev 30 (by simp [Op.operands]) 0 _ rfl rfl
   have e31 : a'.eval (.tmp 31) = .string zeroP := ev 31 (by simp [Op.operands]) 1 _ rfl rfl
   refine step_val (v := .slice (some ⟨w'.heap.size, 0, none⟩) 2 2) (w' := w'.alloc (.cells #[.string zeroP, .string zeroP] 9)) ?_ ⟨_, rfl, Blk.new w' _ _⟩ ((Below.refl _ _).alloc (Nat.le_refl _) _)
   unfold execOp
   simp only [List.map_toArray, List.map_cons, List.map_nil, e30, e31]
   simp [go_sem]
  ·cases ho
   refine step_val (v := .agg #[.bool true, .bool true, .int .i64 1]) (w' := w') ?_ rfl (Below.refl _ _)
   unfold execOp
   simp [go_sem]
  ·cases ho
   have e33 : a'.eval (.tmp 33) = .agg #[.bool true, .bool true, .int .i64 1] := ev 33 (by simp [Op.operands]) 3 _ rfl rfl
   refine step_val (v := .agg (pteL layPages).toArray) (w' := w') ?_ rfl (Below.refl _ _)
   unfold execOp
   simp only [List.map_toArray, List.map_cons, List.map_nil, e33]
   kernel_rfl
  ·cases ho
   have e : a'.eval (.tmp 3) = .int .u32 71876608 := (eb 3 (by simp [Op.operands]) (notDstQ rfl)).trans ha3
   refine step_val (v := .int .u32 71876608) (w' := w') ?_ rfl (Below.refl _ _)
   unfold execOp
   simp only [e, Sem.run_pure]
   first | done | rfl
  ·cases ho
   have e35 : a'.eval (.tmp 35) = .int .u32 71876608 := ev 35 (by simp [Op.operands]) 5 _ rfl rfl
   refine step_val (v := .int .u8 0) (w' := w') ?_ rfl (Below.refl _ _)
   unfold execOp
   simp only [e35]
   first | done | kernel_rfl
  ·cases ho
   have e : a'.eval (.tmp 3) = .int .u32 71876608 := (eb 3 (by simp [Op.operands]) (notDstQ rfl)).trans ha3
   refine step_val (v := .int .u32 71876608) (w' := w') ?_ rfl (Below.refl _ _)
   unfold execOp
   simp only [e, Sem.run_pure]
   first | done | rfl
  ·cases ho
   have e37 : a'.eval (.tmp 37) = .int .u32 71876608 := ev 37 (by simp [Op.operands]) 7 _ rfl rfl
   refine step_val (v := .int .u32 280768) (w' := w') ?_ rfl (Below.refl _ _)
   unfold execOp
   simp only [e37]
   first | done | kernel_rfl
  ·cases ho
   have e38 : a'.eval (.tmp 38) = .int .u32 280768 := ev 38 (by simp [Op.operands]) 8 _ rfl rfl
   refine step_val (v := .int .u8 192) (w' := w') ?_ rfl (Below.refl _ _)
   unfold execOp
   simp only [e38]
   first | done | kernel_rfl
  ·cases ho
   have e : a'.eval (.tmp 3) = .int .u32 71876608 := (eb 3 (by simp [Op.operands]) (notDstQ rfl)).trans ha3
   refine step_val (v := .int .u32 71876608) (w' := w') ?_ rfl (Below.refl _ _)
   unfold execOp
   simp only [e, Sem.run_pure]
   first | done | rfl
  ·cases ho
   have e40 : a'.eval (.tmp 40) = .int .u32 71876608 := ev 40 (by simp [Op.operands]) 10 _ rfl rfl
   refine step_val (v := .int .u32 1096) (w' := w') ?_ rfl (Below.refl _ _)
   unfold execOp
   simp only [e40]
   first | done | kernel_rfl
  ·cases ho
   have e41 : a'.eval (.tmp 41) = .int .u32 1096 := ev 41 (by simp [Op.operands]) 11 _ rfl rfl
   refine step_val (v := .int .u8 72) (w' := w') ?_ rfl (Below.refl _ _)
   unfold execOp
   simp only [e41]
   first | done | kernel_rfl
  ·cases ho
   have e : a'.eval (.tmp 3) = .int .u32 71876608 := (eb 3 (by simp [Op.operands]) (notDstQ rfl)).trans ha3
   refine step_val (v := .int .u32 71876608) (w' := w') ?_ rfl (Below.refl _ _)
   unfold execOp
   simp only [e, Sem.run_pure]
   first | done | rfl
  ·cases ho
   have e43 : a'.eval (.tmp 43) = .int .u32 71876608 := ev 43 (by simp [Op.operands]) 13 _ rfl rfl
   refine step_val (v := .int .u32 4) (w' := w') ?_ rfl (Below.refl _ _)
   unfold execOp
   simp only [e43]
   first | done | kernel_rfl
  ·cases ho
   have e44 : a'.eval (.tmp 44) = .int .u32 4 := ev 44 (by simp [Op.operands]) 14 _ rfl rfl
   refine step_val (v := .int .u8 4) (w' := w') ?_ rfl (Below.refl _ _)
   unfold execOp
   simp only [e44]
   first | done | kernel_rfl
  ·cases ho
   have e36 : a'.eval (.tmp 36) = .int .u8 0 := ev 36 (by simp [Op.operands]) 6 _ rfl rfl
   have e39 : a'.eval (.tmp 39) = .int .u8 192 := ev 39 (by simp [Op.operands]) 9 _ rfl rfl
   have e42 : a'.eval (.tmp 42) = .int .u8 72 := ev 42 (by simp [Op.operands]) 12 _ rfl rfl
   have e45 : a'.eval (.tmp 45) = .int .u8 4 := ev 45 (by simp [Op.operands]) 15 _ rfl rfl
   refine step_val (v := .slice (some ⟨w'.heap.size, 0, none⟩) 4 4) (w' := w'.alloc (.cells #[.int .u8 0, .int .u8 192, .int .u8 72, .int .u8 4] 5)) ?_ ⟨_, rfl, Blk.new w' _ _⟩ ((Below.refl _ _).alloc (Nat.le_refl _) _)
   unfold execOp
   simp only [List.map_toArray, List.map_cons, List.map_nil, e36, e39, e42, e45]
   simp [go_sem]
  ·cases ho
   obtain ⟨g, e46, hg⟩ := ev 46 (by simp [Op.operands]) 16 _ rfl rfl
   refine step_val (v := .string wordB) (w' := w') ?_ rfl (Below.refl _ _)
   have := run_convert_bytes_back (P := Tryz.prog) w' 44 9 5 ⟨g, 0, none⟩ 4 [0, 192, 72, 4] Tryz.underlying44 Tryz.underlying5 Tryz.underlying9 (fun j hj => by
    rw [Addr.add_lit, Nat.zero_add]
    have hj : j < 4 := hj
    obtain rfl | rfl | rfl | rfl : j = 0 ∨ j = 1 ∨ j = 2 ∨ j = 3 := by omega
    ·exact hg.cell 0 rfl
    ·exact hg.cell 1 rfl
    ·exact hg.cell 2 rfl
    ·exact hg.cell 3 rfl)
   unfold execOp
   simp only [e46]
   rw [Sem.run_bind]
   erw [this]
   rfl
  ·cases ho
   obtain ⟨g, e32, hg⟩ := ev 32 (by simp [Op.operands, Call.operands]) 2 _ rfl rfl
   have e34 : a'.eval (.tmp 34) = .agg (pteL layPages).toArray := ev 34 (by simp [Op.operands, Call.operands]) 4 _ rfl rfl
   have e47 : a'.eval (.tmp 47) = .string wordB := ev 47 (by simp [Op.operands, Call.operands]) 17 _ rfl rfl
   have q32 : a'.tmps[32]?.getD undef = .slice (some ⟨g, 0, none⟩) 2 2 := by rw [← Array.getD_eq_getD_getElem?]; exact e32
   have q34 : a'.tmps[34]?.getD undef = .agg (pteL layPages).toArray := by rw [← Array.getD_eq_getD_getElem?]; exact e34
   have q47 : a'.tmps[47]?.getD undef = .string wordB := by rw [← Array.getD_eq_getD_getElem?]; exact e47
   refine step_call (f := 29) (args := #[.slice (some ⟨g, 0, none⟩) 2 2, .agg (pteL layPages).toArray, .int .u32 0, .string wordB]) ?_ ?_
   ·unfold execOp
    simp [go_sem, q32, q34, q47]
   ·refine (slay_any (some ⟨g, 0, none⟩) 2 w' (fun e => by cases e) (Blk.row hg)).mono ?_
    rintro e w2 ⟨⟨v, rfl, hown⟩, hb2⟩
    obtain ⟨A, c, rfl, hr, _⟩ := own_read hown
    exact ⟨_, rfl, ⟨A, c, rfl, hr⟩, hb2⟩
  ·cases ho
   obtain ⟨A, c, e48, hr⟩ := ev 48 (by simp [Op.operands]) 18 _ rfl rfl
   refine step_val (v := .tuple #[.slice A 2 c, .bool true]) (w' := w') ?_ ⟨A, c, rfl, hr⟩ (Below.refl _ _)
   unfold execOp
   simp only [e48, Sem.run_pure]
   first | done | rfl
  ·cases ho
   obtain ⟨A, c, e29, hr⟩ := ev 29 (by simp [Op.operands]) 19 _ rfl rfl
   refine step_val (v := .slice A 2 c) (w' := w') ?_ ⟨A, c, rfl, hr⟩ (Below.refl _ _)
   unfold execOp
   simp only [e29]
   first | done | rfl
  ·cases ho
   obtain ⟨A, c, e29, hr⟩ := ev 29 (by simp [Op.operands]) 19 _ rfl rfl
   refine step_val (v := .bool true) (w' := w') ?_ rfl (Below.refl _ _)
   unfold execOp
   simp only [e29]
   first | done | rfl
  ·cases ho
   obtain ⟨A, c, e49, hr⟩ := ev 49 (by simp [Op.operands]) 20 _ rfl rfl
   refine step_val (v := .slice A 2 c) (w' := w') ?_ ⟨A, c, rfl, hr⟩ (Below.refl _ _)
   unfold execOp
   simp only [e49, Sem.run_pure]
   first | done | rfl
  ·cases ho
   have e50 : a'.eval (.tmp 50) = .bool true := ev 50 (by simp [Op.operands]) 21 _ rfl rfl
   refine step_val (v := .bool true) (w' := w') ?_ rfl (Below.refl _ _)
   unfold execOp
   simp only [e50]
   first | done | kernel_rfl
 ·intro a' w4 hb4 hdf hsz hsp hrest
  have hf := frame_of [30, 31, 32, 33, 34, 35, 36, 37, 38, 39, 40, 41, 42, 43, 44, 45, 46, 47, 48, 29, 49, 50, 7, 8] hdf hsz (fun t ht => hrest t (notDst_of rfl ht))
  have v30 : a'.tmps.getD 30 undef = .string zeroP := hsp 0 _ 30 (by decide) rfl rfl
  have v31 : a'.tmps.getD 31 undef = .string zeroP := hsp 1 _ 31 (by decide) rfl rfl
  obtain ⟨g32, v32, hg32⟩ := hsp 2 _ 32 (by decide) rfl rfl
  have v33 : a'.tmps.getD 33 undef = .agg #[.bool true, .bool true, .int .i64 1] := hsp 3 _ 33 (by decide) rfl rfl
  have v34 : a'.tmps.getD 34 undef = .agg (pteL layPages).toArray := hsp 4 _ 34 (by decide) rfl rfl
  have v35 : a'.tmps.getD 35 undef = .int .u32 71876608 := hsp 5 _ 35 (by decide) rfl rfl
  have v36 : a'.tmps.getD 36 undef = .int .u8 0 := hsp 6 _ 36 (by decide) rfl rfl
  have v37 : a'.tmps.getD 37 undef = .int .u32 71876608 := hsp 7 _ 37 (by decide) rfl rfl
  have v38 : a'.tmps.getD 38 undef = .int .u32 280768 := hsp 8 _ 38 (by decide) rfl rfl
  have v39 : a'.tmps.getD 39 undef = .int .u8 192 := hsp 9 _ 39 (by decide) rfl rfl
  have v40 : a'.tmps.getD 40 undef = .int .u32 71876608 := hsp 10 _ 40 (by decide) rfl rfl
  have v41 : a'.tmps.getD 41 undef = .int .u32 1096 := hsp 11 _ 41 (by decide) rfl rfl
  have v42 : a'.tmps.getD 42 undef = .int .u8 72 := hsp 12 _ 42 (by decide) rfl rfl
  have v43 : a'.tmps.getD 43 undef = .int .u32 71876608 := hsp 13 _ 43 (by decide) rfl rfl
  have v44 : a'.tmps.getD 44 undef = .int .u32 4 := hsp 14 _ 44 (by decide) rfl rfl
  have v45 : a'.tmps.getD 45 undef = .int .u8 4 := hsp 15 _ 45 (by decide) rfl rfl
  obtain ⟨g46, v46, hg46⟩ := hsp 16 _ 46 (by decide) rfl rfl
  have v47 : a'.tmps.getD 47 undef = .string wordB := hsp 17 _ 47 (by decide) rfl rfl
  obtain ⟨A48, c48, v48, hr48⟩ := hsp 18 _ 48 (by decide) rfl rfl
  obtain ⟨A29, c29, v29, hr29⟩ := hsp 19 _ 29 (by decide) rfl rfl
  obtain ⟨A49, c49, v49, hr49⟩ := hsp 20 _ 49 (by decide) rfl rfl
  have v50 : a'.tmps.getD 50 undef = .bool true := hsp 21 _ 50 (by decide) rfl rfl
  obtain ⟨A7, c7, v7, hr7⟩ := hsp 22 _ 7 (by decide) rfl rfl
  have v8 : a'.tmps.getD 8 undef = .bool true := hsp 23 _ 8 (by decide) rfl rfl
  simp only [List.map_cons, List.map_nil, putsD] at hf
  rw [v30, v31, v32, v33, v34, v35, v36, v37, v38, v39, v40, v41, v42, v43, v44, v45, v46, v47, v48, v29, v49, v50, v7, v8] at hf
  rw [← HA.out] at hf
  subst hf
  simp only [List.drop_succ_cons, List.drop_zero]
  clear hsp hrest hdf hsz ha3 hasz HA
  clear v30 v31 v32 v33 v34 v35 v36 v37 v38 v39 v40 v41 v42 v43 v44 v45 v46 v47 v48 v29 v49 v50 v7 v8
  have B6 := Lib.hid (B5.out.trans (hb4.mono B5.out.size))
  have Y5 := Lib.hid (X5.out.below hb4 X5.out.lt)
  have Y6 := Lib.hid (X6.out.below hb4 X6.out.lt)
  have R4 := Lib.hid hr7
  clear hb4 B5 X5 X6 hr48 hr29 hr49 hg32 hg46
  go_frame
  go_wp2_with (first
   | (refine load_blk 79 (.tmp 6) gc 79 (cpuC regs0 0) _ rfl rfl rfl Y6.out Tryz.underlying79 rfl (cpu_size rfl) ?_; go_frame)
   | (refine load_blk 76 (.tmp 5) gs 76 (pteL codePages).toArray _ rfl rfl rfl Y5.out Tryz.underlying76 rfl (space_size rfl) ?_; go_frame))
  refine (step_spk A7 c7 _ R4.out).mono ?_
  rintro e w7 ⟨⟨v, rfl⟩, hb7⟩
  have B7 := Lib.hid (B6.out.trans (hb7.mono B6.out.size))
  clear hb7 B6 R4 Y5 Y6
  go_wp2_with (first
   | (refine store_blk 79 (.tmp 9) (.tmp 56) w7.heap.size 79 zC (cpuC regs1 4) rfl rfl rfl rfl ((Blk.new w7 _ _).alloc _) rfl (cpu_size rfl) (cpuC_one _ _) ?_; intro w8 hr8 hg8; go_frame)
   | (refine store_blk 84 (.tmp 11) (.tmp 58) (w7.heap.size + 1) 84 zE (evC 0 0) rfl rfl rfl rfl (ev_new hg8) rfl ev_info (evC_one _ _) ?_; intro w9 hr9 hg9; have k0 : w9.cell? ⟨w7.heap.size + 1, 0, none⟩ = some (.int .i64 0) := hr9.cell 0 rfl; have k1 : w9.cell? ⟨w7.heap.size, 1, none⟩ = some (.int .u32 5) := (hr8.grown hg9 (ne_blk (by omega))).cell 1 rfl; have k2 : w9.cell? ⟨w7.heap.size, 16, none⟩ = some (.int .u32 4) := (hr8.grown hg9 (ne_blk (by omega))).cell 16 rfl; have BF := Lib.hid (two_below hg8 hg9 B7.out); clear hr8 hg8 hr9 hg9 B7; go_frame))
  go_ret
  exact ⟨rfl, BF.out⟩
inductive ReachT (V : List ByteArray) (m : Nat) : Nat → Prop
 | top : ReachT V m 1
 | step {d k : Nat} {x : EntV} (h : ReachT V m d) (hd : LiveT V m d) (hk : kindR V d = 2) (hx : x ∈ entD V d) (he : x.ino = (k : Int)) : ReachT V m k
inductive SubT (V : List ByteArray) (m n : Nat) : Nat → Prop
 | top : SubT V m n n
 | step {d k : Nat} {x : EntV} (h : SubT V m n d) (hd : LiveT V m d) (hk : kindR V d = 2) (hx : x ∈ entD V d) (he : x.ino = (k : Int)) : SubT V m n k
section
variable {V W X ys : List ByteArray} {m n k c d b : Nat} {nm : ByteArray} {x : EntV} {E E' : List EntV} {δ ε : Nat → Int}
def AllR (V : List ByteArray) (m : Nat) : Prop := ∀ n, LiveT V m n → ReachT V m n
structure RootT (V : List ByteArray) (m : Nat) : Prop where
 tree : FsT V m
 reach : AllR V m
theorem RootT.vol (h : RootT V m) : IsVol V m := h.tree.vol
theorem ReachT.mono (he : ∀ d, LiveT V m d → kindR V d = 2 → ∀ x ∈ entD V d, LiveT W m d ∧ kindR W d = 2 ∧ x ∈ entD W d) (h : ReachT V m k) : ReachT W m k := by
 induction h with
 | top => exact .top
 | step _ hd hk hx e ih => exact .step ih (he _ hd hk _ hx).1 (he _ hd hk _ hx).2.1 (he _ hd hk _ hx).2.2 e
theorem sum_two {a b : Nat} (f : Nat → Nat) : ∀ L : List Nat, L.Nodup → a ∈ L → b ∈ L → a ≠ b → f a + f b ≤ (L.map f).sum
 | [], _, h, _, _ => by cases h
 | c :: L, hn, ha, hb, hne => by
  rw [List.map_cons, List.sum_cons]
  have hn2 := List.nodup_cons.1 hn
  have one : ∀ (L : List Nat) (z : Nat), z ∈ L → f z ≤ (L.map f).sum := fun L => by
   induction L with
   | nil => intro z hz; cases hz
   | cons y L ih =>
    intro z hz
    rw [List.map_cons, List.sum_cons]
    rcases List.mem_cons.1 hz with rfl | hz
    ·omega
    ·have := ih z hz; omega
  rcases List.mem_cons.1 ha with rfl | ha'
  ·rcases List.mem_cons.1 hb with rfl | hb
   ·exact absurd rfl hne
   ·have := one L b hb; omega
  ·rcases List.mem_cons.1 hb with rfl | hb'
   ·have := one L a ha'; omega
   ·have := sum_two f L hn2.2 ha' hb' hne; omega
theorem count_two (hv : ValidE E) {x y : EntV} (hx : x ∈ E) (hy : y ∈ E) (hne : x.name ≠ y.name) (p : EntV → Bool) (px : p x = true) (py : p y = true) : 2 ≤ E.countP p := by
 rw [cnt_out p hv (mem_has hx), get_mem hv hx]
 have h1 : y ∈ outE E x.name := mem_outE.2 ⟨hy, fun e => hne e.symm⟩
 have h2 : 0 < (outE E x.name).countP p := List.countP_pos_iff.2 ⟨y, h1, py⟩
 have h3 : p ⟨x.name, x.ino⟩ = true := px
 rw [if_pos h3]
 omega
theorem TreeX.named_once (h : FsT V m) (hk : LiveT V m k) (h2 : kindR V k = 2) (n1 : k ≠ 1) {d e : Nat} {x y : EntV} (hd : LiveT V m d) (hdk : kindR V d = 2) (hx : x ∈ entD V d) (ex : x.ino = (k : Int)) (he : LiveT V m e) (hek : kindR V e = 2) (hy : y ∈ entD V e) (ey : y.ino = (k : Int)) :
  d = e ∧ x.name = y.name := by
 have hl := h.links k hk
 rw [h.dlink k hk h2, if_neg n1] at hl
 have hc : cntE V m k = 1 := by omega
 have pd : ∀ {d : Nat} {x : EntV}, LiveT V m d → kindR V d = 2 → x ∈ entD V d → x.ino = (k : Int) → 1 ≤ cntD V d k := fun {d x} _ h2 h3 h4 => by
  unfold cntD
  rw [if_pos h2]
  exact List.countP_pos_iff.2 ⟨x, h3, by rw [h4]; simp⟩
 by_cases hde : d = e
 ·subst hde
  refine ⟨rfl, Classical.not_not.1 fun hne => ?_⟩
  have h3 := count_two (h.dir.dir d hd hdk).valid hx hy hne (fun x => decide (x.ino = (k : Int))) (by rw [ex]; simp) (by rw [ey]; simp)
  have h4 := cntE_le (V := V) (n := k) hd.1 hd.2.1
  unfold cntD at h4
  rw [if_pos hdk] at h4
  omega
 ·have h3 := pd hd hdk hx ex
  have h4 := pd he hek hy ey
  have h5 : cntD V d k + cntD V e k ≤ cntE V m k := sum_two (fun d => cntD V d k) (List.range' 1 m) (List.nodup_range' (step := 1)) (List.mem_range'.2 ⟨d - 1, by have := hd.1; have := hd.2.1; omega, by have := hd.1; omega⟩) (List.mem_range'.2 ⟨e - 1, by have := he.1; have := he.2.1; omega, by have := he.1; omega⟩) hde
  omega
theorem TreeX.last_step (h : FsT V m) {p : List (List UInt8)} {x : List UInt8} (he : goO V 1 (p ++ [x]) = ((k : Int), 0)) :
  ∃ d : Nat, goO V 1 p = ((d : Int), 0) ∧ LiveT V m d ∧ kindR V d = 2 ∧ LiveT V m k ∧ k ≠ 1 ∧ (⟨⟨x.toArray⟩, (k : Int)⟩ : EntV) ∈ entD V d := by
 have h0 : (goO V 1 p).2 = 0 := by
  refine Classical.not_not.1 fun hh => ?_
  rw [goO_stop V 1 p [x] hh] at he
  exact hh (congrArg Prod.snd he)
 rw [goO_snoc V 1 p x h0] at he
 by_cases hf : (findO V (goO V 1 p).1 ⟨x.toArray⟩).2 ≠ 0
 ·rw [if_pos hf] at he; exact absurd (congrArg Prod.snd he) hf
 ·rw [if_neg hf] at he
  have he := congrArg Prod.fst he
  obtain ⟨d, k2, e1, hd, hk, e2, hl, n1, hm⟩ := h.find (Classical.not_not.1 hf)
  obtain rfl : k2 = k := by
   have : (findO V (goO V 1 p).1 ⟨x.toArray⟩).1 = (k : Int) := he
   omega
  exact ⟨d, Prod.ext e1 h0, hd, hk, hl, n1, hm⟩
theorem list_snoc {α : Type} (l : List α) : l = [] ∨ ∃ p x, l = p ++ [x] := by
 rcases List.eq_nil_or_concat l with h | ⟨p, x, h⟩
 ·exact .inl h
 ·exact .inr ⟨p, x, by simpa using h⟩
theorem TreeX.path_once (h : FsT V m) : ∀ (j : Nat) (p q : List (List UInt8)) (k : Nat), p.length = j → goO V 1 p = ((k : Int), 0) → goO V 1 q = ((k : Int), 0) → kindR V k = 2 → p = q
 | j, p, q, k, hj, hp, hq, h2 => by
  have top : ∀ {p : List (List UInt8)}, goO V 1 p = (((1 : Nat) : Int), 0) → p = [] := fun {p} hp => by
   rcases list_snoc p with e | ⟨p', x, e⟩
   ·exact e
   ·rw [e] at hp
    obtain ⟨_, _, _, _, _, n1, _⟩ := h.last_step hp
    exact absurd rfl n1
  rcases list_snoc p with e | ⟨p', x, e⟩
  ·rw [e] at hp
   have : ((1 : Int), (0 : Int)) = ((k : Int), 0) := hp
   have : k = 1 := by have := congrArg Prod.fst this; dsimp only at this; omega
   subst this
   rw [e, top hq]
  ·rcases list_snoc q with e2 | ⟨q', y, e2⟩
   ·rw [e2] at hq
    have : ((1 : Int), (0 : Int)) = ((k : Int), 0) := hq
    have : k = 1 := by have := congrArg Prod.fst this; dsimp only at this; omega
    subst this
    rw [e2, top hp]
   ·rw [e] at hp hj
    rw [e2] at hq
    obtain ⟨d1, a1, a2, a3, a4, a5, a6⟩ := h.last_step hp
    obtain ⟨d2, b1, b2, b3, b4, b5, b6⟩ := h.last_step hq
    obtain ⟨rfl, hn⟩ := h.named_once a4 h2 a5 a2 a3 a6 rfl b2 b3 b6 rfl
    rw [List.length_append] at hj
    have hpq := TreeX.path_once h (j - 1) p' q' d1 (by simp at hj; omega) a1 b1 a3
    have hn : (⟨x.toArray⟩ : ByteArray) = ⟨y.toArray⟩ := hn
    have hxy : x = y := by
     have := congrArg (fun b : ByteArray => b.data.toList) hn
     simpa using this
    rw [e, e2, hpq, hxy]
 termination_by j => j
 decreasing_by
  rw [e] at hj
  simp at hj
  omega
theorem SubT.walk (h : FsT V m) (hs : SubT V m n k) (hn : LiveT V m n) : ∃ q : List (List UInt8), goO V (n : Int) q = ((k : Int), 0) ∧ LiveT V m k := by
 induction hs with
 | top => exact ⟨[], rfl, hn⟩
 | @step d k x _ hd hk hx he ih =>
  obtain ⟨q, hq, _⟩ := ih
  have hD := h.dir.dir d hd hk
  have hok := hD.valid.ok x hx
  unfold okE at hok
  rw [Bool.and_eq_true] at hok
  obtain ⟨k2, e2, hl, _⟩ := h.name d hd hk x hx
  obtain rfl : k2 = k := by omega
  refine ⟨q ++ [x.name.data.toList], ?_, hl⟩
  rw [goO_snoc V _ q _ (by rw [hq])]
  have hxn : (⟨(x.name.data.toList).toArray⟩ : ByteArray) = x.name := by simp
  rw [hxn, hq]
  dsimp only
  rw [find_dir hD hok.1, if_pos (mem_has hx), get_mem hD.valid hx, if_neg (by simp), he]
theorem ReachT.drop (e : EntT V W m d (outE (entD V d) nm)) (hv : IsVol V m) (hmem : (⟨nm, (n : Int)⟩ : EntV) ∈ entD V d) (hval : ValidE (entD V d)) (h : ReachT V m k) : ReachT W m k ∨ SubT V m n k := by
 induction h with
 | top => exact .inl .top
 | @step d' k x _ hd hk hx he ih =>
  rcases ih with ih | ih
  ·by_cases hx2 : d' = d ∧ x.name = nm
   ·obtain ⟨rfl, rfl⟩ := hx2
    have h1 := get_mem hval hx
    have h2 := get_mem hval hmem
    have : x.ino = (n : Int) := by rw [← h1]; exact h2
    have : k = n := by omega
    subst this
    exact .inr .top
   ·left
    refine .step ih ((e.liveA hv).2 hd) (by rw [e.kindA hv hd.1 hd.2.1]; exact hk) (x := x) ?_ he
    by_cases hdd : d' = d
    ·subst hdd
     rw [e.ent]
     exact mem_outE.2 ⟨hx, fun e2 => hx2 ⟨rfl, e2⟩⟩
    ·rw [e.rest d' hd hk hdd]; exact hx
  ·exact .inr (.step ih hd hk hx he)
theorem SubT.reach (hn : ReachT W m n) (he : ∀ d, LiveT V m d → kindR V d = 2 → ∀ x ∈ entD V d, x.ino = (n : Int) ∨ (LiveT W m d ∧ kindR W d = 2 ∧ x ∈ entD W d)) (h : SubT V m n k) : ReachT W m k := by
 induction h with
 | top => exact hn
 | @step d' k x _ hd hk hx e ih =>
  rcases he d' hd hk x hx with a | ⟨a, b, c⟩
  ·have : k = n := by omega
   subst this
   exact hn
  ·exact .step ih a b c e
theorem SubT.leaf (h : FsT V m) (hl : kindR V n = 2 → entD V n = []) (hs : SubT V m n k) : k = n := by
 induction hs with
 | top => rfl
 | step _ hd hk hx _ ih =>
  subst ih
  rw [hl hk] at hx
  cases hx
theorem named_reach (h : FsT V m) (hn : LiveT V m n) (n1 : n ≠ 1) (hp : 1 ≤ linkN V n) (hr : ∀ d, LiveT V m d → kindR V d = 2 → d ≠ n → ReachT V m d) (hk : kindR V n = 1) : ReachT V m n := by
 have hl := h.links n hn
 rw [if_neg n1] at hl
 have hc : cntE V m n ≠ 0 := by omega
 have : ∃ d, 1 ≤ d ∧ d ≤ m ∧ cntD V d n ≠ 0 := Classical.not_not.1 fun hh => hc (cntE_zero fun d h1 h2 => Classical.not_not.1 fun h3 => hh ⟨d, h1, h2, h3⟩)
 obtain ⟨d, d1, d2, d3⟩ := this
 unfold cntD at d3
 by_cases h2 : kindR V d = 2
 ·rw [if_pos h2] at d3
  obtain ⟨x, hx, he⟩ := List.countP_pos_iff.1 (Nat.pos_of_ne_zero d3)
  have hl : LiveT V m d := ⟨d1, d2, by omega⟩
  exact .step (hr d hl h2 (fun e => by subst e; omega)) hl h2 hx (of_decide_eq_true he)
 ·rw [if_neg h2] at d3; exact absurd rfl d3
theorem EntT.more (e : EntT V W m d (insE (entD V d) x)) (hv : IsVol V m) {k : Nat} (h : ReachT V m k) : ReachT W m k :=
 h.mono (fun d' h1 h2 y hy => ⟨(e.liveA hv).2 h1, by rw [e.kindA hv h1.1 h1.2.1]; exact h2, by
  by_cases hd : d' = d
  ·subst hd; rw [e.ent]; exact mem_insE.2 (.inr hy)
  ·rw [e.rest d' h1 h2 hd]; exact hy⟩)
end
section
variable {V W X ys : List ByteArray} {m n k c d b : Nat} {E E' : List EntV}
theorem RootT.still (h : RootT V m) (hW : FsT W m) (hl : ∀ k, LiveT W m k ↔ LiveT V m k) (hk : ∀ k, LiveT V m k → kindR W k = kindR V k) (he : ∀ d, LiveT V m d → kindR V d = 2 → entD W d = entD V d) : RootT W m :=
 ⟨hW, fun n hn => (h.reach n ((hl n).1 hn)).mono (fun d h1 h2 x hx => ⟨(hl d).2 h1, by rw [hk d h1]; exact h2, by rw [he d h1 h2]; exact hx⟩)⟩
theorem RootT.made (h : RootT V m) {p : ByteArray} {kind owner : Int} (he : (madeO V p kind owner).2.2 = 0) : RootT (madeO V p kind owner).1 m := by
 have t := (TreeX.made h.tree he).1
 obtain ⟨hv, hn, ha, e, _⟩ := made_ok he
 rw [e] at t ⊢
 obtain ⟨_, _, hp0, _, hvq⟩ := vac_ok hv
 obtain ⟨k0, hk0, hl0, _⟩ := h.tree.path hp0
 obtain ⟨n, n0, n1, n2, n3, n4, nf, ne, nr, hT⟩ := TreeX.new h.tree hn
 rw [n0] at ha t ⊢
 obtain ⟨a, d, hz, _, eT⟩ := hT.add n2 n3 ha
 refine ⟨t, fun k hk => ?_⟩
 rw [hvq] at hz
 have hz : (pathO V (aboveB p).data.toList).1 = (d : Int) := hz
 obtain rfl : d = k0 := by omega
 have toW : ∀ k, LiveT V m k → ReachT (addO (newO V kind owner).1 (vacO V p).1 (vacO V p).2.1 (n : Int)).1 m k := fun k hk =>
  eT.more hT.vol ((h.reach k hk).mono (fun d h1 h2 x hx => by
   have hdn : d ≠ n := fun e => n1 (e ▸ h1)
   exact ⟨(nf.live d hdn).2 h1, by rw [nf.kind h.vol h1.1 h1.2.1 hdn]; exact h2, by rw [nr d h1 h2]; exact hx⟩))
 by_cases hkn : k = n
 ·subst hkn
  have hkd : kindR (addO (newO V kind owner).1 (vacO V p).1 (vacO V p).2.1 (k : Int)).1 d = 2 := by rw [eT.kindA hT.vol eT.live.1 eT.live.2.1]; exact eT.kind
  exact .step (x := ⟨(vacO V p).2.1, (k : Int)⟩) (toW d hl0) eT.here hkd (by rw [eT.ent]; exact mem_insE.2 (.inl rfl)) rfl
 ·exact toW k ((nf.live k hkn).1 ((eT.liveA hT.vol).1 hk))
theorem RootT.link (h : RootT V m) {p q : ByteArray} (he : (linkO V p q).2 = 0) : RootT (linkO V p q).1 m := by
 have t := (TreeX.link h.tree he).1
 obtain ⟨n, _, _, hn, hk, n1, _, hl, ha, e, _⟩ := link_ok h.tree he
 obtain ⟨a, d, _, _, eT⟩ := TreeX.add h.tree hn n1 ha
 have hnd : n ≠ d := fun e => by
  subst e
  have := eT.kind
  omega
 have hg := eT.far.rest n hn.1 hn.2.1 hnd
 rw [← hg] at e
 obtain ⟨p1, _, _, la, ka, _, _, en⟩ := a.dir.links ((eT.liveA h.vol).2 hn) (v := linkN V n + 1) (by omega)
 rw [e, p1] at t ⊢
 refine ⟨t, fun k hk2 => ?_⟩
 have h1 := (la k).1 hk2
 have h2 := eT.more h.vol (h.reach k ((eT.liveA h.vol).1 h1))
 exact h2.mono (fun d h1 h2 x hx => ⟨(la d).2 h1, by rw [ka d h1.1 h1.2.1]; exact h2, by rw [en d h1 h2]; exact hx⟩)
theorem RootT.remove (h : RootT V m) {p : ByteArray} (he : (removeO V p).2 = 0) : RootT (removeO V p).1 m := by
 have t := (TreeX.remove h.tree he).1
 obtain ⟨n, _, _, hn, n1, _, hem, hd, hf, _, hcase⟩ := remove_ok h.tree he
 obtain ⟨d, j, _, jl, j1, jf, jm, hT, eT⟩ := TreeX.drop h.tree hd
 obtain rfl : j = n := by rw [hf] at jf; omega
 have hnd : j ≠ d := fun e => by
  subst e
  rw [hem eT.kind] at jm
  cases jm
 have hval := (h.tree.dir.dir d eT.live eT.kind).valid
 have hlw := (eT.liveA h.vol (k := j)).2 hn
 have hkw := eT.kindA h.vol hn.1 hn.2.1
 have reach1 : ∀ k, LiveT V m k → k ≠ j → ReachT (dropO V (pathO V (aboveB p).data.toList).1 (lastB p)).1 m k := fun k hk hne => by
  rcases ReachT.drop eT h.vol jm hval (h.reach k hk) with a | a
  ·exact a
  ·exact absurd (SubT.leaf h.tree hem a) hne
 rcases hcase with ⟨_, hz, e⟩ | ⟨hc, e⟩
 ·rw [e] at t ⊢
  obtain ⟨f, _, hk0, en⟩ := hT.dir.gone hlw hz
  refine ⟨t, fun k hk => ?_⟩
  have hne : k ≠ j := fun e => by subst e; exact hk.2.2 hk0
  have hk1 := (f.live k hne).1 hk
  refine (reach1 k ((eT.liveA h.vol).1 hk1) hne).mono (fun d' h1 h2 x hx => ?_)
  have hdj : d' ≠ j := fun e => by
   subst e
   rw [hkw] at h2
   rw [eT.rest d' hn h2 hnd, hem h2] at hx
   cases hx
  exact ⟨(f.live d' hdj).2 h1, by rw [f.kind hT.vol h1.1 h1.2.1 hdj]; exact h2, by rw [en d' h1 h2 hdj]; exact hx⟩
 ·have hg := eT.far.rest j hn.1 hn.2.1 hnd
  have hli : linkN (dropO V (pathO V (aboveB p).data.toList).1 (lastB p)).1 j = linkN V j := by unfold linkN; rw [hg]
  rw [← hg] at e
  have hv : linkN V j < 65536 := (h.tree.dir.inv.good j hn).ok.fit.2 2
  have hc1 : ¬ linkN V j ≤ 1 := fun h => hc (.inl h)
  have hk1 : kindR V j = 1 := by
   rcases h.tree.dir.kind j hn with a | a
   ·exact a
   ·exact absurd (.inr a) hc
  obtain ⟨p1, _, _, la, ka, li, _, en⟩ := hT.dir.links hlw (v := linkN V j - 1) (by omega)
  rw [e, p1] at t ⊢
  have reach2 : ∀ k, LiveT V m k → k ≠ j → ReachT (putV (dropO V (pathO V (aboveB p).data.toList).1 (lastB p)).1 j ((getR (dropO V (pathO V (aboveB p).data.toList).1 (lastB p)).1 (j : Int)).set 1 (linkN V j - 1))) m k := fun k hk hne =>
   (reach1 k hk hne).mono (fun d h1 h2 x hx => ⟨(la d).2 h1, by rw [ka d h1.1 h1.2.1]; exact h2, by rw [en d h1 h2]; exact hx⟩)
  refine ⟨t, fun k hk => ?_⟩
  have hkV := (eT.liveA h.vol).1 ((la k).1 hk)
  by_cases hne : k = j
  ·subst hne
   refine named_reach t hk n1 (by rw [li]; omega) (fun d' h1 h2 hne => reach2 d' ((eT.liveA h.vol).1 ((la d').1 h1)) hne) ?_
   rw [ka k hn.1 hn.2.1, hkw]; exact hk1
  ·exact reach2 k hkV hne
theorem RootT.rename (h : RootT V m) {p q : ByteArray} (he : (renameO V p q).2 = 0) : RootT (renameO V p q).1 m := by
 have t := (TreeX.rename h.tree he).1
 obtain ⟨n, hp, hpn, hn, n1, hpt, hvq, hpre, hd, ha, e, hf, _⟩ := rename_ok h.tree he
 obtain ⟨d, j, _, jl, j1, jf, jm, hT, eT⟩ := TreeX.drop h.tree hd
 obtain rfl : j = n := by rw [hf] at jf; omega
 have hlw := (eT.liveA h.vol (k := j)).2 hn
 obtain ⟨a, d2, hz2, _, eT2⟩ := hT.add hlw n1 ha
 rw [e] at t ⊢
 have hval := (h.tree.dir.dir d eT.live eT.kind).valid
 have hl2 : LiveT V m d2 := (eT.liveA h.vol).1 eT2.live
 have hk2 : kindR V d2 = 2 := by rw [← eT.kindA h.vol hl2.1 hl2.2.1]; exact eT2.kind
 have hreach : ReachT (dropO V (pathO V (aboveB p).data.toList).1 (lastB p)).1 m d2 := by
  rcases ReachT.drop eT h.vol jm hval (h.reach d2 hl2) with a | a
  ·exact a
  ·exfalso
   obtain ⟨qn, hqn, _⟩ := a.walk h.tree hn
   obtain ⟨hmq, hqt, hpa, _, hvv⟩ := vac_ok hvq
   rw [hvv] at hz2
   have hz2 : (pathO V (aboveB q).data.toList).1 = (d2 : Int) := hz2
   have hmp := path_may hp
   have hma := path_may hpa
   have e1 : goO V 1 (namesP p.data.toList) = ((j : Int), 0) := by
    unfold pathO at hp hpn
    rw [hmp, if_neg (by simp)] at hp hpn
    exact Prod.ext hpn hp
   have e2 : goO V 1 (namesP (aboveB q).data.toList) = ((d2 : Int), 0) := by
    unfold pathO at hpa hz2
    rw [hma, if_neg (by simp)] at hpa hz2
    exact Prod.ext hz2 hpa
   have e3 : goO V 1 (namesP p.data.toList ++ qn) = ((d2 : Int), 0) := by
    rw [goO_append, e1, if_neg (by simp)]
    exact hqn
   have e4 := h.tree.path_once _ _ _ d2 rfl e3 e2 hk2
   obtain ⟨xs, x, _, hq, _, _, hnx, _⟩ := path_parts hmq hqt
   obtain ⟨ys, y, hpy, hpj, _⟩ := path_split hmp hpt
   have e5 : p.data.toList = joinP (namesP p.data.toList) := by rw [hpy, joinP_snoc]; exact hpj
   rw [hnx] at e4
   have e6 : q.data.toList = p.data.toList ++ (joinP qn ++ 47 :: x) := by
    rw [hq, ← e4, joinP_app, ← e5, List.append_assoc]
   have e7 : ∃ t, joinP qn ++ 47 :: x = 47 :: t := by
    rcases joinP_head qn with ⟨z, _⟩ | ⟨u, hu⟩
    ·exact ⟨x, by rw [z]; rfl⟩
    ·exact ⟨u ++ 47 :: x, by rw [hu]; rfl⟩
   obtain ⟨u, hu⟩ := e7
   have : Lib.hasPrefix q.data.toList (p.data.toList ++ [47]) = true := by
    unfold Lib.hasPrefix
    rw [e6, hu, List.isPrefixOf_iff_prefix]
    exact ⟨u, by simp⟩
   rw [hpre] at this
   cases this
 refine ⟨t, fun k hk => ?_⟩
 have hkV := (eT.liveA h.vol).1 ((eT2.liveA hT.vol).1 hk)
 have hn2 : ReachT (addO (dropO V (pathO V (aboveB p).data.toList).1 (lastB p)).1 (vacO V q).1 (vacO V q).2.1 (j : Int)).1 m j :=
  .step (x := ⟨(vacO V q).2.1, (j : Int)⟩) (eT2.more hT.vol hreach) eT2.here (by rw [eT2.kindA hT.vol eT2.live.1 eT2.live.2.1]; exact eT2.kind) (by rw [eT2.ent]; exact mem_insE.2 (.inl rfl)) rfl
 rcases ReachT.drop eT h.vol jm hval (h.reach k hkV) with a | a
 ·exact eT2.more hT.vol a
 ·refine a.reach hn2 (fun d' h1 h2 x hx => ?_)
  by_cases hx2 : d' = d ∧ x.name = lastB p
  ·obtain ⟨rfl, hxn⟩ := hx2
   have g1 := get_mem hval hx
   have g2 := get_mem hval jm
   left
   rw [← g1, hxn]; exact g2
  ·right
   have hx1 : x ∈ entD (dropO V (pathO V (aboveB p).data.toList).1 (lastB p)).1 d' := by
    by_cases hdd : d' = d
    ·subst hdd
     rw [eT.ent]
     exact mem_outE.2 ⟨hx, fun e2 => hx2 ⟨rfl, e2⟩⟩
    ·rw [eT.rest d' h1 h2 hdd]; exact hx
   have l1 := (eT.liveA h.vol).2 h1
   have k1 : kindR (dropO V (pathO V (aboveB p).data.toList).1 (lastB p)).1 d' = 2 := by rw [eT.kindA h.vol h1.1 h1.2.1]; exact h2
   refine ⟨(eT2.liveA hT.vol).2 l1, by rw [eT2.kindA hT.vol l1.1 l1.2.1]; exact k1, ?_⟩
   by_cases hdd : d' = d2
   ·subst hdd; rw [eT2.ent]; exact mem_insE.2 (.inr hx1)
   ·rw [eT2.rest d' l1 k1 hdd]; exact hx1
theorem RootT.filed (h : RootT V m) (t : FsT W m) (f : FarT V W m n) (hn : LiveT V m n) (hk : kindR V n = 1) (hkW : kindR W n = 1) (hs : SaysV W n) : RootT W m := by
 have b := (h.tree.dir.far f (fun _ => ⟨.inl hkW, hs⟩)).2
 have hl : ∀ k, LiveT W m k ↔ LiveT V m k := fun k => by
  by_cases e : k = n
  ·subst e
   exact ⟨fun _ => hn, fun _ => ⟨hn.1, hn.2.1, by omega⟩⟩
  ·exact f.live k e
 refine h.still t hl (fun k hk2 => ?_) (fun d h1 h2 => b d h1 h2 (fun e => by subst e; omega))
 by_cases e : k = n
 ·subst e; rw [hkW, hk]
 ·exact f.kind h.vol hk2.1 hk2.2.1 e
theorem RootT.write (h : RootT V m) {z off : Int} {b : List UInt8} (he : (writeF V z off b).2 = 0) : RootT (writeF V z off b).1 m := by
 have t := (TreeX.write h.tree he).1
 unfold writeF at he t ⊢
 by_cases h0 : fileO V z = 0
 ·rw [if_neg (by rw [h0]; simp)] at he t ⊢
  obtain ⟨n, rfl, hn, hk⟩ := file_ok h.vol h0
  obtain ⟨hw, hW, _⟩ := weigh_ok he
  rw [hW] at t ⊢
  obtain ⟨f, _, kp, kb⟩ := h.tree.dir.inv.write_one hn hw
  refine h.filed t f hn hk ?_ ((h.tree.dir.att n hn).move (kp 11 (.inr rfl)) kb)
  rw [← kind_getT f.inv.vol hn.1 hn.2.1, kp 0 (by omega), kind_getT h.vol hn.1 hn.2.1]; exact hk
 ·rw [if_pos h0] at he; exact absurd he h0
theorem RootT.cut (h : RootT V m) {z size : Int} (he : (cutF V z size).2 = 0) : RootT (cutF V z size).1 m := by
 have t := (TreeX.cut h.tree he).1
 unfold cutF at he t ⊢
 by_cases h0 : fileO V z = 0
 ·rw [if_neg (by rw [h0]; simp)] at he t ⊢
  obtain ⟨n, rfl, hn, hk⟩ := file_ok h.vol h0
  obtain ⟨hw, hW, _⟩ := weigh_ok he
  rw [hW] at t ⊢
  obtain ⟨f, _, kp, kb⟩ := h.tree.dir.inv.cut_one hn hw
  refine h.filed t f hn hk ?_ ((h.tree.dir.att n hn).move (kp 11 (.inr rfl)) kb)
  rw [← kind_getT f.inv.vol hn.1 hn.2.1, kp 0 (by omega), kind_getT h.vol hn.1 hn.2.1]; exact hk
 ·rw [if_pos h0] at he; exact absurd he h0
theorem RootT.setattr (h : RootT V m) {z : Int} {nm v : ByteArray} (he : (setF V z (attL V z) nm v).2 = 0) : RootT (setF V z (attL V z) nm v).1 m := by
 obtain ⟨t, _, hI, e⟩ := TreeX.setattr h.tree he
 rw [e] at t ⊢
 obtain ⟨n, rfl, hn, _, a⟩ := h.tree.dir.attr hI
 have hkn : kindR (setA V (n : Int) (attL V (n : Int)) nm v).1 n = kindR V n := by
  rw [← kind_getT a.dir.inv.vol hn.1 hn.2.1, ← kind_getT h.vol hn.1 hn.2.1]; exact a.keep 0 (by omega)
 refine h.still t (fun k => ?_) (fun k hk => ?_) a.ent
 ·by_cases e : k = n
  ·subst e; exact ⟨fun _ => hn, fun _ => a.here⟩
  ·exact a.far.live k e
 ·by_cases e : k = n
  ·subst e; exact hkn
  ·exact a.far.kind h.vol hk.1 hk.2.1 e
theorem RootT.limit (h : RootT V m) {o q : Int} (he : (setO V o q).2 = 0) : RootT (setO V o q).1 m := by
 obtain ⟨t, s⟩ := TreeX.limit h.tree he
 have hb : ∀ k, LiveT V m k → extL (getR V (k : Int)) ≠ 0 → blkL (setO V o q).1 (extL (getR V (k : Int))) = blkL V (extL (getR V (k : Int))) := fun k hk h0 => by
  have hd := (datB_iff.1 (h.tree.dir.inv.ext k hk h0).1).1
  unfold dataN at hd
  unfold setO at he ⊢
  by_cases h0 : quoE V o = 0
  ·rw [if_neg (by rw [h0]; simp)] at he ⊢
   by_cases h1 : q < 0 ∨ 65535 < q
   ·rw [if_pos h1] at he; exact absurd he (by decide)
   ·rw [if_neg h1] at he ⊢
    by_cases h2 : overB V o q = true
    ·rw [if_pos h2] at he; exact absurd he (by decide)
    ·rw [if_neg h2]
     exact one_blkT h.vol (by omega)
  ·rw [if_pos h0] at he; exact absurd he h0
 refine h.still t s.live (fun k hk => ?_) (h.tree.dir.same s hb).2
 rw [← kind_getT s.inv.vol hk.1 hk.2.1, ← kind_getT h.vol hk.1 hk.2.1, s.rest k hk.1 hk.2.1]
theorem act_root (h : RootT V m) (a : DeedV) : RootT (actO V a).1 m := by
 unfold actO
 by_cases he : (actI V a).2 = 0
 ·rw [if_pos he]
  show RootT (actI V a).1 m
  unfold actI at he ⊢
  by_cases h0 : a.kind = 0
  ·rw [if_pos h0] at he ⊢
   exact h.made he
  rw [if_neg h0] at he ⊢
  by_cases h1 : a.kind = 1
  ·rw [if_pos h1] at he ⊢
   exact h.made he
  rw [if_neg h1] at he ⊢
  by_cases h2 : a.kind = 2
  ·rw [if_pos h2] at he ⊢
   exact h.link he
  rw [if_neg h2] at he ⊢
  by_cases h3 : a.kind = 3
  ·rw [if_pos h3] at he ⊢
   exact h.remove he
  rw [if_neg h3] at he ⊢
  by_cases h4 : a.kind = 4
  ·rw [if_pos h4] at he ⊢
   exact h.rename he
  rw [if_neg h4] at he ⊢
  by_cases h5 : a.kind = 5
  ·rw [if_pos h5] at he ⊢
   exact h.write he
  rw [if_neg h5] at he ⊢
  by_cases h6 : a.kind = 6
  ·rw [if_pos h6] at he ⊢
   exact h.cut he
  rw [if_neg h6] at he ⊢
  by_cases h7 : a.kind = 7
  ·rw [if_pos h7] at he ⊢
   exact h.setattr he
  rw [if_neg h7] at he ⊢
  by_cases h8 : a.kind = 8
  ·rw [if_pos h8] at he ⊢
   exact h.limit he
  rw [if_neg h8] at he
  exact absurd he (by decide)
 ·rw [if_neg he]
  exact h
theorem top_root {b m : Nat} (hp : planE (b : Int) (m : Int) = 0) : RootT (topV b m) m := by
 obtain ⟨t, _, _, _, _, _, hk⟩ := top_tree hp
 refine ⟨t, fun n hn => ?_⟩
 by_cases e : n = 1
 ·subst e; exact .top
 ·exact absurd (hk n hn.1 hn.2.1 e) hn.2.2
theorem start_root {b m : Nat} (hp : planE (b : Int) (m : Int) = 0) (hr : 9 ≤ b - dataN m) : RootT (startV b m) m := by
 obtain ⟨e1, _⟩ := file_made hp hr
 obtain ⟨e2, _⟩ := start_ok hp hr
 have h1 := (top_root hp).made (p := initP) (kind := 1) (owner := 0) (by rw [e1])
 rw [e1] at h1
 have h2 := RootT.write h1 (z := 2) (off := 0) (b := fileB.data.toList) (by rw [e2])
 rw [e2] at h2
 exact h2
end
end Go.Proofs.YtdldlendppkknaaGreatDoor
