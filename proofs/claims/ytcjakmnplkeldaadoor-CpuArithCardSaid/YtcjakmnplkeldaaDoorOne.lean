/-
  What hibernaclelaw14.one computes.
-/
import Derived.Test.YtcjakmnplkeldaaDoorLaw14
import Derived.Test.YtcjakmnplkeldaaDoorInvR
import Derived.Test.YtcjakmnplkeldaaDoorBlkOps
import Derived.Test.YtcjakmnplkeldaaDoorREnc
import Derived.Test.YtcjakmnplkeldaaDoorInsEq
import Derived.Test.YtcjakmnplkeldaaDoorIsaPlain
namespace Go.Proofs.YtcjakmnplkeldaaDoor
open Go.RowKit
set_option linter.unusedVariables false
set_option linter.unusedSimpArgs false
set_option maxRecDepth 100000
section
variable {P : Program} {Q : Exit → Act → World → Prop}
theorem results_tc {P : Program} {f : Func} {ts : Array Value} {s k g : Nat} {ty t : TypeId} {cs : Array Value} {d : TypeDesc} {w : World} {v : Value} (hf : f.results = #[.tmp k, .cell s ty]) (hs : ts.getD s undef = .pointer (some ⟨g, 0, none⟩)) (hk : ts.getD k undef = v) (hg : Blk w g t cs)
    (hu : P.underlying ty = some d) (hd : (match d with | .struct _ | .array _ _ => true | _ => false) = true) (hi : (P.info? ty).map (·.size) = some cs.size) :
    (results f ts).run P w = .ok (.tuple #[v, .agg cs]) w := by
  have hr := run_loadVar_row (P := P) w g t ty cs (0, 0) d hg hu hd hi
  simp only [Array.getD_eq_getD_getElem?] at hs hk
  unfold results
  rw [hf]
  simp [hs, hk, asAddr, hr, Sem.run_bind, Sem.run_pure, Result.andThen_ok]
end
/-- the pages of one -/
def onePages : List Pte := ⟨true, false, 0⟩ :: ⟨true, true, 1⟩ :: List.replicate 14 ⟨false, false, 0⟩
def zeros (n : Nat) : ByteArray := ⟨(List.replicate n 0).toArray⟩
/-- what each operation of the region yields -/
def oneS (B wd : Nat) (i : Nat) (v : Value) (w : World) : Prop :=
  match i with
  | 0 => v = .int .u32 (wd : Nat)
  | 1 => ∃ g, v = .slice (some ⟨g, 0, none⟩) 1 1 ∧ Blk w g 22 #[.int .u32 (wd : Nat)]
  | 2 => v = .string (pgB [wd])
  | 3 => ∃ g, v = .slice (some ⟨g, 0, none⟩) 128 128 ∧ Blk w g 5 (Array.replicate 128 (.int .u8 0))
  | 4 => v = .string (zeros 128)
  | 5 => ∃ g, (v = .slice (some ⟨g, 0, none⟩) 2 2 ∧ B ≤ g) ∧ Blk w g 9 #[.string (pgB [wd]), .string (zeros 128)]
  | 6 => v = .agg #[.bool true, .bool false, .int .i64 0]
  | 7 => v = .agg #[.bool true, .bool true, .int .i64 1]
  | 8 => v = .agg (pteL onePages).toArray
  | 9 => ∃ g, (v = .slice (some ⟨g, 0, none⟩) 2 2 ∧ B ≤ g) ∧ Blk w g 9 #[.string (pgB [wd]), .string (zeros 128)]
  | _ => True
theorem oneS_mono (B wd i : Nat) (v : Value) (w w' : World) (h : oneS B wd i v w) (hb : Below w.heap.size w w') : oneS B wd i v w' := by
  unfold oneS at h ⊢
  split at h <;> first
    | exact h
    | (obtain ⟨g, hv, hg⟩ := h; exact ⟨g, hv, hg.below hb hg.lt⟩)
    | trivial
theorem encR_lt (x : Ins) : (encR x).1 < 4294967296 := by
  by_cases h : (encR x).2 = 0
  · have h2 := (enc_ok h).2.2.2.2.2.2
    rw [h2]; exact enc_lt h
  · have : (encR x).1 = 0 := by
      unfold encR at h ⊢
      split
      · rfl
      · split
        · rfl
        · split
          · rfl
          · split
            · rfl
            · rename_i a b c d; simp only [a, b, c, d] at h; simp at h
    rw [this]; decide
theorem u8_info : (Tryd.prog.info? 5).map (fun i => (i.zero, i.size, i.bytes)) = some (some (.int .u8 0), 1, 1) := by kernel_rfl
theorem wp_of_list {P : Program} {ops : Array Oper} {Q : Exit → Act → World → Prop} {o : Oper} {a : Act} {w : World} {K : Act → World → Prop} (hg : o.guard = none) (h : wpList P ops (Exit.then K noX) [o] a w) : o.wp P a w K Q := by
  simp only [wpList] at h
  rw [show Region.wanted o (yielded ops a.tmps) = true by unfold Region.wanted; rw [hg]] at h
  simp only [if_true] at h
  rcases h with h | ⟨_, _, _, hF⟩
  · unfold Oper.wp at *
    generalize (execOp a.eval o).run P w = r at *
    cases r with
    | ok n w' =>
      cases n <;> simp only [Oper.upon] at h ⊢
      case enter f args =>
        exact Calls.mono h (fun e w'' he => by
          cases e with
          | returned u => exact he
          | panicked c => exact he.elim
          | outgrown => obtain ⟨_, _, hF⟩ := he; exact hF.elim)
      all_goals exact h
    | halt x w' => cases x <;> simp only [Oper.upon] at h <;> exact h.elim
  · exact hF.elim
theorem notDstN {l : List Oper} {n t : Nat} (h : (l.take n).all (fun o => o.dst != some t) = true) : ∀ (j : Nat) (oj : Oper), j < n → l[j]? = some oj → oj.dst ≠ some t := fun j oj hjn hj => by
  have := List.all_eq_true.1 h oj (List.mem_of_getElem? (show (l.take n)[j]? = some oj by rw [List.getElem?_take, if_pos hjn]; exact hj))
  simpa using this
theorem notDst {l : List Oper} {t : Nat} (h : l.all (fun o => o.dst != some t) = true) : ∀ (j : Nat) (oj : Oper), l.toArray[j]? = some oj → oj.dst ≠ some t := fun j oj hj => by
  have := List.all_eq_true.1 h oj (List.mem_of_getElem? (by simpa using hj))
  simpa using this
set_option maxHeartbeats 4000000 in
theorem one_any (x : Ins) (w : World) (ho : x.op < 256) (hi1 : -2147483648 ≤ x.imm) (hi2 : x.imm < 2147483648) :
    Calls Tryd.prog 17 #[insE x] w fun e w' => (∃ g, e = .returned (.tuple #[.slice (some ⟨g, 0, none⟩) 2 2, .agg (pteL onePages).toArray]) ∧ Blk w' g 9 #[.string (pgB [(encR x).1]), .string (zeros 128)] ∧ w.heap.size ≤ g) ∧ Below w.heap.size w w' := by
  obtain ⟨op, a, b, c, imm⟩ := x
  have CE := Lib.hid (fun w => renc_any ⟨op, a, b, c, imm⟩ w ho hi1 hi2)
  unfold insE
  dsimp only
  clear ho hi1 hi2
  obtain ⟨wd, code, hwd⟩ : ∃ wd code, encR ⟨op, a, b, c, imm⟩ = (wd, code) := ⟨_, _, rfl⟩
  have hwl : wd < 4294967296 := by have := encR_lt ⟨op, a, b, c, imm⟩; rw [hwd] at this; exact this
  go_enter Tryd.func17, Tryd.ntmps17
  go_wp2_with fail
  refine (CE.out _).mono ?_
  rintro e w1 ⟨rfl, hb1⟩
  have B1 : Hid (Below w.heap.size w w1) := (((Below.refl _ _).alloc (Nat.le_refl _) _).alloc (by simp) _).trans (hb1.mono (by simp; omega))
  have S1 : Hid (∃ cs, Blk w1 (w.heap.size + 1) 29 cs ∧ cs.size = 48) := by
    refine ⟨(pteL (List.replicate 16 ⟨false, false, 0⟩)).toArray, ?_, rfl⟩
    · have := Blk.new (w.alloc (.cells #[.int .u8 op, .int .u8 a, .int .u8 b, .int .u8 c, .int .i32 imm] 41)) 29 (pteL (List.replicate 16 ⟨false, false, 0⟩)).toArray
      rw [show (w.alloc (.cells #[.int .u8 op, .int .u8 a, .int .u8 b, .int .u8 c, .int .i32 imm] 41)).heap.size = w.heap.size + 1 by simp] at this
      exact this.below hb1 (by simp)
  clear hb1
  rw [hwd]
  unfold encE
  dsimp only
  go_wp2
  refine wp_region_inv 10 (oneS w.heap.size wd) (by kernel_rfl) (by kernel_rfl) (oneS_mono w.heap.size wd) ?_ ?_
  · intro i o a' w' hi ho hb hag
    have ev : ∀ t, Operand.tmp t ∈ o.op.operands → ∀ (j : Nat) (oj : Oper), _ → oj.dst = some t → oneS w.heap.size wd j (a'.eval (.tmp t)) w' := fun t ht j oj hj hd => (hag t ht).1 j oj hj hd
    have eb : ∀ t, Operand.tmp t ∈ o.op.operands → _ → a'.eval (.tmp t) = _ := fun t ht h => (hag t ht).2 h
    obtain rfl | rfl | rfl | rfl | rfl | rfl | rfl | rfl | rfl | rfl : i = 0 ∨ i = 1 ∨ i = 2 ∨ i = 3 ∨ i = 4 ∨ i = 5 ∨ i = 6 ∨ i = 7 ∨ i = 8 ∨ i = 9 := by omega
    · cases ho
      have e4 := eb 4 (by simp [Op.operands]) (notDst rfl)
      refine step_val (v := .int .u32 (wd : Nat)) (w' := w') ?_ rfl (Below.refl _ _)
      unfold execOp
      simp only [e4, Sem.run_pure]
      rfl
    · cases ho
      have e11 : a'.eval (.tmp 11) = .int .u32 (wd : Nat) := ev 11 (by simp [Op.operands]) 0 _ rfl rfl
      refine step_val (v := .slice (some ⟨w'.heap.size, 0, none⟩) 1 1) (w' := w'.alloc (.cells #[.int .u32 (wd : Nat)] 22)) ?_ ⟨_, rfl, Blk.new w' _ _⟩ ((Below.refl _ _).alloc (Nat.le_refl _) _)
      unfold execOp
      simp only [List.map_toArray, List.map_cons, List.map_nil, e11]
      simp [go_sem]
    · cases ho
      obtain ⟨g, e12, hg⟩ := ev 12 (by simp [Op.operands, Call.operands]) 1 _ rfl rfl
      refine step_call (f := 19) (args := #[.slice (some ⟨g, 0, none⟩) 1 1]) ?_ ?_
      · unfold execOp
        have e12' : a'.tmps[12]?.getD undef = .slice (some ⟨g, 0, none⟩) 1 1 := by rw [← Array.getD_eq_getD_getElem?]; exact e12
        simp [go_sem, e12']
      · refine (page_any (some ⟨g, 0, none⟩) 1 [wd] w' (by unfold maxLen; simp) (by simpa using hwl) (.inr ⟨g, 0, rfl, hg.lt, fun j u hu => ?_⟩)).mono fun e w2 ⟨he, hb2⟩ => ⟨_, he, rfl, hb2⟩
        cases j with
        | zero => cases hu; exact hg.cell 0 rfl
        | succ j => simp at hu
    · cases ho
      obtain ⟨i0, q1, q2, q3, q4⟩ := info_parts u8_info
      refine wp_of_list (ops := #[]) rfl (make_blk 74 _ _ 5 i0 (.int .u8 0) 128 128 128 rfl rfl Tryd.underlying74 q1 q2 q3 rfl rfl rfl rfl rfl (by rw [q4]; decide) (by decide) ?_)
      intro w2 hg2 hgr2
      exact ⟨_, rfl, ⟨_, rfl, hg2⟩, (Below.refl _ _).grown hgr2 (Nat.le_refl _) (fun k hk => by cases hk)⟩
    · cases ho
      obtain ⟨g, e14, hg⟩ := ev 14 (by simp [Op.operands]) 3 _ rfl rfl
      refine step_val (v := .string (zeros 128)) (w' := w') ?_ rfl (Below.refl _ _)
      have := run_convert_bytes_arg (P := Tryd.prog) w' 74 5 Tryd.underlying74 Tryd.underlying5 g 0 128 128 (List.replicate 128 0) (by simp) (fun i hi => by
        rw [Nat.zero_add]
        refine hg.cell i ?_
        rw [Array.getElem?_replicate, if_pos hi, List.getD_eq_getElem?_getD, List.getElem?_replicate, if_pos hi]; rfl) 9 Tryd.underlying9
      unfold execOp
      simp only [e14]
      rw [Sem.run_bind, this]
      rw [show strOfNums (List.replicate 128 0) = zeros 128 by decide]
      rfl
    · cases ho
      have e13 : a'.eval (.tmp 13) = .string (pgB [wd]) := ev 13 (by simp [Op.operands]) 2 _ rfl rfl
      have e15 : a'.eval (.tmp 15) = .string (zeros 128) := ev 15 (by simp [Op.operands]) 4 _ rfl rfl
      refine step_val (v := .slice (some ⟨w'.heap.size, 0, none⟩) 2 2) (w' := w'.alloc (.cells #[.string (pgB [wd]), .string (zeros 128)] 9)) ?_ ⟨_, ⟨rfl, Nat.le_trans B1.out.size hb.size⟩, Blk.new w' _ _⟩ ((Below.refl _ _).alloc (Nat.le_refl _) _)
      unfold execOp
      simp only [List.map_toArray, List.map_cons, List.map_nil, e13, e15]
      simp [go_sem]
    · cases ho
      refine step_val (v := .agg #[.bool true, .bool false, .int .i64 0]) (w' := w') ?_ rfl (Below.refl _ _)
      unfold execOp
      simp [go_sem]
    · cases ho
      refine step_val (v := .agg #[.bool true, .bool true, .int .i64 1]) (w' := w') ?_ rfl (Below.refl _ _)
      unfold execOp
      simp [go_sem]
    · cases ho
      have e17 : a'.eval (.tmp 17) = .agg #[.bool true, .bool false, .int .i64 0] := ev 17 (by simp [Op.operands]) 6 _ rfl rfl
      have e18 : a'.eval (.tmp 18) = .agg #[.bool true, .bool true, .int .i64 1] := ev 18 (by simp [Op.operands]) 7 _ rfl rfl
      refine step_val (v := .agg (pteL onePages).toArray) (w' := w') ?_ rfl (Below.refl _ _)
      unfold execOp
      simp only [List.map_toArray, List.map_cons, List.map_nil, e17, e18]
      kernel_rfl
    · cases ho
      obtain ⟨g, ⟨e16, hgb⟩, hg⟩ := ev 16 (by simp [Op.operands]) 5 _ rfl rfl
      refine step_val (v := .slice (some ⟨g, 0, none⟩) 2 2) (w' := w') ?_ ⟨g, ⟨rfl, hgb⟩, hg⟩ (Below.refl _ _)
      unfold execOp
      simp only [e16, Sem.run_pure]
  · intro a' w' hb hdf hsz hsp hrest
    have e3 : a'.eval (.tmp 3) = .pointer (some ⟨w.heap.size + 1, 0, none⟩) := getD_of_get (hrest 3 (notDstN rfl))
    have e19 : a'.eval (.tmp 19) = .agg (pteL onePages).toArray := hsp 8 _ 19 (by decide) rfl rfl
    obtain ⟨g, ⟨e2, hgw⟩, hg⟩ := hsp 9 _ 2 (by decide) rfl rfl
    obtain ⟨cs, hS0, hcs⟩ := S1.out
    have hS := Lib.hid (hS0.below hb hS0.lt)
    have hB := Lib.hid (B1.out.trans (hb.mono B1.out.size))
    have hG := Lib.hid hg
    have hW := Lib.hid hwd
    simp only [List.drop_succ_cons, List.drop_zero]
    refine store_blk 29 (.tmp 3) (.tmp 19) (w.heap.size + 1) 29 cs (pteL onePages).toArray rfl rfl e3 e19 hS.out (by rw [hcs]; rfl) (space_size rfl) (by decide) ?_
    intro w2 hr2 hg2
    have hB2 := Lib.hid (hB.out.grown hg2 hB.out.size (fun k hk => by cases hk; omega))
    have hG2 := Lib.hid (hG.out.grown hg2 (fun e => by
      have : g = w.heap.size + 1 := Option.some.inj e
      subst this
      have h1 := hG.out
      have h2 := hS.out
      unfold Blk at h1 h2
      rw [h1] at h2
      injection h2 with h2
      injection h2 with _ h3
      exact absurd h3 (by decide)))
    have hr3 := Lib.hid hr2
    clear hr2 hg2 hS hG hB hg hS0 hb hsp hrest hsz
    go_wp2
    refine bodyPost_ret (results_tc rfl e3 e2 hr3.out Tryd.underlying29 rfl (space_size rfl)) (by exact hdf) ?_
    exact ⟨⟨g, rfl, hG2.out, hgw⟩, hB2.out⟩
end Go.Proofs.YtcjakmnplkeldaaDoor
