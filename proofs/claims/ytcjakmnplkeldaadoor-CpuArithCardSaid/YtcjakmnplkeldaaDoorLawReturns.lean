/-
  CpuReturns: the walk.
-/
import Derived.Test.YtcjakmnplkeldaaDoorAlive14
import Derived.Test.YtcjakmnplkeldaaDoorCpuPlain
import Derived.Test.YtcjakmnplkeldaaDoorEnc
import Derived.Outline
import Derived.ChangeKeysEq
import Derived.Deep.MidRow
namespace Go.Proofs.YtcjakmnplkeldaaDoor
open Go.RowKit
set_option linter.unusedVariables false
set_option linter.unusedSimpArgs false
set_option maxRecDepth 100000
theorem retW_cells (i k c b : Nat) : ((Array.replicate 32 (Value.int .u32 0)).setIfInBounds i (.int .u32 (c : Nat))).setIfInBounds k (.int .u32 (b : Nat)) = ((retW i k c b).map fun x : Nat => Value.int .u32 (x : Int)).toArray := by
  unfold retW
  rw [← List.toArray_replicate, List.setIfInBounds_toArray, List.setIfInBounds_toArray, List.map_set, List.map_set, List.map_replicate]
  rfl
theorem u32_info : (Tryd.prog.info? 22).map (fun i => (i.zero, i.size, i.bytes)) = some (some (.int .u32 0), 1, 4) := by kernel_rfl
theorem two_row {w w4 w5 : World} {o1 o2 : Obj} (hg4 : ((w.alloc o1).alloc o2).grownBy w4 (some w.heap.size)) (hg5 : w4.grownBy w5 (some (w.heap.size + 1))) {A : Option Addr} {xs : List Value} (h : RowAt w w.heap.size A xs) : RowAt w5 w5.heap.size A xs := by
  have z1 := hg4.size
  have z2 := hg5.size
  simp only [World.size_alloc] at z1
  refine (h.keep fun b o hlt => ?_).mono (by omega)
  have e5 := hg5.block b (by omega) (ne_blk (by omega))
  have e4 := hg4.block b (by simp only [World.size_alloc]; omega) (ne_blk (by omega))
  have e3 : ((w.alloc o1).alloc o2).heap[b]? = w.heap[b]? := (Below.heap_alloc (w.alloc o1) o2 b (by rw [World.size_alloc]; omega)).trans (Below.heap_alloc w o1 b hlt)
  exact World.cell?_of_block (a := ⟨b, o, none⟩) (e5.trans (e4.trans e3))
theorem u32_one : ∃ i, Tryd.prog.info? 22 = some i ∧ i.size = 1 := by
  have h : (Tryd.prog.info? 22).map (·.size) = some 1 := by kernel_rfl
  cases hi : Tryd.prog.info? 22 with
  | none => rw [hi] at h; cases h
  | some i => rw [hi] at h; exact ⟨i, rfl, by simpa using h⟩
theorem regs_equal (d : Nat) (a0 a1 a2 a3 a4 a5 a6 a7 a8 a9 a10 a11 a12 a13 a14 a15 : Int) (w : World) : (Op.equalIn (d + 1 + 1) 23 (.agg #[.int .u32 a0, .int .u32 a1, .int .u32 a2, .int .u32 a3, .int .u32 a4, .int .u32 a5, .int .u32 a6, .int .u32 a7, .int .u32 a8, .int .u32 a9, .int .u32 a10, .int .u32 a11, .int .u32 a12, .int .u32 a13, .int .u32 a14, .int .u32 a15]) (.agg #[.int .u32 a0, .int .u32 a1, .int .u32 a2, .int .u32 a3, .int .u32 a4, .int .u32 a5, .int .u32 a6, .int .u32 a7, .int .u32 a8, .int .u32 a9, .int .u32 a10, .int .u32 a11, .int .u32 a12, .int .u32 a13, .int .u32 a14, .int .u32 a15])).run Tryd.prog w = .ok true w := by
  obtain ⟨i, hi, hs⟩ := u32_one
  rw [run_equalIn_array w (d + 1) _ _ Tryd.underlying23 hi, show Tryd.prog.cellsOf 22 = 1 by kernel_rfl, show List.range 16 = [0, 1, 2, 3, 4, 5, 6, 7, 8, 9, 10, 11, 12, 13, 14, 15] from rfl]
  simp [go_sem, Op.eqItems]
theorem regs_eql (a0 a1 a2 a3 a4 a5 a6 a7 a8 a9 a10 a11 a12 a13 a14 a15 : Int) (w : World) : (binOp .eql 23 (.agg #[.int .u32 a0, .int .u32 a1, .int .u32 a2, .int .u32 a3, .int .u32 a4, .int .u32 a5, .int .u32 a6, .int .u32 a7, .int .u32 a8, .int .u32 a9, .int .u32 a10, .int .u32 a11, .int .u32 a12, .int .u32 a13, .int .u32 a14, .int .u32 a15]) (.agg #[.int .u32 a0, .int .u32 a1, .int .u32 a2, .int .u32 a3, .int .u32 a4, .int .u32 a5, .int .u32 a6, .int .u32 a7, .int .u32 a8, .int .u32 a9, .int .u32 a10, .int .u32 a11, .int .u32 a12, .int .u32 a13, .int .u32 a14, .int .u32 a15])).run Tryd.prog w = .ok (.bool true) w := by
  rw [run_eql_struct]
  have := regs_equal 9998 a0 a1 a2 a3 a4 a5 a6 a7 a8 a9 a10 a11 a12 a13 a14 a15 w
  rw [this]; rfl
/-- the registers' cells -/
def regC (R : List Nat) : Array Value := (R.map (fun r : Nat => Value.int .u32 (r : Int))).toArray
theorem len16 {R : List Nat} (h : R.length = 16) : ∃ a0 a1 a2 a3 a4 a5 a6 a7 a8 a9 a10 a11 a12 a13 a14 a15, R = [a0, a1, a2, a3, a4, a5, a6, a7, a8, a9, a10, a11, a12, a13, a14, a15] := by
  match R, h with
  | [a0, a1, a2, a3, a4, a5, a6, a7, a8, a9, a10, a11, a12, a13, a14, a15], _ => exact ⟨a0, a1, a2, a3, a4, a5, a6, a7, a8, a9, a10, a11, a12, a13, a14, a15, rfl⟩
theorem regC_eql {R : List Nat} (h : R.length = 16) (w : World) : (binOp .eql 23 (.agg (regC R)) (.agg (regC R))).run Tryd.prog w = .ok (.bool true) w := by
  obtain ⟨a0, a1, a2, a3, a4, a5, a6, a7, a8, a9, a10, a11, a12, a13, a14, a15, rfl⟩ := len16 h
  exact regs_eql _ _ _ _ _ _ _ _ _ _ _ _ _ _ _ _ w
theorem load_regs {ops : Array Oper} {rest : List Oper} {o : Oper} {a : Act} {w : World} {Q : Exit → Act → World → Prop} (x : Operand) (g : Nat) (R : List Nat) (pc : Nat) (hw : Region.wanted o (yielded ops a.tmps) = true) (ho : o.op = .load 23 x) (hx : a.eval x = .pointer (some ⟨g, 0, none⟩))
    (hg : Blk w g 25 (cpuC R pc)) (hR : R.length = 16) (h : wpList Tryd.prog ops Q rest (a.put o.dst (.agg (regC R))) w) : wpList Tryd.prog ops Q (o :: rest) a w := by
  refine BigFrame.wpList_want hw fun K hK => ?_
  refine wp_load_mid 23 x ho g 0 hx (R.map (fun r : Nat => Value.int .u32 (r : Int))) _ (fun j v hv => ?_) Tryd.underlying23 rfl (by rw [List.length_map, hR]; kernel_rfl) (hK _ _ h)
  rw [Nat.zero_add]
  refine hg.cell j ?_
  have hj : j < R.length := by have := (List.getElem?_eq_some_iff.1 hv).1; simpa using this
  rw [cpuC_reg hj]
  rw [List.getElem?_map, List.getElem?_eq_getElem hj] at hv
  rw [← hv]
  simp [hj]
theorem retW_lt {i k c b : Nat} (hc : c < 4294967296) (hb : b < 4294967296) : ∀ x ∈ retW i k c b, x < 4294967296 := by
  intro x hx
  unfold retW at hx
  rcases List.mem_or_eq_of_mem_set hx with hx | rfl
  · rcases List.mem_or_eq_of_mem_set hx with hx | rfl
    · rw [List.eq_of_mem_replicate hx]; decide
    · exact hc
  · exact hb
theorem retR_regs {i r : Nat} (hi : i < 32) : Regs (retR i r) := (zregs.set_ r (by omega)).set_ 0 (by decide)
set_option maxHeartbeats 4000000 in
theorem law_returns (a b d : Nat) (w : World) (ht : Tab5 w) (ha : a < 256) (hb : b < 256) (hd : d < 256) : Calls Tryd.prog 10 #[.int .u8 a, .int .u8 b, .int .u8 d] w fun e w' => e = .returned (.bool true) ∧ Below w.heap.size w w' := by
  have HT := Lib.hid ht
  obtain ⟨i, hi⟩ : ∃ i, a % 32 = i := ⟨_, rfl⟩
  obtain ⟨k, hk⟩ : ∃ k, b % 32 = k := ⟨_, rfl⟩
  obtain ⟨q, hq⟩ : ∃ q, d % 14 = q := ⟨_, rfl⟩
  obtain ⟨r, hr⟩ : ∃ r, 1 + q = r := ⟨_, rfl⟩
  have s0 : IntKind.i64.wrap (a : Int) = (a : Int) := IntWalk.i64_in _ (by omega)
  have s1 : IntKind.i64.wrap (b : Int) = (b : Int) := IntWalk.i64_in _ (by omega)
  have e1 : (a : Int).tmod 32 = (i : Nat) := by rw [Int.tmod_eq_emod_of_nonneg (by omega)]; omega
  have e2 : (b : Int).tmod 32 = (k : Nat) := by rw [Int.tmod_eq_emod_of_nonneg (by omega)]; omega
  have e3 : (d : Int).tmod 14 = (q : Nat) := by rw [Int.tmod_eq_emod_of_nonneg (by omega)]; omega
  have e4 : (1 : Int) + (q : Nat) = (r : Nat) := by omega
  have i32 : i < 32 := by omega
  have k32 : k < 32 := by omega
  have r1 : 1 ≤ r := by omega
  have r14 : r ≤ 14 := by omega
  clear ht hi hk hq hr
  go_enter Tryd.func10, Tryd.ntmps10
  go_wp2_with fail
  refine (alive14_any _ HT.out).mono ?_
  rintro e w0 ⟨rfl, hb0⟩
  have B := Lib.hid hb0
  clear hb0
  by_cases hik : i = k
  · have t1 : ((i : Int) == (k : Int)) = true := by simp; omega
    subst hik
    go_wp2
    go_ret
    exact ⟨rfl, B.out⟩
  have t1 : ((i : Int) == (k : Int)) = false := by simp; omega
  obtain ⟨c, hc⟩ : ∃ c, (encR ⟨29, r, 0, 0, (k : Int) - i - 1⟩).1 = c := ⟨_, rfl⟩
  obtain ⟨bk, hbk⟩ : ∃ bk, (encR ⟨30, 0, r, 0, 0⟩).1 = bk := ⟨_, rfl⟩
  have HE1 : Hid (encR ⟨29, r, 0, 0, (k : Int) - i - 1⟩ = (c, 0)) := Prod.ext hc (enc_jal (by omega) (by omega) (by omega))
  have HE2 : Hid (encR ⟨30, 0, r, 0, 0⟩ = (bk, 0)) := Prod.ext hbk (enc_jalr (by omega))
  have hcl : c < 4294967296 := by rw [← hc]; exact encR_lt _
  have hbl : bk < 4294967296 := by rw [← hbk]; exact encR_lt _
  have HC := Lib.hid hc
  have HBK := Lib.hid hbk
  have w32 : wrap32 ((k : Int) - i - 1) = (k : Int) - i - 1 := by unfold wrap32; omega
  clear hc hbk
  have CA := Lib.hid (fun w => enc_any ⟨29, r, 0, 0, (k : Int) - i - 1⟩ w (by show 29 < 256; decide))
  have CB := Lib.hid (fun w => enc_any ⟨30, 0, r, 0, 0⟩ w (by show 30 < 256; decide))
  unfold EncPost at CA CB
  rw [HE1.out] at CA
  rw [HE2.out] at CB
  unfold encE at CA CB
  have CO := Lib.hid (fun w => one_any ⟨1, 0, 0, 0, 0⟩ w (by decide) (by decide) (by decide))
  generalize pgB [(encR ⟨1, 0, 0, 0, 0⟩).1] = p0 at *
  generalize zeros 128 = z at *
  go_wp2_with fail
  refine (CA.out _).mono ?_
  rintro e w1 ⟨rfl, hb1⟩
  replace B := Lib.hid (B.out.trans (hb1.mono B.out.size))
  clear hb1
  go_wp2_with fail
  refine (CB.out _).mono ?_
  rintro e w2 ⟨rfl, hb2⟩
  replace B := Lib.hid (B.out.trans (hb2.mono B.out.size))
  clear hb2
  obtain ⟨i0, q1, q2, q3, q4⟩ := info_parts u32_info
  have I0 := Lib.hid (And.intro q1 (And.intro q2 (And.intro q3 q4)))
  clear q1 q2 q3 q4
  have ii : (i : Int) < 32 := by omega
  have kk : (k : Int) < 32 := by omega
  go_wp2_with (first
    | (refine make_blk 51 _ _ 22 i0 (.int .u32 0) 32 32 32 rfl rfl Tryd.underlying51 I0.out.1 I0.out.2.1 I0.out.2.2.1 rfl rfl rfl rfl rfl (by rw [I0.out.2.2.2]; decide) (by decide) ?_; intro w3 hg3 hgr3; have W3 := Lib.hid hg3; have B3 := Lib.hid (B.out.grown hgr3 B.out.size (fun k hk => by cases hk)); clear hg3 hgr3; go_frame)
    | (refine store_cell 22 (.tmp 61) (.tmp 59) w2.heap.size i .u32 (c : Nat) _ rfl rfl rfl rfl (by intro; kernel_rfl) (W3.out.cell i (by rw [Array.getElem?_replicate, if_pos i32])) (W3.out.frozen i) ?_; intro w4 hw4; have W4 : Hid (Blk w4 w2.heap.size 22 ((Array.replicate 32 (.int .u32 0)).setIfInBounds i (.int .u32 (c : Nat)))) := (by rw [← hw4]; exact W3.out.set_ i _); have B4 : Hid (Below w.heap.size w w4) := (by rw [← hw4]; exact B3.out.setCell B.out.size _); clear hw4; go_frame)
    | (refine store_cell 22 (.tmp 62) (.tmp 60) w2.heap.size k .u32 (bk : Nat) (.int .u32 0) rfl rfl rfl rfl (by intro; kernel_rfl) (W4.out.cell k (by rw [Array.getElem?_setIfInBounds_ne hik, Array.getElem?_replicate, if_pos k32])) (W4.out.frozen k) ?_; intro w5 hw5; have W5 : Hid (Blk w5 w2.heap.size 22 ((retW i k c bk).map fun x : Nat => Value.int .u32 (x : Int)).toArray) := (by rw [← hw5, ← retW_cells]; exact W4.out.set_ k _); have B5 : Hid (Below w.heap.size w w5) := (by rw [← hw5]; exact B4.out.setCell B.out.size _); clear hw5; go_frame))
  have B5s := B5.out.size
  replace B := B5
  have W := W5
  clear W3 W4 W5 B3 B4 B5
  refine (CO.out _).mono ?_
  rintro e w6 ⟨⟨gl, rfl, hgl, hgw6⟩, hb6⟩
  have G := Lib.hid hgl
  have hwlt := W.out.lt
  replace W := Lib.hid (W.out.below hb6 W.out.lt)
  replace B := Lib.hid (B.out.trans (hb6.mono B.out.size))
  have hgB : w.heap.size ≤ gl := Nat.le_trans (by have := B.out.size; have := hb6.size; have := B5s; omega) hgw6
  clear hgl hb6
  go_wp2_with (first
    | (refine store_blk 29 (.tmp 16) (.tmp 67) w6.heap.size 29 (pteL (List.replicate 16 ⟨false, false, 0⟩)).toArray (pteL onePages).toArray rfl rfl rfl rfl (Blk.new w6 _ _) rfl (space_size rfl) (by decide) ?_; intro w7 hs7 hg7; go_frame))
  have S := Lib.hid hs7
  replace G := Lib.hid ((G.out.alloc _).grown hg7 (ne_blk (by have := G.out.lt; omega)))
  replace W := Lib.hid ((W.out.alloc _).grown hg7 (ne_blk (by have := W.out.lt; omega)))
  replace B := Lib.hid ((B.out.alloc B.out.size _).grown hg7 (by have := B.out.size; simp; omega) (fun k hk => by cases hk; exact B.out.size))
  clear hs7 hg7
  have hrl : (retW i k c bk).length = 32 := by unfold retW; simp
  have CP := Lib.hid (fun w h => page_any (some ⟨w2.heap.size, 0, none⟩) 32 (retW i k c bk) w (by rw [hrl]; unfold maxLen; decide) (fun x hx => retW_lt hcl hbl x hx) h)
  rw [hrl] at CP
  refine (CP.out _ (Blk.row W.out)).mono ?_
  rintro e w8 ⟨rfl, hb8⟩
  replace S := Lib.hid (S.out.below hb8 S.out.lt)
  replace G := Lib.hid (G.out.below hb8 G.out.lt)
  replace B := Lib.hid (B.out.trans (hb8.mono B.out.size))
  clear hb8 CP hrl W
  have PA := Lib.hid (fun A w => step_out (ret_call (b := bk) z i32 k32 hik r1 r14 HC.out) A 2 w zregs (by omega) pages16 (by show 2 ≤ 1000000; decide))
  have PB := Lib.hid (fun A cz w => step_out (ret_back (c := c) z i32 k32 hik r1 r14 HBK.out) A cz w (retR_regs i32 (r := r)) (by omega) pages16 (by show 2 ≤ 1000000; decide))
  generalize pgB (retW i k c bk) = pg at *
  have x4 : ((4 : Int) * (i : Int)) % 4294967296 = ((4 * i : Nat) : Int) := by omega
  go_wp2_with (first
    | (refine store_str 9 (.tmp 71) (.tmp 70) gl 0 pg _ rfl rfl rfl rfl (by intro; kernel_rfl) (G.out.cell 0 rfl) (G.out.frozen 0) ?_; intro w9 hw9; have G9 : Hid (Blk w9 gl 9 #[.string pg, .string z]) := (by rw [← hw9]; exact G.out.set_ 0 _); have S9 : Hid (Blk w9 w6.heap.size 29 (pteL onePages).toArray) := (by rw [← hw9]; exact S.out.far (by show w6.heap.size ≠ gl; exact (blk_ne S.out G.out (by decide))) _); have B9 : Hid (Below w.heap.size w w9) := (by rw [← hw9]; exact B.out.setCell hgB _); clear hw9; go_frame)
    | (refine load_blk 29 (.tmp 16) w6.heap.size 29 (pteL onePages).toArray _ rfl rfl rfl S9.out Tryd.underlying29 rfl (space_size rfl) ?_; go_frame))
  replace S := S9
  replace G := G9
  replace B := B9
  clear S9 G9 B9
  refine (PA.out _ _ G.out.two (fun e => by cases e) (HT.out.later B.out)).mono ?_
  rintro e wa3 ⟨⟨Aa, ca, rfl, hra, h0a, _⟩, hba⟩
  replace S := Lib.hid (S.out.below hba S.out.lt)
  replace G := Lib.hid (G.out.below hba G.out.lt)
  replace B := Lib.hid (B.out.trans (hba.mono B.out.size))
  clear hba
  go_wp2_with (first
    | (refine store_blk 25 (.tmp 17) (.tmp 80) wa3.heap.size 25 zC (cpuC (retR i r) (4 * k)) rfl rfl rfl rfl ((Blk.new wa3 _ _).alloc _) (by rw [cpuC_size, (retR_regs i32).1]; rfl) (cpu_size (retR_regs i32).1) (cpuC_one _ _) ?_; intro wa4 hra4 hga4; go_frame)
    | (refine store_blk 34 (.tmp 19) (.tmp 82) (wa3.heap.size + 1) 34 zE (evC 0 0) rfl rfl rfl rfl (ev_new hga4) rfl ev_info (evC_one _ _) ?_; intro wa5 hra5 hga5; go_frame)
    | (refine load_blk 25 (.tmp 17) wa3.heap.size 25 (cpuC (retR i r) (4 * k)) _ rfl rfl rfl (hra4.grown hga5 (ne_blk (by omega))) Tryd.underlying25 rfl (cpu_size (retR_regs i32).1) ?_; go_frame)
    | (refine load_blk 29 (.tmp 16) w6.heap.size 29 (pteL onePages).toArray _ rfl rfl rfl (two_keep hga4 hga5 S.out) Tryd.underlying29 rfl (space_size rfl) ?_; go_frame))
  have RA := Lib.hid (two_row hga4 hga5 hra)
  clear hra
  replace S := Lib.hid (two_keep hga4 hga5 S.out)
  replace G := Lib.hid (two_keep hga4 hga5 G.out)
  have Ca := Lib.hid (hra4.grown hga5 (ne_blk (by omega)))
  have Ea := Lib.hid hra5
  replace B := Lib.hid (two_below hga4 hga5 B.out)
  clear hra4 hga4 hra5 hga5
  refine (PB.out _ _ _ RA.out h0a (HT.out.later B.out)).mono ?_
  rintro e wb3 ⟨⟨Ab, cb, rfl, hrb, h0b, _⟩, hbb⟩
  replace S := Lib.hid (S.out.below hbb S.out.lt)
  replace G := Lib.hid (G.out.below hbb G.out.lt)
  replace Ca := Lib.hid (Ca.out.below hbb Ca.out.lt)
  replace Ea := Lib.hid (Ea.out.below hbb Ea.out.lt)
  replace B := Lib.hid (B.out.trans (hbb.mono B.out.size))
  clear hbb
  have hrr : (retR i r).getD r 0 = 4 * i + 4 := by unfold retR; simp [List.getD_eq_getElem?_getD, List.getElem?_set, show ¬ 0 = r by omega, show r < 16 by omega]
  have RL := Lib.hid (retR_regs i32 (r := r)).1
  have heq := fun w => regC_eql RL.out w
  have x4k : ((4 : Int) * (k : Int)) % 4294967296 = 4 * (k : Int) := by omega
  have x4i : ((4 : Int) * (i : Int) + 4) % 4294967296 = 4 * (i : Int) + 4 := by omega
  have rr16 : (r : Int) < 16 := by omega
  have HRR := Lib.hid hrr
  clear hrr
  go_wp2_with (first
    | (refine store_blk 25 (.tmp 20) (.tmp 88) wb3.heap.size 25 zC (cpuC (retR i r) (4 * i + 4)) rfl rfl rfl rfl ((Blk.new wb3 _ _).alloc _) (by rw [cpuC_size, (retR_regs i32).1]; rfl) (cpu_size (retR_regs i32).1) (cpuC_one _ _) ?_; intro wb4 hrb4 hgb4; go_frame)
    | (refine store_blk 34 (.tmp 22) (.tmp 90) (wb3.heap.size + 1) 34 zE (evC 0 0) rfl rfl rfl rfl (ev_new hgb4) rfl ev_info (evC_one _ _) ?_; intro wb5 hrb5 hgb5; have kp : wb5.cell? ⟨wa3.heap.size, 16, none⟩ = some (.int .u32 (4 * (k : Int))) := (by rw [(two_keep hgb4 hgb5 Ca.out).cell 16 (cpuC_pc RL.out)]; rfl); have kq : wb5.cell? ⟨wb3.heap.size, 16, none⟩ = some (.int .u32 (4 * (i : Int) + 4)) := (by rw [(hrb4.grown hgb5 (ne_blk (by omega))).cell 16 (cpuC_pc RL.out)]; rfl); have kr : wb5.cell? ⟨wa3.heap.size, r, none⟩ = some (.int .u32 (4 * (i : Int) + 4)) := (by rw [(two_keep hgb4 hgb5 Ca.out).cell r (cpuC_reg (by rw [RL.out]; omega)), HRR.out]; rfl); have ke0 : wb5.cell? ⟨wa3.heap.size + 1, 0, none⟩ = some (.int .i64 0) := Blk.cell (two_keep hgb4 hgb5 Ea.out) 0 rfl; have ke1 : wb5.cell? ⟨wa3.heap.size + 1, 1, none⟩ = some (.int .u32 0) := Blk.cell (two_keep hgb4 hgb5 Ea.out) 1 rfl; have kf0 : wb5.cell? ⟨wb3.heap.size + 1, 0, none⟩ = some (.int .i64 0) := Blk.cell hrb5 0 rfl; have kf1 : wb5.cell? ⟨wb3.heap.size + 1, 1, none⟩ = some (.int .u32 0) := Blk.cell hrb5 1 rfl; go_frame)
    | (refine load_regs (.tmp 136) wb3.heap.size (retR i r) (4 * i + 4) rfl rfl rfl (hrb4.grown hgb5 (ne_blk (by omega))) RL.out ?_; go_frame)
    | (refine load_regs (.tmp 138) wa3.heap.size (retR i r) (4 * k) rfl rfl rfl (two_keep hgb4 hgb5 Ca.out) RL.out ?_; go_frame))
  have RB := Lib.hid (two_row hgb4 hgb5 hrb)
  have RG := Lib.hid (two_row hgb4 hgb5 G.out.two)
  replace B := Lib.hid (two_below hgb4 hgb5 B.out)
  have CS := Lib.hid (same14_any Ab (some ⟨gl, 0, none⟩) cb 2 [pg, z] [pg, z] wb5 (by show 2 ≤ maxLen; decide) (by show 2 ≤ maxLen; decide) RB.out RG.out)
  rw [show sameN [pg, z] [pg, z] = 1 from if_pos rfl] at CS
  refine CS.out.mono ?_
  rintro e wz ⟨rfl, hbz⟩
  replace B := Lib.hid (B.out.trans (hbz.mono B.out.size))
  clear hbz
  go_wp2
  go_ret
  exact ⟨rfl, B.out⟩
end Go.Proofs.YtcjakmnplkeldaaDoor
