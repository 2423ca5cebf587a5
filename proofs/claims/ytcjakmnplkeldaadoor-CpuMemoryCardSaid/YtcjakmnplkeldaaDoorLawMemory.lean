/-
  CpuMemory: the walk.
-/
import Derived.Test.YtcjakmnplkeldaaDoorLawReturns
import Derived.Test.YtcjakmnplkeldaaDoorMemPlain
namespace Go.Proofs.YtcjakmnplkeldaaDoor
open Go.RowKit
set_option linter.unusedVariables false
set_option linter.unusedSimpArgs false
set_option maxRecDepth 100000
theorem memS_regs {q v n : Nat} (hq : q < 32) (hv : v < 4294967296) (j : Nat) : Regs (memS q v n j) := by
  have h0 : Regs (memR q v) := by
    refine ⟨rfl, fun r hr => ?_⟩
    unfold memR at hr
    simp only [List.mem_append, List.mem_cons, List.not_mem_nil, or_false] at hr
    rcases hr with (rfl | rfl | rfl) | hr
    · decide
    · exact hv
    · omega
    · rw [List.eq_of_mem_replicate hr]; decide
  have hb : bt v n < 256 := Nat.mod_lt _ (by decide)
  have hs : sx8 (bt v n) < 4294967296 := by unfold sx8; split <;> omega
  unfold memS
  dsimp only
  split
  · exact h0
  · split
    · exact h0.set_ 3 hv
    · split
      · exact (h0.set_ 3 hv).set_ 4 hs
      · exact ((h0.set_ 3 hv).set_ 4 hs).set_ 5 (by omega)
theorem memM_len (q v n j : Nat) : (memM q v n j).length = 2 := by unfold memM; split <;> rfl
theorem RowAt.past {w w' : World} {A : Option Addr} {xs : List Value} {gc : Nat} (h : RowAt w w.heap.size A xs) (hg : w.grownBy w' (some gc)) (hne : ∀ b o, A = some ⟨b, o, none⟩ → b ≠ gc) : RowAt w' w'.heap.size A xs := by
  rcases h with h | ⟨b, o, hA, hb, hc⟩
  · exact .inl h
  · exact .inr ⟨b, o, hA, Nat.lt_of_lt_of_le hb hg.size, fun j v hv => (World.cell?_of_block (a := ⟨b, o + j, none⟩) (hg.block b hb (ne_blk (hne b o hA)))).trans (hc j v hv)⟩
theorem conv_int_g {P : Program} {ops : Array Oper} {rest : List Oper} {o : Oper} {a : Act} {w : World} {Q : Exit → Act → World → Prop} (kd k : IntKind) (n z : Int) (src dst : TypeId) (x : Operand) (hw : Region.wanted o (yielded ops a.tmps) = true) (ho : o.op = .convert src dst x) (hx : a.eval x = .int k n) (hs : (P.underlying src).isSome = true)
    (hk : P.intKind dst = kd) (hd : P.underlying dst = some (.int kd)) (hz : kd.wrap n = z) (h : wpList P ops Q rest (a.put o.dst (.int kd z)) w) : wpList P ops Q (o :: rest) a w := by
  refine BigFrame.wpList_want hw fun K hK => ?_
  unfold Oper.wp execOp
  subst hk
  simp only [ho, hx, run_convert_int w src dst k n hs hd, Sem.run_bind, Sem.run_pure, Result.andThen_ok, hz]
  exact hK _ _ h
theorem and255 (c : Nat) (h : c < 4294967296) : bits .and .u32 (c : Int) 255 = ((c % 256 : Nat) : Int) := by
  rw [show (255 : Int) = ((255 : Nat) : Int) by rfl, u32_and_nat _ _ h (by omega), show (255 : Nat) = 2 ^ 8 - 1 by rfl, Nat.and_two_pow_sub_one_eq_mod]
theorem bt_bits (v n : Nat) (h : v < 4294967296) (hn : n < 4) : bits .and .u32 ((v : Int) / 2 ^ (8 * n)) 255 = (bt v n : Nat) := by
  rw [show ((v : Int) / 2 ^ (8 * n)) = ((v / 2 ^ (8 * n) : Nat) : Int) by simp, and255 _ (Nat.lt_of_le_of_lt (Nat.div_le_self _ _) h)]
  unfold bt
  rw [show (256 : Nat) ^ n = 2 ^ (8 * n) by rw [Nat.pow_mul]]
/-- the contract of isa.Enc, the word a letter -/
def EncC (op a b : Nat) (n : Int) (x : Nat) : Prop := ∀ w : World, Calls Tryd.prog 18 #[.agg #[.int .u8 (op : Nat), .int .u8 (a : Nat), .int .u8 (b : Nat), .int .u8 0, .int .i32 n]] w fun e w' => e = .returned (.tuple #[.int .u32 (x : Nat), .int .i64 0]) ∧ Below w.heap.size w w'
theorem encC_of (op a b : Nat) (n : Int) (x : Nat) (ho : op < 256) (h : encR ⟨op, a, b, 0, n⟩ = (x, 0)) : EncC op a b n x := fun w => by
  have := enc_any ⟨op, a, b, 0, n⟩ w ho
  unfold EncPost at this
  rw [h] at this
  exact this
def OneC (op a b : Nat) (n : Int) (p z : ByteArray) : Prop := ∀ w : World, Calls Tryd.prog 17 #[.agg #[.int .u8 (op : Nat), .int .u8 (a : Nat), .int .u8 (b : Nat), .int .u8 0, .int .i32 n]] w fun e w' => (∃ g, e = .returned (.tuple #[.slice (some ⟨g, 0, none⟩) 2 2, .agg (pteL onePages).toArray]) ∧ Blk w' g 9 #[.string p, .string z] ∧ w.heap.size ≤ g) ∧ Below w.heap.size w w'
/-- the four steps, whatever the pages are called -/
def MemC (q v n : Nat) (M : Nat → List ByteArray) : Prop := ∀ j, j < 4 → ∀ (A : Option Addr) (c : Nat) (w : World), RowAt w w.heap.size A ((M j).map .string) → (A = none → 2 = 0 ∧ c = 0) → Tab5 w →
  Calls Tryd.prog 13 #[.agg (cpuC (memS q v n j) (4 * j)), .agg (pteL onePages).toArray, .slice A 2 c] w fun e w' => (∃ A' c', e = .returned (.tuple #[.agg (cpuC (memS q v n (j + 1)) (4 * (j + 1))), .slice A' 2 c', .agg #[.int .i64 0, .int .u32 0]]) ∧ RowAt w' w'.heap.size A' ((M (j + 1)).map .string) ∧ Hid (A' = none → 2 = 0 ∧ c' = 0) ∧ ∀ b o, A' = some ⟨b, o, none⟩ → w.heap.size ≤ b) ∧ Below w.heap.size w w'
theorem memC_of {q v n : Nat} (hq : q < 32) (hv : v < 4294967296) (hn : n < 4) : MemC q v n (memM q v n) := fun j hj A c w hr h0 ht => by
  have := step_out (mem_step hq hv hn hj) A c w (memS_regs hq hv j) (by omega) pages16 (by rw [memM_len]; decide) hr (by rw [memM_len]; exact h0) ht
  rw [memM_len] at this
  refine this.mono ?_
  rintro e w' ⟨⟨A', c', he, hra, h0a, hown⟩, hb⟩
  dsimp only at he hra h0a
  rw [memM_len] at he h0a
  exact ⟨⟨A', c', he, hra, h0a, fun b o hbo => own_row hown b (by subst hbo; rfl)⟩, hb⟩
def LoadC (q v n : Nat) (M : List ByteArray) : Prop := ∀ (A : Option Addr) (c : Nat) (w : World), RowAt w w.heap.size A (M.map .string) → Calls Tryd.prog 20 #[.slice A 2 c, .agg (pteL onePages).toArray, .int .u32 (128 + 4 * (q : Int)), .int .i64 4] w fun e w' => e = .returned (.tuple #[.int .u32 (v : Nat), .bool true]) ∧ Below w.heap.size w w'
theorem loadC_of {q v n : Nat} (hq : q < 32) (hv : v < 4294967296) (hn : n < 4) : LoadC q v n (memM q v n 4) := fun A c w hr => by
  have := load_any A c (memM q v n 4) onePages (128 + 4 * q) 4 w (by rw [memM_len]; decide) hr pages16 (.inr rfl) (by omega)
  rw [show loadR (memM q v n 4) onePages (128 + 4 * q) 4 = some v from load_mem4 hq hv, memM_len] at this
  exact this
set_option maxHeartbeats 4000000 in
theorem memory_core (v wd k q n sw lw lb lbu : Nat) (p0 z : ByteArray) (M : Nat → List ByteArray) (w : World) (HT : Hid (Tab5 w)) (HV : Hid (v < 4294967296)) (hwd : wd < 256) (hk : k < 256) (hq : wd % 32 = q) (hn : k % 4 = n)
    (CO : Hid (OneC 23 1 2 0 p0 z)) (CA : Hid (EncC 20 3 2 0 lw)) (CB : Hid (EncC 21 4 2 n lb)) (CC : Hid (EncC 22 5 2 n lbu)) (CD : Hid (EncC 23 1 2 0 sw)) (HL : Hid (∀ x ∈ [sw, lw, lb, lbu], x < 4294967296)) (HM : Hid (M 0 = [pgB [sw, lw, lb, lbu], z]))
    (CM : Hid (MemC q v n M)) (CL : Hid (LoadC q v n (M 4))) :
    Calls Tryd.prog 8 #[.int .u32 v, .int .u8 wd, .int .u8 k] w fun e w' => e = .returned (.bool true) ∧ Below w.heap.size w w' := by
  have q32 : q < 32 := by omega
  have n4 : n < 4 := by omega
  have s0 : IntKind.i64.wrap (wd : Int) = (wd : Int) := IntWalk.i64_in _ (by omega)
  have e1 : (wd : Int).tmod 32 = (q : Nat) := by rw [Int.tmod_eq_emod_of_nonneg (by omega)]; omega
  have e2 : (k : Int).tmod 4 = (n : Nat) := by rw [Int.tmod_eq_emod_of_nonneg (by omega)]; omega
  have e4 : (k : Int) % 4294967296 = (k : Int) := by omega
  have w32 : wrap32 (n : Int) = (n : Int) := by unfold wrap32; omega
  clear hq hn
  go_enter Tryd.func8, Tryd.ntmps8
  go_wp2_with fail
  refine (alive14_any _ HT.out).mono ?_
  rintro e w0 ⟨rfl, hb0⟩
  have B := Lib.hid hb0
  clear hb0
  go_wp2_with fail
  refine (CO.out _).mono ?_
  rintro e w1 ⟨⟨gl, rfl, hgl, hgw1⟩, hb1⟩
  have G := Lib.hid hgl
  have hgB : w.heap.size ≤ gl := Nat.le_trans B.out.size hgw1
  replace B := Lib.hid (B.out.trans (hb1.mono B.out.size))
  clear hgl hb1
  go_wp2_with (first
    | (refine store_blk 29 (.tmp 10) (.tmp 42) w1.heap.size 29 (pteL (List.replicate 16 ⟨false, false, 0⟩)).toArray (pteL onePages).toArray rfl rfl rfl rfl (Blk.new w1 _ _) rfl (space_size rfl) (by decide) ?_; intro w2 hs2 hg2; go_frame))
  have S := Lib.hid hs2
  replace G := Lib.hid ((G.out.alloc _).grown hg2 (ne_blk (by have := G.out.lt; omega)))
  replace B := Lib.hid ((B.out.alloc B.out.size _).grown hg2 (by have := B.out.size; simp; omega) (fun k hk => by cases hk; exact B.out.size))
  clear hs2 hg2
  refine (CA.out _).mono ?_
  rintro e w3 ⟨rfl, hb⟩
  replace S := Lib.hid (S.out.below hb S.out.lt)
  replace G := Lib.hid (G.out.below hb G.out.lt)
  replace B := Lib.hid (B.out.trans (hb.mono B.out.size))
  clear hb
  go_wp2_with fail
  refine (CB.out _).mono ?_
  rintro e w4 ⟨rfl, hb⟩
  replace S := Lib.hid (S.out.below hb S.out.lt)
  replace G := Lib.hid (G.out.below hb G.out.lt)
  replace B := Lib.hid (B.out.trans (hb.mono B.out.size))
  clear hb
  go_wp2_with fail
  refine (CC.out _).mono ?_
  rintro e w5 ⟨rfl, hb⟩
  replace S := Lib.hid (S.out.below hb S.out.lt)
  replace G := Lib.hid (G.out.below hb G.out.lt)
  replace B := Lib.hid (B.out.trans (hb.mono B.out.size))
  clear hb
  go_wp2_with fail
  refine (CD.out _).mono ?_
  rintro e w6 ⟨rfl, hb⟩
  replace S := Lib.hid (S.out.below hb S.out.lt)
  replace G := Lib.hid (G.out.below hb G.out.lt)
  replace B := Lib.hid (B.out.trans (hb.mono B.out.size))
  clear hb
  go_wp2_with fail
  have CP := Lib.hid (fun w h => page_any (some ⟨w6.heap.size, 0, none⟩) 4 [sw, lw, lb, lbu] w (by show 4 ≤ maxLen; decide) HL.out h)
  have WB := Lib.hid (Blk.new w6 22 ([sw, lw, lb, lbu].map fun x : Nat => Value.int .u32 (x : Int)).toArray)
  refine (CP.out _ (Blk.row WB.out)).mono ?_
  rintro e w7 ⟨rfl, hb⟩
  replace S := Lib.hid ((S.out.alloc _).below hb (S.out.alloc _).lt)
  replace G := Lib.hid ((G.out.alloc _).below hb (G.out.alloc _).lt)
  replace B := Lib.hid ((B.out.alloc B.out.size _).trans (hb.mono (B.out.alloc B.out.size _).size))
  clear hb WB CP
  generalize pgB [sw, lw, lb, lbu] = pg at *
  go_wp2_with (first
    | (refine store_str 9 (.tmp 88) (.tmp 87) gl 0 pg _ rfl rfl rfl rfl (by intro; kernel_rfl) (G.out.cell 0 rfl) (G.out.frozen 0) ?_; intro w9 hw9; have G9 : Hid (Blk w9 gl 9 #[.string pg, .string z]) := (by rw [← hw9]; exact G.out.set_ 0 _); have S9 : Hid (Blk w9 w1.heap.size 29 (pteL onePages).toArray) := (by rw [← hw9]; exact S.out.far (by show w1.heap.size ≠ gl; exact (blk_ne S.out G.out (by decide))) _); have B9 : Hid (Below w.heap.size w w9) := (by rw [← hw9]; exact B.out.setCell hgB _); clear hw9; go_frame)
    | (refine store_blk 25 (.tmp 19) (.tmp 92) w9.heap.size 25 zC (cpuC (memS q v n 0) 0) rfl rfl rfl rfl (Blk.new w9 _ _) rfl (cpu_size rfl) (cpuC_one _ _) ?_; intro w10 hr10 hg10; go_frame))
  have Cc := Lib.hid hr10
  have S := Lib.hid ((S9.out.alloc _).grown hg10 (ne_blk (by have := S9.out.lt; omega)))
  have G := Lib.hid ((G9.out.alloc _).grown hg10 (ne_blk (by have := G9.out.lt; omega)))
  replace B := Lib.hid ((B9.out.alloc B9.out.size _).grown hg10 (by have := B9.out.size; simp; omega) (fun k hk => by cases hk; exact B9.out.size))
  have hcB : w.heap.size ≤ w9.heap.size := B9.out.size
  clear hr10 hg10 S9 G9 B9
  have R0 : Hid (RowAt w10 w10.heap.size (some ⟨gl, 0, none⟩) ((M 0).map .string)) := by show RowAt _ _ _ _; rw [HM.out]; exact G.out.two
  clear G HM
  generalize w9.heap.size = gc at *
  generalize w1.heap.size = gs at *
  go_loopw [9, 20] (fun l i wr => ∃ j : Nat, j ≤ 4 ∧ i = .int .i64 j ∧ (∃ A c, l = .slice A 2 c ∧ Hid (RowAt wr wr.heap.size A ((M j).map .string)) ∧ Hid (A = none → 2 = 0 ∧ c = 0)) ∧ Hid (Blk wr gc 25 (cpuC (memS q v n j) (4 * j))) ∧ Hid (Blk wr gs 29 (pteL onePages).toArray) ∧ Hid (Below w.heap.size w wr)) (fun _ i _ => 4 - (intOf i).toNat)
  case atStart => exact ⟨0, Nat.zero_le _, rfl, ⟨_, _, rfl, R0, fun e => by cases e⟩, Cc, S, B⟩
  case round =>
    clear Cc S B R0 CO CA CB CC CD HL
    obtain ⟨j, hj, rfl, ⟨A, c, rfl, R, A0⟩, Cc, S, B⟩ := hrel
    by_cases hj4 : j < 4
    · have hlen := memS_regs (n := n) q32 HV.out j
      have hlen2 := memS_regs (n := n) q32 HV.out (j + 1)
      have RL := Lib.hid hlen.1
      have RL2 := Lib.hid hlen2.1
      clear hlen hlen2
      go_wp2_with (first
        | (refine load_blk 25 (.tmp 19) gc 25 (cpuC (memS q v n j) (4 * j)) _ rfl rfl rfl Cc.out Tryd.underlying25 rfl (cpu_size RL.out) ?_; go_frame)
        | (refine load_blk 29 (.tmp 10) gs 29 (pteL onePages).toArray _ rfl rfl rfl S.out Tryd.underlying29 rfl (space_size rfl) ?_; go_frame))
      refine (CM.out j hj4 _ _ _ R.out A0.out (HT.out.later B.out)).mono ?_
      rintro e wa ⟨⟨A', c', rfl, hra, h0a, hown⟩, hba⟩
      have hcl := Cc.out.lt
      replace Cc := Lib.hid (Cc.out.below hba Cc.out.lt)
      replace S := Lib.hid (S.out.below hba S.out.lt)
      replace B := Lib.hid (B.out.trans (hba.mono B.out.size))
      clear hba
      go_wp2_with (first
        | (refine store_blk 25 (.tmp 21) (.tmp 102) wa.heap.size 25 zC (cpuC (memS q v n (j + 1)) (4 * (j + 1))) rfl rfl rfl rfl ((Blk.new wa _ _).alloc _) (by rw [cpuC_size, RL2.out]; rfl) (cpu_size RL2.out) (cpuC_one _ _) ?_; intro wa4 hra4 hga4; go_frame)
        | (refine store_blk 34 (.tmp 23) (.tmp 104) (wa.heap.size + 1) 34 zE #[.int .i64 0, .int .u32 0] rfl rfl rfl rfl (ev_new hga4) rfl ev_info (evC_one 0 0) ?_; intro wa5 hra5 hga5; go_frame)
        | (refine load_blk 34 (.tmp 23) (wa.heap.size + 1) 34 #[.int .i64 0, .int .u32 0] _ rfl rfl rfl hra5 Tryd.underlying34 rfl ev_info ?_; go_frame)
        | (refine load_blk 25 (.tmp 21) wa.heap.size 25 (cpuC (memS q v n (j + 1)) (4 * (j + 1))) _ rfl rfl rfl (hra4.grown hga5 (ne_blk (by omega))) Tryd.underlying25 rfl (cpu_size RL2.out) ?_; go_frame)
        | (refine store_blk 25 (.tmp 19) (.tmp 108) gc 25 (cpuC (memS q v n j) (4 * j)) (cpuC (memS q v n (j + 1)) (4 * (j + 1))) rfl rfl rfl rfl (two_keep hga4 hga5 Cc.out) (by rw [cpuC_size, cpuC_size, RL2.out, RL.out]) (cpu_size RL2.out) (cpuC_one _ _) ?_; intro wa6 hra6 hga6; go_frame))
      go_roundw
      case rel =>
        refine ⟨j + 1, by omega, by go_num, ⟨_, _, rfl, ?_, fun e => absurd (h0a.out e).1 (by decide)⟩, hra6, ?_, ?_⟩
        · exact (two_row hga4 hga5 hra).past hga6 (fun b o e => by have := hown b o e; omega)
        · exact (two_keep hga4 hga5 S.out).grown hga6 (ne_blk (blk_ne S.out Cc.out (by decide)))
        · have := two_below hga4 hga5 B.out
          exact this.grown hga6 this.size (fun k hk => by cases hk; exact hcB)
      case measure => simp [intOf]; omega
    · obtain rfl : j = 4 := by omega
      have RL := Lib.hid (memS_regs (n := n) q32 HV.out 4).1
      have hbb := Lib.hid (bt_bits v n HV.out n4)
      go_wp2_with (first
        | (refine load_blk 29 (.tmp 10) gs 29 (pteL onePages).toArray _ rfl rfl rfl S.out Tryd.underlying29 rfl (space_size rfl) ?_; go_frame))
      refine (CL.out _ _ _ R.out).mono ?_
      rintro e wz ⟨rfl, hbz⟩
      replace Cc := Lib.hid (Cc.out.below hbz Cc.out.lt)
      replace B := Lib.hid (B.out.trans (hbz.mono B.out.size))
      clear hbz R S A0
      rw [hbb.out]
      have hbt : bt v n < 256 := Nat.mod_lt _ (by decide)
      have hw8 := wrap8 (bt v n) hbt
      have k3 : wz.cell? ⟨gc, 3, none⟩ = some (.int .u32 (v : Int)) := Cc.out.cell 3 rfl
      have k4 : wz.cell? ⟨gc, 4, none⟩ = some (.int .u32 ((sx8 (bt v n) : Nat) : Int)) := Cc.out.cell 4 rfl
      have k5 : wz.cell? ⟨gc, 5, none⟩ = some (.int .u32 ((bt v n : Nat) : Int)) := Cc.out.cell 5 rfl
      have hsx := sg8_sx (bt v n) hbt
      generalize sg8 (bt v n) = sb at *
      generalize sx8 (bt v n) = sy at *
      generalize bt v n = bb at *
      go_wp2_with (first
        | (refine conv_int_g .i8 .u32 (bb : Int) sb 22 54 (.tmp 131) rfl rfl rfl u32_is i8_kind Tryd.underlying54 hw8 ?_; go_frame))
      go_ret
      exact ⟨rfl, B.out⟩
theorem law_memory (v wd k : Nat) (w : World) (ht : Tab5 w) (hv : v < 4294967296) (hwd : wd < 256) (hk : k < 256) : Calls Tryd.prog 8 #[.int .u32 v, .int .u8 wd, .int .u8 k] w fun e w' => e = .returned (.bool true) ∧ Below w.heap.size w w' := by
  have q32 : wd % 32 < 32 := by omega
  have n4 : k % 4 < 4 := by omega
  refine memory_core v wd k (wd % 32) (k % 4) (encR swI).1 (encR lwI).1 (encR (lbI (k % 4))).1 (encR (lbuI (k % 4))).1 (pgB [(encR swI).1]) (zeros 128) (memM (wd % 32) v (k % 4)) w ht hv hwd hk rfl rfl
    (fun w => one_any swI w (by decide) (by decide) (by decide))
    (encC_of 20 3 2 0 _ (by decide) (Prod.ext rfl (show (encR lwI).2 = 0 by decide)))
    (encC_of 21 4 2 _ _ (by decide) (Prod.ext rfl (enc_lb n4)))
    (encC_of 22 5 2 _ _ (by decide) (Prod.ext rfl (enc_lbu n4)))
    (encC_of 23 1 2 0 _ (by decide) (Prod.ext rfl (show (encR swI).2 = 0 by decide)))
    (fun x hx => ?_) rfl (memC_of q32 hv n4) (loadC_of q32 hv n4)
  simp only [List.mem_cons, List.not_mem_nil, or_false] at hx
  rcases hx with rfl | rfl | rfl | rfl <;> exact encR_lt _
end Go.Proofs.YtcjakmnplkeldaaDoor
