/-
  What set, goes and memory of the document's layer 14 do.
-/
import Derived.Test.YtcjakmnplkeldaaDoorRefA
import Derived.Test.YtcjakmnplkeldaaDoorRLay
import Derived.Test.YtcjakmnplkeldaaDoorCpuStep
import Derived.Outline
namespace Go.Proofs.YtcjakmnplkeldaaDoor
open Go.RowKit
set_option linter.unusedVariables false
set_option linter.unusedSimpArgs false
set_option maxRecDepth 100000
/-- a register is set, but for the first one -/
def setN (R : List Nat) (a v : Nat) : List Nat := if a = 0 then R else R.set a v
theorem setN_len {R : List Nat} (h : R.length = 16) (a v : Nat) : (setN R a v).length = 16 := by unfold setN; split <;> simp [h]
set_option maxHeartbeats 1000000 in
theorem rset_any (R : List Nat) (pc a v : Nat) (w : World) (hR : R.length = 16) (ha : a < 16) :
    Calls Tryd.prog 31 #[.agg (cpuC R pc), .int .u8 a, .int .u32 v] w fun e w' => e = .returned (.agg (cpuC (setN R a v) pc)) ∧ Below w.heap.size w w' := by
  have HR := Lib.hid hR
  have a16 : (a : Int) < 16 := by omega
  have C0 : Hid (Blk ((w.alloc (.cells (cpuC R pc) 25)).alloc (.cells zC 25)) w.heap.size 25 (cpuC R pc)) := (Blk.new w _ _).alloc _
  have O0 : Hid (Blk ((w.alloc (.cells (cpuC R pc) 25)).alloc (.cells zC 25)) (w.heap.size + 1) 25 zC) := by
    have := Blk.new (w.alloc (.cells (cpuC R pc) 25)) 25 zC
    rwa [World.size_alloc] at this
  have B0 : Hid (Below w.heap.size w ((w.alloc (.cells (cpuC R pc) 25)).alloc (.cells zC 25))) := ((Below.refl _ _).alloc (Nat.le_refl _) _).alloc (by simp) _
  clear hR
  by_cases h0 : a = 0
  · have HS : Hid (setN R a v = R) := if_pos h0
    have t0 : decide ((0 : Int) < (a : Int)) = false := by simp; omega
    have t0' : ¬ (0 : Int) < (a : Int) := by omega
    clear h0
    go_enter Tryd.func31, Tryd.ntmps31
    go_wp2_with (first
      | (refine load_blk 25 (.tmp 3) w.heap.size 25 (cpuC R pc) _ rfl rfl rfl C0.out Tryd.underlying25 rfl (cpu_size HR.out) ?_; go_frame)
      | (refine store_blk 25 (.tmp 6) (.tmp 13) (w.heap.size + 1) 25 zC (cpuC R pc) rfl rfl rfl rfl O0.out (by rw [cpuC_size, HR.out]; rfl) (cpu_size HR.out) (cpuC_one _ _) ?_; intro w4 hr4 hg4; go_frame))
    refine bodyPost_ret (results_cell_row rfl _ _ (w.heap.size + 1) _ _ (0, 0) _ rfl hr4 Tryd.underlying25 rfl (cpu_size HR.out)) rfl ⟨by rw [HS.out], ?_⟩
    exact B0.out.grown hg4 B0.out.size (fun k hk => by cases hk; omega)
  · have HS : Hid (setN R a v = R.set a v) := if_neg h0
    have t0 : (0 : Int) < (a : Int) := by omega
    have q0 := C0.out.cell a (cpuC_reg (by rw [HR.out]; exact ha))
    have f0 := C0.out.frozen a
    have HL : Hid ((R.set a v).length = 16) := by show _ = _; rw [List.length_set]; exact HR.out
    clear h0
    go_enter Tryd.func31, Tryd.ntmps31
    go_wp2_with (first
      | (refine store_cell 22 (.tmp 12) (.tmp 10) w.heap.size a .u32 _ _ rfl rfl rfl rfl (by intro; kernel_rfl) q0 f0 ?_; intro w3 hw3; have C3 : Hid (Blk w3 w.heap.size 25 (cpuC (R.set a v) pc)) := (by show Blk _ _ _ _; rw [← hw3, ← cpuC_set (by rw [HR.out]; exact ha)]; exact C0.out.set_ a _); have O3 : Hid (Blk w3 (w.heap.size + 1) 25 zC) := (by show Blk _ _ _ _; rw [← hw3]; exact O0.out.far (by show w.heap.size + 1 ≠ w.heap.size; omega) _); have B3 : Hid (Below w.heap.size w w3) := (by show Below _ _ _; rw [← hw3]; exact B0.out.setCell (Nat.le_refl _) _); clear hw3 q0 f0; go_frame)
      | (refine load_blk 25 (.tmp 3) w.heap.size 25 (cpuC (R.set a v) pc) _ rfl rfl rfl C3.out Tryd.underlying25 rfl (cpu_size HL.out) ?_; go_frame)
      | (refine store_blk 25 (.tmp 6) (.tmp 13) (w.heap.size + 1) 25 zC (cpuC (R.set a v) pc) rfl rfl rfl rfl O3.out (by rw [cpuC_size, HL.out]; rfl) (cpu_size HL.out) (cpuC_one _ _) ?_; intro w4 hr4 hg4; go_frame))
    refine bodyPost_ret (results_cell_row rfl _ _ (w.heap.size + 1) _ _ (0, 0) _ rfl hr4 Tryd.underlying25 rfl (cpu_size HL.out)) rfl ⟨by rw [HS.out], ?_⟩
    exact B3.out.grown hg4 B3.out.size (fun k hk => by cases hk; omega)
theorem rgoes_any (op a b : Nat) (w : World) (h1 : 25 ≤ op) (h2 : op ≤ 28) (ha : a < 4294967296) (hb : b < 4294967296) : Calls Tryd.prog 34 #[.int .u8 op, .int .u32 a, .int .u32 b] w fun e w' => e = .returned (.bool (tkR op a b)) ∧ w = w' := by
  obtain rfl | rfl | rfl | rfl : op = 25 ∨ op = 26 ∨ op = 27 ∨ op = 28 := by omega
  · go_enter Tryd.func34, Tryd.ntmps34
    go_wp2
    go_ret
    exact ⟨ret_bool (by show _ = decide (a = b); by_cases h : a = b <;> first | (simp [h]; done) | (simp [h]; omega)), rfl⟩
  · go_enter Tryd.func34, Tryd.ntmps34
    go_wp2
    go_ret
    exact ⟨ret_bool (by show _ = decide (a ≠ b); by_cases h : a = b <;> first | (simp [h]; done) | (simp [h]; omega)), rfl⟩
  · go_enter Tryd.func34, Tryd.ntmps34
    go_wp2_with fail
    refine (rless_any a b _ ha hb).mono ?_
    rintro e w' ⟨rfl, rfl⟩
    go_wp2
    go_ret
    exact ⟨rfl, rfl⟩
  · go_enter Tryd.func34, Tryd.ntmps34
    go_wp2
    go_ret
    exact ⟨ret_bool (by show _ = decide (a < b); by_cases h : a < b <;> simp [h]), rfl⟩
theorem results_ctt {P : Program} {f : Func} {ts : Array Value} {s k k2 g : Nat} {ty t : TypeId} {cs : Array Value} {d : TypeDesc} {w : World} {v v2 : Value} (hf : f.results = #[.cell s ty, .tmp k, .tmp k2]) (hs : ts.getD s undef = .pointer (some ⟨g, 0, none⟩)) (hk : ts.getD k undef = v) (hk2 : ts.getD k2 undef = v2) (hg : Blk w g t cs)
    (hu : P.underlying ty = some d) (hd : (match d with | .struct _ | .array _ _ => true | _ => false) = true) (hi : (P.info? ty).map (·.size) = some cs.size) :
    (results f ts).run P w = .ok (.tuple #[.agg cs, v, v2]) w := by
  have hr := run_loadVar_row (P := P) w g t ty cs (0, 0) d hg hu hd hi
  simp only [Array.getD_eq_getD_getElem?] at hs hk hk2
  unfold results
  rw [hf]
  simp [hs, hk, hk2, asAddr, hr, Sem.run_bind, Sem.run_pure, Result.andThen_ok]
/-- the blocks of memory's call: the cpu, the pages, the instruction, the first result -/
structure MSt (w wr : World) (R : List Nat) (pc : Nat) (l : List Pte) (ic oc : Array Value) : Prop where
  c : Blk wr w.heap.size 25 (cpuC R pc)
  s : Blk wr (w.heap.size + 1) 29 (pteL l).toArray
  i : Blk wr (w.heap.size + 1 + 1) 41 ic
  oc : Blk wr (w.heap.size + 1 + 1 + 1) 25 oc
  below : Below w.heap.size w wr
theorem MSt.later {w wr wr' : World} {R : List Nat} {pc : Nat} {l : List Pte} {ic oc : Array Value} (h : MSt w wr R pc l ic oc) (hb : Below wr.heap.size wr wr') : MSt w wr' R pc l ic oc :=
  ⟨h.c.below hb h.c.lt, h.s.below hb h.s.lt, h.i.below hb h.i.lt, h.oc.below hb h.oc.lt, h.below.trans (hb.mono h.below.size)⟩
theorem MSt.put {w wr wr' : World} {R : List Nat} {pc : Nat} {l : List Pte} {ic oc oc' : Array Value} (h : MSt w wr R pc l ic oc) (hb : Blk wr' (w.heap.size + 1 + 1 + 1) 25 oc') (hg : wr.grownBy wr' (some (w.heap.size + 1 + 1 + 1))) : MSt w wr' R pc l ic oc' :=
  ⟨h.c.grown hg (ne_blk (by omega)), h.s.grown hg (ne_blk (by omega)), h.i.grown hg (ne_blk (by omega)), hb, h.below.grown hg h.below.size (fun k hk => by cases hk; omega)⟩
def insC5 (op a b c : Nat) (imm : Int) : Array Value := #[.int .u8 op, .int .u8 a, .int .u8 b, .int .u8 c, .int .i32 imm]
theorem mst_new (w : World) (R : List Nat) (pc : Nat) (l : List Pte) (ic : Array Value) : MSt w ((((w.alloc (.cells (cpuC R pc) 25)).alloc (.cells (pteL l).toArray 29)).alloc (.cells ic 41)).alloc (.cells zC 25)) R pc l ic zC := by
  have z1 : (w.alloc (.cells (cpuC R pc) 25)).heap.size = w.heap.size + 1 := by simp
  have z2 : ((w.alloc (.cells (cpuC R pc) 25)).alloc (.cells (pteL l).toArray 29)).heap.size = w.heap.size + 1 + 1 := by simp
  have z3 : (((w.alloc (.cells (cpuC R pc) 25)).alloc (.cells (pteL l).toArray 29)).alloc (.cells ic 41)).heap.size = w.heap.size + 1 + 1 + 1 := by simp
  refine ⟨(((Blk.new w _ _).alloc _).alloc _).alloc _, ?_, ?_, ?_, ((((Below.refl _ _).alloc (Nat.le_refl _) _).alloc (by simp) _).alloc (by simp; omega) _).alloc (by simp; omega) _⟩
  · rw [← z1]; exact ((Blk.new _ _ _).alloc _).alloc _
  · rw [← z2]; exact (Blk.new _ _ _).alloc _
  · rw [← z3]; exact Blk.new _ _ _
/-- what memory hands back for a load -/
def LdPost (R : List Nat) (pc a n c : Nat) (A : Option Addr) (r : Option Nat) (w : World) (e : Ending) (w' : World) : Prop :=
  (match r with
  | some v => e = .returned (.tuple #[.agg (cpuC (setN R a v) pc), .slice A n c, .bool true])
  | none => ∃ R', R'.length = 16 ∧ e = .returned (.tuple #[.agg (cpuC R' pc), .slice A n c, .bool false])) ∧ Below w.heap.size w w'
def StoPost (R : List Nat) (pc : Nat) (r : Option (List ByteArray)) (w : World) (e : Ending) (w' : World) : Prop :=
  (match r with
  | some ys => ∃ g c, e = .returned (.tuple #[.agg (cpuC R pc), .slice (some ⟨g, 0, none⟩) ys.length c, .bool true]) ∧ w'.ownsRow w.heap.size 9 1 (.slice (some ⟨g, 0, none⟩) ys.length c) ys.length (ys.map .string)
  | none => e = .returned (.tuple #[.agg (cpuC R pc), .slice none 0 0, .bool false])) ∧ Below w.heap.size w w'
set_option maxHeartbeats 2000000 in
theorem rmem_load (R : List Nat) (pc : Nat) (l : List Pte) (A : Option Addr) (cA : Nat) (xs : List ByteArray) (op a b cc : Nat) (imm : Int) (w : World) (h1 : 20 ≤ op) (h2 : op ≤ 22) (hR : Regs R) (ha : a < 16) (hb : b < 16) (hl : l.length = 16) (hx : xs.length ≤ 1000000) (h : RowAt w w.heap.size A (xs.map .string)) :
    Calls Tryd.prog 33 #[.agg (cpuC R pc), .agg (pteL l).toArray, .slice A xs.length cA, .agg (insC5 op a b cc imm)] w (LdPost R pc a xs.length cA A (ldR op xs l ((R.getD b 0 + (imm % 4294967296).toNat) % 4294967296)) w) := by
  have HR := Lib.hid hR
  have HL := Lib.hid hl
  have HA := Lib.hid h
  have M0 : Hid (MSt w ((((w.alloc (.cells (cpuC R pc) 25)).alloc (.cells (pteL l).toArray 29)).alloc (.cells (insC5 op a b cc imm) 41)).alloc (.cells #[.int .u32 0, .int .u32 0, .int .u32 0, .int .u32 0, .int .u32 0, .int .u32 0, .int .u32 0, .int .u32 0, .int .u32 0, .int .u32 0, .int .u32 0, .int .u32 0, .int .u32 0, .int .u32 0, .int .u32 0, .int .u32 0, .int .u32 0] 25)) R pc l (insC5 op a b cc imm) zC) := mst_new w R pc l (insC5 op a b cc imm)
  obtain ⟨vb, hvb⟩ : ∃ vb, R.getD b 0 = vb := ⟨_, rfl⟩
  obtain ⟨im, him⟩ : ∃ im, (imm % 4294967296).toNat = im := ⟨_, rfl⟩
  obtain ⟨t, ht⟩ : ∃ t, (vb + im) % 4294967296 = t := ⟨_, rfl⟩
  have e2 : imm % 4294967296 = (im : Nat) := by omega
  have e3 : IntKind.u32.wrap ((vb : Int) + (im : Int)) = (t : Int) := by rw [IntKind.wrap_u32]; omega
  have lvb : vb < 4294967296 := by rw [← hvb]; exact hR.get b
  have lt : t < 4294967296 := by omega
  have RL := Lib.hid hR.1
  have b16 : (b : Int) < 16 := by omega
  rw [hvb, him, ht]
  have HVB := Lib.hid hvb
  clear hR hl h hvb him ht
  have hn := fun w => rnumber_any imm w
  rw [e2] at hn
  have CN := Lib.hid hn
  clear hn
  go_enter Tryd.func33, Tryd.ntmps33
  go_wp2
  generalize ((((w.alloc (.cells (cpuC R pc) 25)).alloc (.cells (pteL l).toArray 29)).alloc (.cells (insC5 op a b cc imm) 41)).alloc (.cells #[.int .u32 0, .int .u32 0, .int .u32 0, .int .u32 0, .int .u32 0, .int .u32 0, .int .u32 0, .int .u32 0, .int .u32 0, .int .u32 0, .int .u32 0, .int .u32 0, .int .u32 0, .int .u32 0, .int .u32 0, .int .u32 0, .int .u32 0] 25)) = w0 at *
  have p2 : ∀ u : Ext w0, u.val.cell? ⟨w.heap.size + 1 + 1, 2, none⟩ = some (.int .u8 b) := fun u => u.cell (M0.out.i.cell 2 rfl)
  have p4 : ∀ u : Ext w0, u.val.cell? ⟨w.heap.size + 1 + 1, 4, none⟩ = some (.int .i32 imm) := fun u => u.cell (M0.out.i.cell 4 rfl)
  have r2 : ∀ u : Ext w0, u.val.cell? ⟨w.heap.size, b, none⟩ = some (.int .u32 vb) := fun u => u.cell (by rw [M0.out.c.cell b (cpuC_reg (by rw [RL.out]; exact hb)), HVB.out])
  refine wp_region_ext (by kernel_rfl) (by kernel_rfl) ?_
  repeat (go_big_quiet_step (first
    | (go_at_call 30; with_reducible exact Ext.call_same (CN.out _))))
  refine wpQuiet_nil ?_
  rintro _ ⟨u, rfl⟩
  have M := Lib.hid (M0.out.later u.below)
  have RA := Lib.hid ((HA.out.below M.out.below).mono M.out.below.size)
  clear p2 p4 r2 M0
  generalize u.val = w1 at *
  clear u
  have i0 : w1.cell? ⟨w.heap.size + 1 + 1, 0, none⟩ = some (.int .u8 op) := M.out.i.cell 0 rfl
  obtain rfl | rfl | rfl : op = 20 ∨ op = 21 ∨ op = 22 := by omega
  · go_wp2_with (refine load_blk 29 (.tmp 5) (w.heap.size + 1) 29 (pteL l).toArray _ rfl rfl rfl M.out.s Tryd.underlying29 rfl (space_size HL.out) ?_; go_frame)
    refine (rload_any A cA xs l t 4 _ hx RA.out HL.out (.inr rfl) lt).mono ?_
    rintro e w2 ⟨rfl, hb2⟩
    replace M := Lib.hid (M.out.later hb2)
    clear hb2 i0
    have HE : Hid (ldR 20 xs l t = loadR xs l t 4) := if_pos rfl
    cases hr : loadR xs l t 4 with
    | none =>
      have HLD : Hid (ldR 20 xs l t = none) := HE.out.trans hr
      clear hr HE
      unfold loadE
      have i1 : w2.cell? ⟨w.heap.size + 1 + 1, 1, none⟩ = some (.int .u8 a) := M.out.i.cell 1 rfl
      go_wp2_with (refine load_blk 25 (.tmp 4) w.heap.size 25 (cpuC R pc) _ rfl rfl rfl M.out.c Tryd.underlying25 rfl (cpu_size RL.out) ?_; go_frame)
      refine (rset_any R pc a 0 _ RL.out ha).mono ?_
      rintro e w3 ⟨rfl, hb3⟩
      have M3 := Lib.hid (M.out.later hb3)
      clear hb3 i1
      have ML : Hid ((setN R a 0).length = 16) := setN_len RL.out a _
      go_wp2_with (refine store_blk 25 (.tmp 8) (.tmp 44) (w.heap.size + 1 + 1 + 1) 25 zC (cpuC (setN R a 0) pc) rfl rfl rfl rfl M3.out.oc (by rw [cpuC_size, ML.out]; rfl) (cpu_size ML.out) (cpuC_one _ _) ?_; intro w4 hr4 hg4; go_frame)
      have M4 := Lib.hid (M3.out.put hr4 hg4)
      refine bodyPost_ret (results_ctt rfl rfl rfl rfl M4.out.oc Tryd.underlying25 rfl (cpu_size ML.out)) rfl ?_
      rw [HLD.out]
      exact ⟨⟨_, ML.out, rfl⟩, M4.out.below⟩
    | some v =>
      have HLD : Hid (ldR 20 xs l t = some v) := HE.out.trans hr
      clear hr HE
      unfold loadE
      have i1 : w2.cell? ⟨w.heap.size + 1 + 1, 1, none⟩ = some (.int .u8 a) := M.out.i.cell 1 rfl
      go_wp2_with (refine load_blk 25 (.tmp 4) w.heap.size 25 (cpuC R pc) _ rfl rfl rfl M.out.c Tryd.underlying25 rfl (cpu_size RL.out) ?_; go_frame)
      refine (rset_any R pc a v _ RL.out ha).mono ?_
      rintro e w3 ⟨rfl, hb3⟩
      have M3 := Lib.hid (M.out.later hb3)
      clear hb3 i1
      have ML : Hid ((setN R a v).length = 16) := setN_len RL.out a _
      go_wp2_with (refine store_blk 25 (.tmp 8) (.tmp 44) (w.heap.size + 1 + 1 + 1) 25 zC (cpuC (setN R a v) pc) rfl rfl rfl rfl M3.out.oc (by rw [cpuC_size, ML.out]; rfl) (cpu_size ML.out) (cpuC_one _ _) ?_; intro w4 hr4 hg4; go_frame)
      have M4 := Lib.hid (M3.out.put hr4 hg4)
      refine bodyPost_ret (results_ctt rfl rfl rfl rfl M4.out.oc Tryd.underlying25 rfl (cpu_size ML.out)) rfl ?_
      rw [HLD.out]
      exact ⟨rfl, M4.out.below⟩
  · go_wp2_with (refine load_blk 29 (.tmp 5) (w.heap.size + 1) 29 (pteL l).toArray _ rfl rfl rfl M.out.s Tryd.underlying29 rfl (space_size HL.out) ?_; go_frame)
    refine (rload_any A cA xs l t 1 _ hx RA.out HL.out (.inl rfl) lt).mono ?_
    rintro e w2 ⟨rfl, hb2⟩
    replace M := Lib.hid (M.out.later hb2)
    clear hb2 i0
    have HE : Hid (ldR 21 xs l t = (loadR xs l t 1).map fun v => if 21 = 21 then sx8 v else v) := if_neg (by decide)
    have i0 : w2.cell? ⟨w.heap.size + 1 + 1, 0, none⟩ = some (.int .u8 21) := M.out.i.cell 0 rfl
    cases hr : loadR xs l t 1 with
    | none =>
      have HLD : Hid (ldR 21 xs l t = none) := HE.out.trans (by rw [hr]; rfl)
      clear hr HE
      unfold loadE
      have i1 : w2.cell? ⟨w.heap.size + 1 + 1, 1, none⟩ = some (.int .u8 a) := M.out.i.cell 1 rfl
      go_wp2_with (refine load_blk 25 (.tmp 4) w.heap.size 25 (cpuC R pc) _ rfl rfl rfl M.out.c Tryd.underlying25 rfl (cpu_size RL.out) ?_; go_frame)
      refine (rset_any R pc a 0 _ RL.out ha).mono ?_
      rintro e w3 ⟨rfl, hb3⟩
      have M3 := Lib.hid (M.out.later hb3)
      clear hb3 i1
      have ML : Hid ((setN R a 0).length = 16) := setN_len RL.out a _
      go_wp2_with (refine store_blk 25 (.tmp 8) (.tmp 71) (w.heap.size + 1 + 1 + 1) 25 zC (cpuC (setN R a 0) pc) rfl rfl rfl rfl M3.out.oc (by rw [cpuC_size, ML.out]; rfl) (cpu_size ML.out) (cpuC_one _ _) ?_; intro w4 hr4 hg4; go_frame)
      have M4 := Lib.hid (M3.out.put hr4 hg4)
      refine bodyPost_ret (results_ctt rfl rfl rfl rfl M4.out.oc Tryd.underlying25 rfl (cpu_size ML.out)) rfl ?_
      rw [HLD.out]
      exact ⟨⟨_, ML.out, rfl⟩, M4.out.below⟩
    | some v =>
      have hv := loadR_one hr
      by_cases h8 : v < 128
      · have HLD : Hid (ldR 21 xs l t = some v) := HE.out.trans (by rw [hr]; show some (sx8 v) = _; unfold sx8; rw [if_pos h8])
        have k8 : ¬ (128 : Int) ≤ (v : Int) := by omega
        clear hr HE h8
        unfold loadE
        have i1 : w2.cell? ⟨w.heap.size + 1 + 1, 1, none⟩ = some (.int .u8 a) := M.out.i.cell 1 rfl
        go_wp2_with (refine load_blk 25 (.tmp 4) w.heap.size 25 (cpuC R pc) _ rfl rfl rfl M.out.c Tryd.underlying25 rfl (cpu_size RL.out) ?_; go_frame)
        refine (rset_any R pc a v _ RL.out ha).mono ?_
        rintro e w3 ⟨rfl, hb3⟩
        have M3 := Lib.hid (M.out.later hb3)
        clear hb3 i1
        have ML : Hid ((setN R a v).length = 16) := setN_len RL.out a _
        go_wp2_with (refine store_blk 25 (.tmp 8) (.tmp 71) (w.heap.size + 1 + 1 + 1) 25 zC (cpuC (setN R a v) pc) rfl rfl rfl rfl M3.out.oc (by rw [cpuC_size, ML.out]; rfl) (cpu_size ML.out) (cpuC_one _ _) ?_; intro w4 hr4 hg4; go_frame)
        have M4 := Lib.hid (M3.out.put hr4 hg4)
        refine bodyPost_ret (results_ctt rfl rfl rfl rfl M4.out.oc Tryd.underlying25 rfl (cpu_size ML.out)) rfl ?_
        rw [HLD.out]
        exact ⟨rfl, M4.out.below⟩
      · have HLD0 : ldR 21 xs l t = some (sx8 v) := HE.out.trans (by rw [hr]; rfl)
        obtain ⟨sv, hsv⟩ : ∃ sv, sx8 v = sv := ⟨_, rfl⟩
        have HLD : Hid (ldR 21 xs l t = some sv) := by show _ = _; rw [← hsv]; exact HLD0
        unfold sx8 at hsv
        rw [if_neg h8] at hsv
        have k8 : (128 : Int) ≤ (v : Int) := by omega
        have k7 : ((v : Int) + 4294967295) % 4294967296 = (v : Int) - 1 := by omega
        have k9 : ((v : Int) - 1 - 255) % 4294967296 = (sv : Int) := by omega
        clear hsv HLD0 hr HE h8
        unfold loadE
        have i1 : w2.cell? ⟨w.heap.size + 1 + 1, 1, none⟩ = some (.int .u8 a) := M.out.i.cell 1 rfl
        go_wp2_with (refine load_blk 25 (.tmp 4) w.heap.size 25 (cpuC R pc) _ rfl rfl rfl M.out.c Tryd.underlying25 rfl (cpu_size RL.out) ?_; go_frame)
        refine (rset_any R pc a sv _ RL.out ha).mono ?_
        rintro e w3 ⟨rfl, hb3⟩
        have M3 := Lib.hid (M.out.later hb3)
        clear hb3 i1
        have ML : Hid ((setN R a sv).length = 16) := setN_len RL.out a _
        go_wp2_with (refine store_blk 25 (.tmp 8) (.tmp 71) (w.heap.size + 1 + 1 + 1) 25 zC (cpuC (setN R a sv) pc) rfl rfl rfl rfl M3.out.oc (by rw [cpuC_size, ML.out]; rfl) (cpu_size ML.out) (cpuC_one _ _) ?_; intro w4 hr4 hg4; go_frame)
        have M4 := Lib.hid (M3.out.put hr4 hg4)
        refine bodyPost_ret (results_ctt rfl rfl rfl rfl M4.out.oc Tryd.underlying25 rfl (cpu_size ML.out)) rfl ?_
        rw [HLD.out]
        exact ⟨rfl, M4.out.below⟩
  · go_wp2_with (refine load_blk 29 (.tmp 5) (w.heap.size + 1) 29 (pteL l).toArray _ rfl rfl rfl M.out.s Tryd.underlying29 rfl (space_size HL.out) ?_; go_frame)
    refine (rload_any A cA xs l t 1 _ hx RA.out HL.out (.inl rfl) lt).mono ?_
    rintro e w2 ⟨rfl, hb2⟩
    replace M := Lib.hid (M.out.later hb2)
    clear hb2 i0
    have HE : Hid (ldR 22 xs l t = (loadR xs l t 1).map fun v => if 22 = 21 then sx8 v else v) := if_neg (by decide)
    have i0 : w2.cell? ⟨w.heap.size + 1 + 1, 0, none⟩ = some (.int .u8 22) := M.out.i.cell 0 rfl
    cases hr : loadR xs l t 1 with
    | none =>
      have HLD : Hid (ldR 22 xs l t = none) := HE.out.trans (by rw [hr]; rfl)
      clear hr HE
      unfold loadE
      have i1 : w2.cell? ⟨w.heap.size + 1 + 1, 1, none⟩ = some (.int .u8 a) := M.out.i.cell 1 rfl
      go_wp2_with (refine load_blk 25 (.tmp 4) w.heap.size 25 (cpuC R pc) _ rfl rfl rfl M.out.c Tryd.underlying25 rfl (cpu_size RL.out) ?_; go_frame)
      refine (rset_any R pc a 0 _ RL.out ha).mono ?_
      rintro e w3 ⟨rfl, hb3⟩
      have M3 := Lib.hid (M.out.later hb3)
      clear hb3 i1
      have ML : Hid ((setN R a 0).length = 16) := setN_len RL.out a _
      go_wp2_with (refine store_blk 25 (.tmp 8) (.tmp 71) (w.heap.size + 1 + 1 + 1) 25 zC (cpuC (setN R a 0) pc) rfl rfl rfl rfl M3.out.oc (by rw [cpuC_size, ML.out]; rfl) (cpu_size ML.out) (cpuC_one _ _) ?_; intro w4 hr4 hg4; go_frame)
      have M4 := Lib.hid (M3.out.put hr4 hg4)
      refine bodyPost_ret (results_ctt rfl rfl rfl rfl M4.out.oc Tryd.underlying25 rfl (cpu_size ML.out)) rfl ?_
      rw [HLD.out]
      exact ⟨⟨_, ML.out, rfl⟩, M4.out.below⟩
    | some v =>
      have HLD : Hid (ldR 22 xs l t = some v) := HE.out.trans (by rw [hr]; rfl)
      clear hr HE
      unfold loadE
      have i1 : w2.cell? ⟨w.heap.size + 1 + 1, 1, none⟩ = some (.int .u8 a) := M.out.i.cell 1 rfl
      go_wp2_with (refine load_blk 25 (.tmp 4) w.heap.size 25 (cpuC R pc) _ rfl rfl rfl M.out.c Tryd.underlying25 rfl (cpu_size RL.out) ?_; go_frame)
      refine (rset_any R pc a v _ RL.out ha).mono ?_
      rintro e w3 ⟨rfl, hb3⟩
      have M3 := Lib.hid (M.out.later hb3)
      clear hb3 i1
      have ML : Hid ((setN R a v).length = 16) := setN_len RL.out a _
      go_wp2_with (refine store_blk 25 (.tmp 8) (.tmp 71) (w.heap.size + 1 + 1 + 1) 25 zC (cpuC (setN R a v) pc) rfl rfl rfl rfl M3.out.oc (by rw [cpuC_size, ML.out]; rfl) (cpu_size ML.out) (cpuC_one _ _) ?_; intro w4 hr4 hg4; go_frame)
      have M4 := Lib.hid (M3.out.put hr4 hg4)
      refine bodyPost_ret (results_ctt rfl rfl rfl rfl M4.out.oc Tryd.underlying25 rfl (cpu_size ML.out)) rfl ?_
      rw [HLD.out]
      exact ⟨rfl, M4.out.below⟩
-- behind the loads
def stN (op : Nat) : Nat := if op = 24 then 1 else 4
theorem store_byte (xs : List ByteArray) (l : List Pte) (t v : Nat) : storeR xs l t 1 (v % 256) = storeR xs l t 1 v := by
  have : putL (v % 256) 1 = putL v 1 := by rw [putL_succ, putL_succ]; simp [putL]
  unfold storeR
  rw [this]
set_option maxHeartbeats 2000000 in
theorem rmem_store (R : List Nat) (pc : Nat) (l : List Pte) (A : Option Addr) (cA : Nat) (xs : List ByteArray) (op a b cc : Nat) (imm : Int) (w : World) (h1 : 23 ≤ op) (h2 : op ≤ 24) (hR : Regs R) (ha : a < 16) (hb : b < 16) (hl : l.length = 16) (hx : xs.length ≤ 1000000) (h : RowAt w w.heap.size A (xs.map .string)) (h0 : A = none → xs.length = 0 ∧ cA = 0) :
    Calls Tryd.prog 33 #[.agg (cpuC R pc), .agg (pteL l).toArray, .slice A xs.length cA, .agg (insC5 op a b cc imm)] w (StoPost R pc (storeR xs l ((R.getD b 0 + (imm % 4294967296).toNat) % 4294967296) (stN op) (R.getD a 0)) w) := by
  have HR := Lib.hid hR
  have HL := Lib.hid hl
  have HA := Lib.hid h
  have M0 : Hid (MSt w ((((w.alloc (.cells (cpuC R pc) 25)).alloc (.cells (pteL l).toArray 29)).alloc (.cells (insC5 op a b cc imm) 41)).alloc (.cells #[.int .u32 0, .int .u32 0, .int .u32 0, .int .u32 0, .int .u32 0, .int .u32 0, .int .u32 0, .int .u32 0, .int .u32 0, .int .u32 0, .int .u32 0, .int .u32 0, .int .u32 0, .int .u32 0, .int .u32 0, .int .u32 0, .int .u32 0] 25)) R pc l (insC5 op a b cc imm) zC) := mst_new w R pc l (insC5 op a b cc imm)
  have H0 := Lib.hid h0
  obtain ⟨va, hva⟩ : ∃ va, R.getD a 0 = va := ⟨_, rfl⟩
  have lva : va < 4294967296 := by rw [← hva]; exact hR.get a
  have HVA := Lib.hid hva
  have a16 : (a : Int) < 16 := by omega
  obtain ⟨vb, hvb⟩ : ∃ vb, R.getD b 0 = vb := ⟨_, rfl⟩
  obtain ⟨im, him⟩ : ∃ im, (imm % 4294967296).toNat = im := ⟨_, rfl⟩
  obtain ⟨t, ht⟩ : ∃ t, (vb + im) % 4294967296 = t := ⟨_, rfl⟩
  have e2 : imm % 4294967296 = (im : Nat) := by omega
  have e3 : IntKind.u32.wrap ((vb : Int) + (im : Int)) = (t : Int) := by rw [IntKind.wrap_u32]; omega
  have lvb : vb < 4294967296 := by rw [← hvb]; exact hR.get b
  have lt : t < 4294967296 := by omega
  have RL := Lib.hid hR.1
  have b16 : (b : Int) < 16 := by omega
  rw [hvb, him, ht, hva]
  have HVB := Lib.hid hvb
  clear hR hl h hvb him ht hva h0
  have hn := fun w => rnumber_any imm w
  rw [e2] at hn
  have CN := Lib.hid hn
  clear hn
  go_enter Tryd.func33, Tryd.ntmps33
  go_wp2
  generalize ((((w.alloc (.cells (cpuC R pc) 25)).alloc (.cells (pteL l).toArray 29)).alloc (.cells (insC5 op a b cc imm) 41)).alloc (.cells #[.int .u32 0, .int .u32 0, .int .u32 0, .int .u32 0, .int .u32 0, .int .u32 0, .int .u32 0, .int .u32 0, .int .u32 0, .int .u32 0, .int .u32 0, .int .u32 0, .int .u32 0, .int .u32 0, .int .u32 0, .int .u32 0, .int .u32 0] 25)) = w0 at *
  have p2 : ∀ u : Ext w0, u.val.cell? ⟨w.heap.size + 1 + 1, 2, none⟩ = some (.int .u8 b) := fun u => u.cell (M0.out.i.cell 2 rfl)
  have p4 : ∀ u : Ext w0, u.val.cell? ⟨w.heap.size + 1 + 1, 4, none⟩ = some (.int .i32 imm) := fun u => u.cell (M0.out.i.cell 4 rfl)
  have r2 : ∀ u : Ext w0, u.val.cell? ⟨w.heap.size, b, none⟩ = some (.int .u32 vb) := fun u => u.cell (by rw [M0.out.c.cell b (cpuC_reg (by rw [RL.out]; exact hb)), HVB.out])
  refine wp_region_ext (by kernel_rfl) (by kernel_rfl) ?_
  repeat (go_big_quiet_step (first
    | (go_at_call 30; with_reducible exact Ext.call_same (CN.out _))))
  refine wpQuiet_nil ?_
  rintro _ ⟨u, rfl⟩
  have M := Lib.hid (M0.out.later u.below)
  have RA := Lib.hid ((HA.out.below M.out.below).mono M.out.below.size)
  clear p2 p4 r2 M0
  generalize u.val = w1 at *
  clear u
  have i0 : w1.cell? ⟨w.heap.size + 1 + 1, 0, none⟩ = some (.int .u8 op) := M.out.i.cell 0 rfl
  obtain rfl | rfl : op = 23 ∨ op = 24 := by omega
  · have q1 : ∀ u : Ext w1, u.val.cell? ⟨w.heap.size + 1 + 1, 1, none⟩ = some (.int .u8 a) := fun u => u.cell (M.out.i.cell 1 rfl)
    have q2 : ∀ u : Ext w1, u.val.cell? ⟨w.heap.size, a, none⟩ = some (.int .u32 va) := fun u => u.cell (by rw [M.out.c.cell a (cpuC_reg (by rw [RL.out]; exact ha)), HVA.out])
    have CS := Lib.hid (fun w h => rstore_any A cA xs l t 4 va w hx h H0.out HL.out (.inr rfl) lt lva)
    go_wp2
    clear i0
    refine wp_region_waist 8 (by kernel_rfl) (by kernel_rfl) ?_
    simp only [List.take_succ_cons, List.take_zero, List.drop_succ_cons, List.drop_zero]
    repeat (first
      | go_big_quiet_step (fail)
      | (go_big_quiet_want; refine quiet_load_blk 29 (.tmp 5) (w.heap.size + 1) 29 (pteL l).toArray _ rfl rfl (by rintro _ ⟨u, rfl⟩; exact M.out.s.below u.below M.out.s.lt) Tryd.underlying29 rfl (space_size HL.out) ?_; go_frame; go_big_quiet_on))
    refine wpQuiet_nil ?_
    rintro _ ⟨u, rfl⟩
    have ub := Lib.hid u.below
    replace M := Lib.hid (M.out.later ub.out)
    replace RA := Lib.hid (RA.out.ext u)
    clear ub q1 q2
    generalize u.val = w5 at *
    clear u
    go_wp2_with fail
    refine (CS.out _ RA.out).mono ?_
    rintro e w6 hp
    clear CS
    cases hst : storeR xs l t 4 va with
    | none =>
      rw [hst] at hp
      have HLD : Hid (storeR xs l t (stN 23) va = none) := hst
      obtain ⟨rfl, hb6⟩ : e = .returned (.tuple #[.slice none 0 0, .bool false]) ∧ Below w5.heap.size w5 w6 := hp
      replace M := Lib.hid (M.out.later hb6)
      clear hb6 hst
      go_wp2
      repeat (go_big_quiet_step (fail))
      refine wpQuiet_nil ?_
      rintro _ ⟨u, rfl⟩
      have ub := Lib.hid u.below
      replace M := Lib.hid (M.out.later ub.out)
      clear ub RA
      generalize u.val = w7 at *
      clear u
      go_wp2_with (first
        | (refine load_blk 25 (.tmp 4) w.heap.size 25 (cpuC R pc) _ rfl rfl rfl M.out.c Tryd.underlying25 rfl (cpu_size RL.out) ?_; go_frame)
        | (refine store_blk 25 (.tmp 8) (.tmp 88) (w.heap.size + 1 + 1 + 1) 25 zC (cpuC R pc) rfl rfl rfl rfl M.out.oc (by rw [cpuC_size, RL.out]; rfl) (cpu_size RL.out) (cpuC_one _ _) ?_; intro w8 hr8 hg8; go_frame))
      have M4 := Lib.hid (M.out.put hr8 hg8)
      refine bodyPost_ret (results_ctt rfl rfl rfl rfl M4.out.oc Tryd.underlying25 rfl (cpu_size RL.out)) rfl ?_
      rw [HLD.out]
      exact ⟨rfl, M4.out.below⟩
    | some ys =>
      rw [hst] at hp
      have HLD : Hid (storeR xs l t (stN 23) va = some ys) := hst
      obtain ⟨g, cap, rfl, own, hb6⟩ : ∃ g c, e = .returned (.tuple #[.slice (some ⟨g, 0, none⟩) ys.length c, .bool true]) ∧ w6.ownsRow w5.heap.size 9 1 (.slice (some ⟨g, 0, none⟩) ys.length c) ys.length (ys.map .string) ∧ Below w5.heap.size w5 w6 := hp
      have hg5 : w5.heap.size ≤ g := own_row own g rfl
      have hoc5 := M.out.oc.lt
      have OWN := Lib.hid (own_base own M.out.below.size)
      replace M := Lib.hid (M.out.later hb6)
      clear hb6 hst own
      go_wp2
      repeat (go_big_quiet_step (fail))
      refine wpQuiet_nil ?_
      rintro _ ⟨u, rfl⟩
      have ub := Lib.hid u.below
      replace M := Lib.hid (M.out.later ub.out)
      replace OWN := Lib.hid (own_below OWN.out ub.out)
      clear ub RA
      generalize u.val = w7 at *
      clear u
      go_wp2_with (first
        | (refine load_blk 25 (.tmp 4) w.heap.size 25 (cpuC R pc) _ rfl rfl rfl M.out.c Tryd.underlying25 rfl (cpu_size RL.out) ?_; go_frame)
        | (refine store_blk 25 (.tmp 8) (.tmp 88) (w.heap.size + 1 + 1 + 1) 25 zC (cpuC R pc) rfl rfl rfl rfl M.out.oc (by rw [cpuC_size, RL.out]; rfl) (cpu_size RL.out) (cpuC_one _ _) ?_; intro w8 hr8 hg8; go_frame))
      have M4 := Lib.hid (M.out.put hr8 hg8)
      refine bodyPost_ret (results_ctt rfl rfl rfl rfl M4.out.oc Tryd.underlying25 rfl (cpu_size RL.out)) rfl ?_
      rw [HLD.out]
      exact ⟨⟨g, cap, rfl, OWN.out.kept hg8 (.inr (fun e => by have e2 : g = w.heap.size + 1 + 1 + 1 := Option.some.inj e; omega))⟩, M4.out.below⟩
  · have q1 : ∀ u : Ext w1, u.val.cell? ⟨w.heap.size + 1 + 1, 1, none⟩ = some (.int .u8 a) := fun u => u.cell (M.out.i.cell 1 rfl)
    have q2 : ∀ u : Ext w1, u.val.cell? ⟨w.heap.size, a, none⟩ = some (.int .u32 va) := fun u => u.cell (by rw [M.out.c.cell a (cpuC_reg (by rw [RL.out]; exact ha)), HVA.out])
    obtain ⟨vc, hvc⟩ : ∃ vc, va % 256 = vc := ⟨_, rfl⟩
    have e5 : (va : Int).tmod 256 = (vc : Int) := by rw [Int.tmod_eq_emod_of_nonneg (by omega)]; omega
    have lvc : vc < 4294967296 := by omega
    have HSP : Hid (storeR xs l t 1 va = storeR xs l t 1 vc) := by show _ = _; rw [← hvc]; exact (store_byte xs l t va).symm
    clear hvc
    have CS := Lib.hid (fun w h => rstore_any A cA xs l t 1 vc w hx h H0.out HL.out (.inl rfl) lt lvc)
    go_wp2
    clear i0
    refine wp_region_waist 9 (by kernel_rfl) (by kernel_rfl) ?_
    simp only [List.take_succ_cons, List.take_zero, List.drop_succ_cons, List.drop_zero]
    repeat (first
      | go_big_quiet_step (fail)
      | (go_big_quiet_want; refine quiet_load_blk 29 (.tmp 5) (w.heap.size + 1) 29 (pteL l).toArray _ rfl rfl (by rintro _ ⟨u, rfl⟩; exact M.out.s.below u.below M.out.s.lt) Tryd.underlying29 rfl (space_size HL.out) ?_; go_frame; go_big_quiet_on))
    refine wpQuiet_nil ?_
    rintro _ ⟨u, rfl⟩
    have ub := Lib.hid u.below
    replace M := Lib.hid (M.out.later ub.out)
    replace RA := Lib.hid (RA.out.ext u)
    clear ub q1 q2
    generalize u.val = w5 at *
    clear u
    go_wp2_with fail
    refine (CS.out _ RA.out).mono ?_
    rintro e w6 hp
    clear CS
    cases hst : storeR xs l t 1 vc with
    | none =>
      rw [hst] at hp
      have HLD : Hid (storeR xs l t (stN 24) va = none) := (HSP.out).trans hst
      obtain ⟨rfl, hb6⟩ : e = .returned (.tuple #[.slice none 0 0, .bool false]) ∧ Below w5.heap.size w5 w6 := hp
      replace M := Lib.hid (M.out.later hb6)
      clear hb6 hst
      go_wp2
      repeat (go_big_quiet_step (fail))
      refine wpQuiet_nil ?_
      rintro _ ⟨u, rfl⟩
      have ub := Lib.hid u.below
      replace M := Lib.hid (M.out.later ub.out)
      clear ub RA
      generalize u.val = w7 at *
      clear u
      go_wp2_with (first
        | (refine load_blk 25 (.tmp 4) w.heap.size 25 (cpuC R pc) _ rfl rfl rfl M.out.c Tryd.underlying25 rfl (cpu_size RL.out) ?_; go_frame)
        | (refine store_blk 25 (.tmp 8) (.tmp 104) (w.heap.size + 1 + 1 + 1) 25 zC (cpuC R pc) rfl rfl rfl rfl M.out.oc (by rw [cpuC_size, RL.out]; rfl) (cpu_size RL.out) (cpuC_one _ _) ?_; intro w8 hr8 hg8; go_frame))
      have M4 := Lib.hid (M.out.put hr8 hg8)
      refine bodyPost_ret (results_ctt rfl rfl rfl rfl M4.out.oc Tryd.underlying25 rfl (cpu_size RL.out)) rfl ?_
      rw [HLD.out]
      exact ⟨rfl, M4.out.below⟩
    | some ys =>
      rw [hst] at hp
      have HLD : Hid (storeR xs l t (stN 24) va = some ys) := (HSP.out).trans hst
      obtain ⟨g, cap, rfl, own, hb6⟩ : ∃ g c, e = .returned (.tuple #[.slice (some ⟨g, 0, none⟩) ys.length c, .bool true]) ∧ w6.ownsRow w5.heap.size 9 1 (.slice (some ⟨g, 0, none⟩) ys.length c) ys.length (ys.map .string) ∧ Below w5.heap.size w5 w6 := hp
      have hg5 : w5.heap.size ≤ g := own_row own g rfl
      have hoc5 := M.out.oc.lt
      have OWN := Lib.hid (own_base own M.out.below.size)
      replace M := Lib.hid (M.out.later hb6)
      clear hb6 hst own
      go_wp2
      repeat (go_big_quiet_step (fail))
      refine wpQuiet_nil ?_
      rintro _ ⟨u, rfl⟩
      have ub := Lib.hid u.below
      replace M := Lib.hid (M.out.later ub.out)
      replace OWN := Lib.hid (own_below OWN.out ub.out)
      clear ub RA
      generalize u.val = w7 at *
      clear u
      go_wp2_with (first
        | (refine load_blk 25 (.tmp 4) w.heap.size 25 (cpuC R pc) _ rfl rfl rfl M.out.c Tryd.underlying25 rfl (cpu_size RL.out) ?_; go_frame)
        | (refine store_blk 25 (.tmp 8) (.tmp 104) (w.heap.size + 1 + 1 + 1) 25 zC (cpuC R pc) rfl rfl rfl rfl M.out.oc (by rw [cpuC_size, RL.out]; rfl) (cpu_size RL.out) (cpuC_one _ _) ?_; intro w8 hr8 hg8; go_frame))
      have M4 := Lib.hid (M.out.put hr8 hg8)
      refine bodyPost_ret (results_ctt rfl rfl rfl rfl M4.out.oc Tryd.underlying25 rfl (cpu_size RL.out)) rfl ?_
      rw [HLD.out]
      exact ⟨⟨g, cap, rfl, OWN.out.kept hg8 (.inr (fun e => by have e2 : g = w.heap.size + 1 + 1 + 1 := Option.some.inj e; omega))⟩, M4.out.below⟩
end Go.Proofs.YtcjakmnplkeldaaDoor
