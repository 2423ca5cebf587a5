/-
  Joined in one text: RExtP, RExtTk, IntRow, RExtPc, FrameOf, RPlc, RPli.
-/
import Derived.Test.YtoanladhikdcaaaGreatRExtD
import Derived.RegionTactic
import Derived.BigRegion
import Derived.Test.YtoanladhikdcaaaGreatRGeomU
import Derived.Test.YtoanladhikdcaaaGreatInfra
import Derived.ArgAppend
import Derived.BigQuiet
namespace Go.Proofs.YtoanladhikdcaaaGreat
open Go.RowKit
set_option linter.unusedVariables false
set_option linter.unusedSimpArgs false
set_option maxRecDepth 100000
set_option maxHeartbeats 1000000 in
theorem rwith_any (A : Option Addr) (c : Nat) (xs : List ByteArray) (i : Nat) (s : ByteArray) (w : World) (hi : i < xs.length) (hx : xs.length ≤ 1000000) (h : RowAt w w.heap.size A (xs.map .string)) :
    Calls Tryz.prog 45 #[.slice A xs.length c, .int .i64 i, .string s] w fun e w' => ∃ v, e = .returned v ∧ OwnRow (xs.set i s) w v w' ∧ Below w.heap.size w w' := by
  obtain ⟨i0, q1, q2, q3, q4⟩ := info_parts str_info
  obtain ⟨b, o, rfl, hb, hc⟩ := h.at_ (by simp; omega)
  have I0 := Lib.hid (And.intro q1 (And.intro q2 (And.intro q3 q4)))
  have B0 : Hid (Below w.heap.size w (w.alloc (.cells #[] 9))) := (Below.refl w.heap.size w).alloc (Nat.le_refl _) _
  have HC : Hid (∀ j u, (xs.map Value.string)[j]? = some u → (w.alloc (.cells #[] 9)).cell? ((⟨b, o, none⟩ : Addr).add j) = some u) := fun j u hu => by
    have : (⟨b, o, none⟩ : Addr).add j = ⟨b, o + j, none⟩ := by unfold Addr.add; split <;> simp_all
    rw [this]; exact (B0.out.cell (p := ⟨b, o + j, none⟩) hb).trans (hc j u hu)
  have H1 := Lib.hid (str_cells xs)
  have HW : Hid ((w.alloc (.cells #[] 9)).ownsRow w.heap.size 9 1 (.slice (some ⟨w.heap.size, 0, none⟩) 0 0) 0 []) := World.ownsRow_lit w #[] 0 (Nat.le_refl _) (by decide) rfl
  have HM : Hid (0 + xs.length ≤ maxLen) := by show _ ≤ _; unfold maxLen; omega
  have HY : Hid ((0 + xs.length) * 16 ≤ 140737488355328) := by show _ ≤ _; omega
  clear h hc q1 q2 q3 q4
  go_enter Tryz.func45, Tryz.ntmps45
  go_wp2_with (at_builtin; refine wpList_append_own _ rfl (.tmp 8) (.tmp 9) 22 rfl w.heap.size 9 i0 (.string ⟨#[]⟩) 1 16 Tryz.underlying22 I0.out.1 I0.out.2.1 I0.out.2.2.1 I0.out.2.2.2 rfl (by decide) _ 0 [] rfl HW.out ⟨b, o, none⟩ xs.length c (xs.map .string) rfl (by rw [List.length_map, Nat.mul_one]) HC.out H1.out HM.out HY.out B0.out.size ?_; intro v w1 own hg hv)
  rw [Nat.zero_add, List.nil_append] at own
  obtain ⟨g, cap, rfl⟩ := Go.Joins.ownsRow_form own (by omega)
  have O1 := Lib.hid own
  have B1 := Lib.hid (B0.out.grown hg B0.out.size (by intro k hk; cases hk; exact Nat.le_refl _))
  have hgb : w.heap.size ≤ g := (own.lt g rfl).1
  have k1 : w1.cell? ⟨g, i, none⟩ = some (.string xs[i]) := by
    rw [own.cellAt i (by omega)]; simp [hi]
  have k2 : w1.frozen? ⟨g, i, none⟩ = false := own.frozenAt i
  have k3 : (i : Int) < (xs.length : Int) := by omega
  have k4 : (0 : Int) ≤ (i : Int) := by omega
  clear own hg hv HW B0 HC
  clear HM HY H1 I0
  go_wp2_with fail
  go_simp
  (first | assumption | go_wp2)
  go_ret
  refine ⟨_, rfl, ?_, B1.out.setCell hgb _⟩
  have := (O1.out.stored i (.string s)).1
  unfold OwnRow
  rwa [List.length_set, List.map_set]
set_option maxHeartbeats 2000000 in
theorem rput19_any (s : ByteArray) (p k : Nat) (w : World) (hs : s.size = 128) (p2 : p + 2 ≤ 128) (hkk : k ≤ 65535) :
    Calls Tryz.prog 77 #[.string s, .int .i64 (p : Int), .int .i64 (k : Int)] w fun e w' => e = .returned (.string (layB s p (putL k 2))) ∧ Below w.heap.size w w' := by
  obtain ⟨ra, hra⟩ : ∃ ra, k % 256 = ra := ⟨_, rfl⟩
  obtain ⟨qa, hqa⟩ : ∃ qa, k / 256 = qa := ⟨_, rfl⟩
  have ra2 : ra < 256 := by omega
  have qa2 : qa < 256 := by omega
  obtain ⟨st, hst⟩ : ∃ st : ByteArray, (⟨#[UInt8.ofNat ra, UInt8.ofNat qa]⟩ : ByteArray) = st := ⟨_, rfl⟩
  have hstl : st.data.toList = putL k 2 := by
    rw [← hst, putL_succ, putL_succ, hra, hqa, Nat.mod_eq_of_lt qa2]; rfl
  have hst2 : st.size = 2 := by rw [← hst]; rfl
  have HLAY : Hid (layB s p (putL k 2) = s.extract 0 p ++ st ++ s.extract (p + 2) s.size) := by
    show _ = _
    apply WideShapes.bytes_inj
    have e1 := Lib.extract_data s 0 p
    have e2 : (s.extract (p + 2) s.size).data.toList = s.data.toList.drop (p + 2) := by
      rw [Lib.extract_data, List.take_of_length_le]
      rw [List.length_drop, Array.length_toList]; exact Nat.le_refl _
    rw [layB_list, putL_length]
    simp only [ByteArray.data_append, Array.toList_append, e1, e2, List.drop_zero, Nat.sub_zero, hstl]
  have HCV : Hid (∀ (w : World) (g : Nat), Blk w g 5 #[.int .u8 (ra : Int), .int .u8 (qa : Int)] → (convert 58 9 (.slice (some ⟨g, 0, none⟩) 2 2)).run Tryz.prog w = .ok (.string st) w) := fun w g hb => by
    rw [← hst]
    refine conv_blk (P := Tryz.prog) (t := 5) 2 ?_ rfl 2 Tryz.underlying58 Tryz.underlying5 Tryz.underlying9
    have e1 : (UInt8.ofNat ra).toNat = ra := by rw [UInt8.toNat_ofNat']; exact Nat.mod_eq_of_lt (by omega)
    have e2 : (UInt8.ofNat qa).toNat = qa := by rw [UInt8.toNat_ofNat']; exact Nat.mod_eq_of_lt (by omega)
    rw [show ((⟨#[UInt8.ofNat ra, UInt8.ofNat qa]⟩ : ByteArray).data.toList.map fun x => Value.int .u8 (x.toNat : Int)).toArray = #[.int .u8 (ra : Int), .int .u8 (qa : Int)] by simp [e1, e2]]
    exact hb
  have ze : ∀ a b, a ≤ b → b ≤ 128 → (s.extract a b).size = b - a := fun a b h1 h2 => by rw [ByteArray.size_extract]; omega
  have ad1 := fun (w : World) => run_string_add_sum (P := Tryz.prog) (w := w) (s.extract 0 p) st (by rw [ze 0 p (by omega) (by omega)]; omega)
  have ad2 := fun (w : World) => run_string_add_sum (P := Tryz.prog) (w := w) (s.extract 0 p ++ st) (s.extract (p + 2) s.size) (by rw [ByteArray.size_append, ze 0 p (by omega) (by omega), ze (p + 2) s.size (by omega) (by omega)]; omega)
  have t1 : (k : Int).tmod 256 = (ra : Int) := by rw [← hra]; rfl
  have t2 : (k : Int).tdiv 256 = (qa : Int) := by rw [← hqa]; rfl
  have t3 : (k : Int) % 256 = (ra : Int) := by omega
  have t4 : (k : Int) / 256 = (qa : Int) := by omega
  have t5 : IntKind.u8.wrap (ra : Int) = (ra : Int) := IntWalk.u8_in _ (by omega)
  have t6 : IntKind.u8.wrap (qa : Int) = (qa : Int) := IntWalk.u8_in _ (by omega)
  have t7 : IntKind.i64.wrap (ra : Int) = (ra : Int) := IntWalk.i64_in _ (by omega)
  have t8 : IntKind.i64.wrap (qa : Int) = (qa : Int) := IntWalk.i64_in _ (by omega)
  have s1 : IntKind.i64.wrap ((p : Int) + 2) = (p : Int) + 2 := IntWalk.i64_in _ (by omega)
  have s2 : (0 : Int) ≤ (p : Int) + 2 := by omega
  have s3 : ((p : Int) + 2).toNat = p + 2 := by omega
  have s4 : (p : Int) ≤ (s.size : Int) := by omega
  have s5 : (p : Int) + 2 ≤ (s.size : Int) := by omega
  have s6 : (0 : Int) ≤ (p : Int) := by omega
  have hcv := HCV.out (w.alloc (.cells #[.int .u8 (ra : Int), .int .u8 (qa : Int)] 5)).drew w.heap.size (Blk.new w 5 _).drew
  clear hst ze hstl hs hra hqa
  go_enter Tryz.func77, Tryz.ntmps77
  go_wp2
  go_region
  go_wp2
  go_ret
  exact ⟨by rw [HLAY.out]; rfl, ((Below.refl _ _).alloc (Nat.le_refl _) _).drew⟩
end Go.Proofs.YtoanladhikdcaaaGreat

namespace Go.Proofs.YtoanladhikdcaaaGreat
open Go.RowKit
set_option linter.unusedVariables false
set_option linter.unusedSimpArgs false
set_option maxRecDepth 100000
theorem wp_of_list {P : Program} {ops : Array Oper} {Q : Exit → Act → World → Prop} {o : Oper} {a : Act} {w : World} {K : Act → World → Prop} (hg : o.guard = none) (h : wpList P ops (Exit.then K noX) [o] a w) : o.wp P a w K Q := by
  simp only [wpList] at h
  rw [show Region.wanted o (yielded ops a.tmps) = true by unfold Region.wanted; rw [hg]] at h
  simp only [if_true] at h
  rcases h with h | ⟨_, _, _, hF⟩
  · unfold Oper.wp at *
    generalize (execOp a.eval o).run P w = r at *
    cases r with
    | ok n w' =>
      cases n <;> simp only [Oper.upon] at h ⊢
      case enter f args =>
        exact Calls.mono h (fun e w'' he => by
          cases e with
          | returned u => exact he
          | panicked c => exact he.elim
          | outgrown => obtain ⟨_, _, hF⟩ := he; exact hF.elim)
      all_goals exact h
    | halt x w' => cases x <;> simp only [Oper.upon] at h <;> exact h.elim
  · exact hF.elim
theorem notDstN {l : List Oper} {n t : Nat} (h : (l.take n).all (fun o => o.dst != some t) = true) : ∀ (j : Nat) (oj : Oper), j < n → l[j]? = some oj → oj.dst ≠ some t := fun j oj hjn hj => by
  have := List.all_eq_true.1 h oj (List.mem_of_getElem? (show (l.take n)[j]? = some oj by rw [List.getElem?_take, if_pos hjn]; exact hj))
  simpa using this
theorem notDst {l : List Oper} {t : Nat} (h : l.all (fun o => o.dst != some t) = true) : ∀ (j : Nat) (oj : Oper), l.toArray[j]? = some oj → oj.dst ≠ some t := fun j oj hj => by
  have := List.all_eq_true.1 h oj (List.mem_of_getElem? (by simpa using hj))
  simpa using this
/-- what take, place and drop hand back: blocks, an inode, a number, a code -/
def plcL (sl : Value) (l : List Nat) (b code : Int) : List Value := sl :: (l.map (fun k : Nat => Value.int .i64 (k : Int)) ++ [.int .i64 b, .int .i64 code])
def plcC (sl : Value) (l : List Nat) (b code : Int) : Array Value := (plcL sl l b code).toArray
theorem plcC_one (sl : Value) (l : List Nat) (b code : Int) (h : sl.oneCell' = true) : ∀ v ∈ plcC sl l b code, v.oneCell' = true := by
  intro v hv
  unfold plcC plcL at hv
  simp at hv
  rcases hv with rfl | ⟨k, _, rfl⟩ | rfl | rfl
  · exact h
  all_goals rfl
theorem plcC_size (sl : Value) {l : List Nat} (b code : Int) (h : l.length = 12) : (plcC sl l b code).size = 15 := by unfold plcC plcL; simp [h]
theorem plcC_info (sl : Value) {l : List Nat} (b code : Int) (h : l.length = 12) : (Tryz.prog.info? 85).map (·.size) = some (plcC sl l b code).size := by rw [plcC_size sl b code h]; kernel_rfl
def PlcPost (r : Option ((List ByteArray × List Nat) × Nat)) (w : World) (e : Ending) (w' : World) : Prop := Below w.heap.size w w' ∧
  match r with
  | none => e = .returned (.agg (plcC (.slice none 0 0) (List.replicate 12 0) 0 10))
  | some s => ∃ v, e = .returned (.agg (plcC v s.1.2 (s.2 : Nat) 0)) ∧ OwnRow s.1.1 w v w'
def takS (B : Nat) (A : Option Addr) (c : Nat) (ys zs : List ByteArray) (l : List Nat) (b : Nat) (i : Nat) (v : Value) (w : World) : Prop :=
  match i with
  | 0 => v = .slice A ys.length c
  | 1 => v = .int .i64 (b : Int)
  | 2 => ∃ g, v = .slice (some ⟨g, 0, none⟩) 128 128 ∧ Blk w g 5 (Array.replicate 128 (.int .u8 0))
  | 3 => v = .string (zerosB 128)
  | 4 => w.ownsRow B 9 1 v zs.length (zs.map .string)
  | 5 => v = .agg (inoC l)
  | 6 => v = .int .i64 (b : Int)
  | 7 => ∃ x, v = .agg (plcC x l (b : Int) 0) ∧ w.ownsRow B 9 1 x zs.length (zs.map .string)
  | _ => True
theorem takS_mono (B : Nat) (A : Option Addr) (c : Nat) (ys zs : List ByteArray) (l : List Nat) (b i : Nat) (v : Value) (w w' : World) (h : takS B A c ys zs l b i v w) (hb : Below w.heap.size w w') : takS B A c ys zs l b i v w' := by
  unfold takS at h ⊢
  split at h <;> first
    | exact h
    | exact own_below h hb
    | (obtain ⟨g, hv, hg⟩ := h; first | exact ⟨g, hv, hg.below hb hg.lt⟩ | exact ⟨g, hv, own_below hg hb⟩)
    | trivial
set_option maxHeartbeats 4000000 in
theorem rtake19_any (A : Option Addr) (c : Nat) (xs : List ByteArray) (m : Nat) (l : List Nat) (w : World) (hv : IsVol xs m) (hl : FitN l) (h : RowAt w w.heap.size A (xs.map .string)) :
    Calls Tryz.prog 76 #[.slice A xs.length c, .agg (inoC l)] w (PlcPost ((takX xs m).map fun r => ((r.1, l), r.2)) w) := by
  have hvl := hv.len
  have HZ : Hid ((#[.slice none 0 0, .int .i64 0, .int .i64 0, .int .i64 0, .int .i64 0, .int .i64 0, .int .i64 0, .int .i64 0, .int .i64 0, .int .i64 0, .int .i64 0, .int .i64 0, .int .i64 0, .int .i64 0, .int .i64 0] : Array Value) = plcC (.slice none 0 0) (List.replicate 12 0) 0 0) := rfl
  have I0 := ((Below.refl w.heap.size w).alloc (Nat.le_refl _) (.cells (inoC l) 35)).alloc (by simp) (.cells #[.slice none 0 0, .int .i64 0, .int .i64 0, .int .i64 0, .int .i64 0, .int .i64 0, .int .i64 0, .int .i64 0, .int .i64 0, .int .i64 0, .int .i64 0, .int .i64 0, .int .i64 0, .int .i64 0, .int .i64 0] 85)
  have GI := Lib.hid ((Blk.new w 35 (inoC l)).alloc (.cells #[.slice none 0 0, .int .i64 0, .int .i64 0, .int .i64 0, .int .i64 0, .int .i64 0, .int .i64 0, .int .i64 0, .int .i64 0, .int .i64 0, .int .i64 0, .int .i64 0, .int .i64 0, .int .i64 0, .int .i64 0] 85))
  have GP : Hid (Blk ((w.alloc (.cells (inoC l) 35)).alloc (.cells #[.slice none 0 0, .int .i64 0, .int .i64 0, .int .i64 0, .int .i64 0, .int .i64 0, .int .i64 0, .int .i64 0, .int .i64 0, .int .i64 0, .int .i64 0, .int .i64 0, .int .i64 0, .int .i64 0, .int .i64 0] 85)) (w.heap.size + 1) 85 #[.slice none 0 0, .int .i64 0, .int .i64 0, .int .i64 0, .int .i64 0, .int .i64 0, .int .i64 0, .int .i64 0, .int .i64 0, .int .i64 0, .int .i64 0, .int .i64 0, .int .i64 0, .int .i64 0, .int .i64 0]) := by
    have := Blk.new (w.alloc (.cells (inoC l) 35)) 85 #[.slice none 0 0, .int .i64 0, .int .i64 0, .int .i64 0, .int .i64 0, .int .i64 0, .int .i64 0, .int .i64 0, .int .i64 0, .int .i64 0, .int .i64 0, .int .i64 0, .int .i64 0, .int .i64 0, .int .i64 0]
    rw [World.size_alloc] at this
    exact this
  have B0 := Lib.hid I0
  have R0 := Lib.hid ((h.below I0).mono I0.size)
  have HIN := Lib.hid (ino_info12 hl.1)
  have HL := Lib.hid hl
  have CT := Lib.hid (rtake_any A c xs _ (by omega) R0.out)
  unfold RTakePost at CT
  rw [ofR_some.2 hv] at CT
  dsimp only at CT
  have CW := Lib.hid (fun A c (ys : List ByteArray) i s w (hi : i < ys.length) hx h => rwith_any A c ys i s w hi hx h)
  have HLN : Hid (xs.length ≤ 223) := hvl.2.1
  clear I0 h
  unfold takX
  cases hf : freeR xs m with
  | none =>
    rw [hf] at CT
    dsimp only at CT
    go_enter Tryz.func76, Tryz.ntmps76
    go_wp2_with fail
    generalize World.alloc _ _ = w0 at *
    refine CT.out.mono ?_
    rintro e w1 ⟨hb1, rfl⟩
    have B1 := Lib.hid (B0.out.trans (hb1.mono B0.out.size))
    have G1 := Lib.hid (GP.out.below hb1 GP.out.lt)
    clear hb1 CT
    go_wp2_with (refine store_blk 85 (.tmp 4) (.tmp 17) (w.heap.size + 1) 85 #[.slice none 0 0, .int .i64 0, .int .i64 0, .int .i64 0, .int .i64 0, .int .i64 0, .int .i64 0, .int .i64 0, .int .i64 0, .int .i64 0, .int .i64 0, .int .i64 0, .int .i64 0, .int .i64 0, .int .i64 0] (plcC (.slice none 0 0) (List.replicate 12 0) 0 10) rfl rfl rfl rfl G1.out rfl (by kernel_rfl) (by decide) ?_; intro w2 hr2 hg2)
    refine bodyPost_ret (results_cell_row rfl _ _ (w.heap.size + 1) _ _ (0, 0) _ rfl hr2 Tryz.underlying85 rfl (by kernel_rfl)) rfl ⟨?_, rfl⟩
    exact B1.out.grown hg2 B1.out.size (fun j e => by cases e; omega)
  | some i =>
    rw [hf] at CT
    dsimp only at CT
    have hi := ((freeR_some (by omega)).1 hf).2.1
    obtain ⟨zs, hzs⟩ : ∃ zs, (takeV xs i).set i (zerosB 128) = zs := ⟨_, rfl⟩
    have HZS : Hid (zs = takeV xs i) := by show _ = _; rw [← hzs]; unfold takeV; rw [List.set_set]
    have HYL : Hid ((takeV xs i).length = xs.length) := takeV_length _ _
    have HI : Hid (i < xs.length) := hi
    have i223 : i < 223 := by omega
    clear hf hi
    go_enter Tryz.func76, Tryz.ntmps76
    go_wp2_with fail
    generalize World.alloc _ _ = w0 at *
    refine CT.out.mono ?_
    rintro e w1 ⟨hb1, v, rfl, hn⟩
    obtain ⟨A1, c1, rfl, hr1⟩ := OwnRow.read hn
    have B1 := Lib.hid (B0.out.trans (hb1.mono B0.out.size))
    have G1 := Lib.hid (GP.out.below hb1 GP.out.lt)
    have GI1 := Lib.hid (GI.out.below hb1 GI.out.lt)
    have R1 := Lib.hid hr1
    clear hb1 CT hn hr1
    have HSET := Lib.hid hzs
    generalize hty : takeV xs i = ys at *
    have HTY := Lib.hid hty
    clear hzs hty
    go_wp2_with fail
    refine wp_region_inv 8 (takS w.heap.size A1 c1 ys zs l i) (by kernel_rfl) (by kernel_rfl) (takS_mono w.heap.size A1 c1 ys zs l i) ?_ ?_
    · intro j o a' w' hj ho hb hag
      have ev : ∀ t, Operand.tmp t ∈ o.op.operands → ∀ (j : Nat) (oj : Oper), _ → oj.dst = some t → takS w.heap.size A1 c1 ys zs l i j (a'.eval (.tmp t)) w' := fun t ht j oj hj hd => (hag t ht).1 j oj hj hd
      have eb : ∀ t, Operand.tmp t ∈ o.op.operands → _ → a'.eval (.tmp t) = _ := fun t ht h => (hag t ht).2 h
      obtain rfl | rfl | rfl | rfl | rfl | rfl | rfl | rfl : j = 0 ∨ j = 1 ∨ j = 2 ∨ j = 3 ∨ j = 4 ∨ j = 5 ∨ j = 6 ∨ j = 7 := by omega
      · cases ho
        have e5 := eb 5 (by simp [Op.operands]) (notDst rfl)
        refine step_val (v := .slice A1 ys.length c1) (w' := w') ?_ rfl (Below.refl _ _)
        unfold execOp
        simp only [e5, Sem.run_pure]
        rfl
      · cases ho
        have e6 := eb 6 (by simp [Op.operands]) (notDst rfl)
        refine step_val (v := .int .i64 (i : Int)) (w' := w') ?_ rfl (Below.refl _ _)
        unfold execOp
        simp only [e6, Sem.run_pure]
        rfl
      · cases ho
        obtain ⟨i0, q1, q2, q3, q4⟩ := info_parts u8_info
        refine wp_of_list (ops := #[]) rfl (make_blk 58 _ _ 5 i0 (.int .u8 0) 128 128 128 rfl rfl Tryz.underlying58 q1 q2 q3 rfl rfl rfl rfl rfl (by rw [q4]; decide) (by decide) ?_)
        intro w2 hg2 hgr2
        exact ⟨_, rfl, ⟨_, rfl, hg2⟩, (Below.refl _ _).grown hgr2 (Nat.le_refl _) (fun k hk => by cases hk)⟩
      · cases ho
        obtain ⟨g, e14, hg⟩ := ev 20 (by simp [Op.operands]) 2 _ rfl rfl
        refine step_val (v := .string (zerosB 128)) (w' := w') ?_ rfl (Below.refl _ _)
        have := run_convert_bytes_arg (P := Tryz.prog) w' 58 5 Tryz.underlying58 Tryz.underlying5 g 0 128 128 (List.replicate 128 0) (by simp) (fun i hi => by
          rw [Nat.zero_add]
          refine hg.cell i ?_
          rw [Array.getElem?_replicate, if_pos hi, List.getD_eq_getElem?_getD, List.getElem?_replicate, if_pos hi]; rfl) 9 Tryz.underlying9
        unfold execOp
        simp only [e14]
        rw [Sem.run_bind, this]
        rw [show strOfNums (List.replicate 128 0) = zerosB 128 by decide]
        rfl
      · cases ho
        have e18 : a'.eval (.tmp 18) = .slice A1 ys.length c1 := ev 18 (by simp [Op.operands, Call.operands]) 0 _ rfl rfl
        have e19 : a'.eval (.tmp 19) = .int .i64 (i : Int) := ev 19 (by simp [Op.operands, Call.operands]) 1 _ rfl rfl
        have e21 : a'.eval (.tmp 21) = .string (zerosB 128) := ev 21 (by simp [Op.operands, Call.operands]) 3 _ rfl rfl
        refine step_call (f := 45) (args := #[.slice A1 ys.length c1, .int .i64 (i : Int), .string (zerosB 128)]) ?_ ?_
        · unfold execOp
          have e18' : a'.tmps[18]?.getD undef = .slice A1 ys.length c1 := by rw [← Array.getD_eq_getD_getElem?]; exact e18
          have e19' : a'.tmps[19]?.getD undef = .int .i64 (i : Int) := by rw [← Array.getD_eq_getD_getElem?]; exact e19
          have e21' : a'.tmps[21]?.getD undef = .string (zerosB 128) := by rw [← Array.getD_eq_getD_getElem?]; exact e21
          simp [go_sem, e18', e19', e21']
        · refine (CW.out A1 c1 ys i (zerosB 128) w' (by rw [HYL.out]; exact HI.out) (by rw [HYL.out]; have := HLN.out; omega) ((R1.out.below hb).mono hb.size)).mono ?_
          rintro e w2 ⟨v, he, hn, hb2⟩
          rw [HSET.out] at hn
          exact ⟨v, he, own_low hn (by have := B1.out.size; have := hb.size; omega), hb2⟩
      · cases ho
        have e3 : a'.eval (.tmp 3) = .pointer (some ⟨w.heap.size, 0, none⟩) := eb 3 (by simp [Op.operands]) (notDst rfl)
        refine wp_of_list (ops := #[]) rfl (load_blk 35 (.tmp 3) w.heap.size 35 (inoC l) _ rfl rfl e3 (GI1.out.below hb GI1.out.lt) Tryz.underlying35 rfl HIN.out ?_)
        exact ⟨_, rfl, rfl, Below.refl _ _⟩
      · cases ho
        have e6 := eb 6 (by simp [Op.operands]) (notDst rfl)
        refine step_val (v := .int .i64 (i : Int)) (w' := w') ?_ rfl (Below.refl _ _)
        unfold execOp
        simp only [e6, Sem.run_pure]
        rfl
      · cases ho
        have e22 := ev 22 (by simp [Op.operands]) 4 _ rfl rfl
        have e23 : a'.eval (.tmp 23) = .agg (inoC l) := ev 23 (by simp [Op.operands]) 5 _ rfl rfl
        have e24 : a'.eval (.tmp 24) = .int .i64 (i : Int) := ev 24 (by simp [Op.operands]) 6 _ rfl rfl
        have e22' : w'.ownsRow w.heap.size 9 1 (a'.eval (.tmp 22)) zs.length (zs.map .string) := e22
        obtain ⟨g', cap', hx⟩ := Go.Joins.ownsRow_form e22' (by rw [HZS.out, HYL.out]; omega)
        rw [hx] at e22'
        refine step_val (v := .agg (plcC (.slice (some ⟨g', 0, none⟩) zs.length cap') l (i : Int) 0)) (w' := w') ?_ ⟨_, rfl, e22'⟩ (Below.refl _ _)
        obtain ⟨a0, a1, a2, a3, a4, a5, a6, a7, a8, a9, a10, a11, rfl⟩ := len12 HL.out.1
        unfold execOp
        simp only [List.map_toArray, List.map_cons, List.map_nil, hx, e23, e24]
        rw [show plcC (.slice (some ⟨g', 0, none⟩) zs.length cap') [a0, a1, a2, a3, a4, a5, a6, a7, a8, a9, a10, a11] (i : Int) 0 = #[.slice (some ⟨g', 0, none⟩) zs.length cap', .int .i64 (a0 : Int), .int .i64 (a1 : Int), .int .i64 (a2 : Int), .int .i64 (a3 : Int), .int .i64 (a4 : Int), .int .i64 (a5 : Int), .int .i64 (a6 : Int), .int .i64 (a7 : Int), .int .i64 (a8 : Int), .int .i64 (a9 : Int), .int .i64 (a10 : Int), .int .i64 (a11 : Int), .int .i64 (i : Int), .int .i64 0] from rfl]
        unfold inoC
        simp only [List.map_cons, List.map_nil]
        go_simp
    · intro a' w' hb hdf hsz hsp hrest
      have e4 : a'.eval (.tmp 4) = .pointer (some ⟨w.heap.size + 1, 0, none⟩) := getD_of_get (hrest 4 (notDstN rfl))
      obtain ⟨x, e25, hown⟩ := hsp 7 _ 25 (by decide) rfl rfl
      obtain ⟨g', cap', rfl⟩ := Go.Joins.ownsRow_form hown (by rw [HZS.out, HYL.out]; omega)
      have e25' : a'.eval (.tmp 25) = .agg (plcC (.slice (some ⟨g', 0, none⟩) zs.length cap') l (i : Int) 0) := e25
      have hB := Lib.hid (B1.out.trans (hb.mono B1.out.size))
      have hP := Lib.hid (G1.out.below hb G1.out.lt)
      have hO := Lib.hid hown
      simp only [List.drop_succ_cons, List.drop_zero]
      refine store_blk 85 (.tmp 4) (.tmp 25) (w.heap.size + 1) 85 #[.slice none 0 0, .int .i64 0, .int .i64 0, .int .i64 0, .int .i64 0, .int .i64 0, .int .i64 0, .int .i64 0, .int .i64 0, .int .i64 0, .int .i64 0, .int .i64 0, .int .i64 0, .int .i64 0, .int .i64 0] (plcC (.slice (some ⟨g', 0, none⟩) zs.length cap') l (i : Int) 0) rfl rfl e4 e25' hP.out (by unfold plcC plcL; simp [HL.out.1]) (by unfold plcC plcL; simp only [List.size_toArray, List.length_cons, List.length_append, List.length_map, HL.out.1, List.length_nil]; kernel_rfl) ?_ ?_
      · exact plcC_one _ _ _ _ rfl
      · intro w2 hr2 hg2
        have hO2 : w2.ownsRow w.heap.size 9 1 (.slice (some ⟨g', 0, none⟩) zs.length cap') zs.length (zs.map .string) := hO.out.kept hg2 (.inr (by
          have := own_ne hO.out hP.out (by decide)
          intro e; exact this e.symm))
        have hB2 := Lib.hid (hB.out.grown hg2 hB.out.size (fun k hk => by cases hk; omega))
        have hO3 := Lib.hid hO2
        have hr3 := Lib.hid hr2
        have HSZ := Lib.hid (plcC_info (.slice (some ⟨g', 0, none⟩) zs.length cap') (i : Int) 0 HL.out.1)
        clear hr2 hg2 hb hsp hrest hsz hO2 hown
        go_wp2
        refine bodyPost_ret (results_cell_row rfl _ _ (w.heap.size + 1) _ _ (0, 0) _ e4 hr3.out Tryz.underlying85 rfl HSZ.out) (by exact hdf) ⟨hB2.out, ?_⟩
        refine ⟨_, rfl, ?_⟩
        show OwnRow (takeV xs i) w _ w2
        unfold OwnRow
        rw [HTY.out, ← HZS.out]
        exact hO3.out
end Go.Proofs.YtoanladhikdcaaaGreat

namespace Go.Proofs.YtoanladhikdcaaaGreat
open Go.RowKit
set_option linter.unusedVariables false
set_option linter.unusedSimpArgs false
structure IRow (w : World) (g cap : Nat) (l : List Int) : Prop where
  lt : g < w.heap.size
  le : l.length ≤ cap
  max : cap ≤ maxLen
  there : ∀ j, j < cap → (w.cell? ⟨g, j, none⟩).isSome = true ∧ w.frozen? ⟨g, j, none⟩ = false
  cell : ∀ j u, l[j]? = some u → w.cell? ⟨g, j, none⟩ = some (.int .i64 u)
theorem IRow.kept {w w' : World} {g cap : Nat} {l : List Int} (h : IRow w g cap l) (hz : w.heap.size ≤ w'.heap.size) (hb : w'.heap[g]? = w.heap[g]?) : IRow w' g cap l :=
  ⟨Nat.lt_of_lt_of_le h.lt hz, h.le, h.max, fun j hj => by rw [World.cell?_of_block (a := ⟨g, j, none⟩) hb, World.frozen?_of_block (a := ⟨g, j, none⟩) hb]; exact h.there j hj, fun j u hu => (World.cell?_of_block (a := ⟨g, j, none⟩) hb).trans (h.cell j u hu)⟩
theorem IRow.below {w w' : World} {B g cap : Nat} {l : List Int} (h : IRow w g cap l) (hb : Below B w w') (hg : g < B) : IRow w' g cap l := h.kept hb.size (hb.block g hg)
theorem IRow.new (w : World) (e : TypeId) (l : List Int) (hl : l.length ≤ maxLen) : IRow (w.alloc (.cells (l.map (Value.int .i64)).toArray e)) w.heap.size l.length l := by
  have hb := Blk.new w e (l.map (Value.int .i64)).toArray
  refine ⟨hb.lt, Nat.le_refl _, hl, fun j hj => ⟨?_, hb.frozen j⟩, fun j u hu => hb.cell j (by simp [hu])⟩
  rw [hb.cell j (v := .int .i64 l[j]) (by simp [hj])]
  rfl
theorem IRow.set {w : World} {g cap : Nat} {l : List Int} (h : IRow w g cap l) (hr : l.length + 1 ≤ cap) (b : Int) : IRow (w.setCell ⟨g, l.length, none⟩ (.int .i64 b)) g cap (l ++ [b]) := by
  have h0 := h.there l.length (by omega)
  refine ⟨by simpa using h.lt, by simpa using hr, h.max, fun j hj => ⟨?_, ?_⟩, fun j u hu => ?_⟩
  · by_cases e : j = l.length
    · subst e
      rw [World.cell?_setCell_same' _ _ _ h0.1]; rfl
    · rw [World.cell?_setCell_other (h := fun h => e (by injection h with _ h _; exact h.symm))]
      exact (h.there j hj).1
  · rw [World.frozen?_setCell]; exact (h.there j hj).2
  · by_cases e : j < l.length
    · rw [World.cell?_setCell_other (h := fun h => by injection h with _ h _; omega)]
      rw [List.getElem?_append_left e] at hu
      exact h.cell j u hu
    · have hj2 : j = l.length := by
        have := (List.getElem?_eq_some_iff.1 hu).1
        rw [List.length_append] at this
        have h1 : ([b] : List Int).length = 1 := rfl
        omega
      subst hj2
      rw [World.cell?_setCell_same' _ _ _ h0.1]
      rw [List.getElem?_append_right (Nat.le_refl _)] at hu
      simp at hu
      rw [hu]
/-- a row that is not the block g -/
def RowOff (w : World) (g : Nat) (A : Option Addr) (xs : List Value) : Prop := xs = [] ∨ ∃ b o, A = some ⟨b, o, none⟩ ∧ b < w.heap.size ∧ b ≠ g ∧ ∀ i v, xs[i]? = some v → w.cell? ⟨b, o + i, none⟩ = some v
theorem RowOff.below {w w' : World} {g : Nat} {A : Option Addr} {xs : List Value} (h : RowOff w g A xs) (hb : Below w.heap.size w w') : RowOff w' g A xs := by
  rcases h with h | ⟨b, o, hA, hl, hg, hc⟩
  · exact .inl h
  · exact .inr ⟨b, o, hA, Nat.lt_of_lt_of_le hl hb.size, hg, fun i v hv => (hb.cell (p := ⟨b, o + i, none⟩) hl).trans (hc i v hv)⟩
theorem RowOff.push {w w' : World} {g g' : Nat} {A : Option Addr} {xs : List Value} (h : RowOff w g A xs) (hg' : g' = g ∨ w.heap.size ≤ g') (hb : w.grownBy w' (some g)) : RowOff w' g' A xs := by
  rcases h with h | ⟨b, o, hA, hl, hg, hc⟩
  · exact .inl h
  · refine .inr ⟨b, o, hA, Nat.lt_of_lt_of_le hl hb.size, ?_, fun i v hv => (World.cell?_of_block (a := ⟨b, o + i, none⟩) (hb.block b hl (by simpa using hg))).trans (hc i v hv)⟩
    rcases hg' with e | e
    · rw [e]; exact hg
    · omega
theorem RowOff.of_low {w : World} {B g : Nat} {A : Option Addr} {xs : List Value} (h : RowAt w B A xs) (hB : B ≤ w.heap.size) (hg : B ≤ g) : RowOff w g A xs := by
  rcases Nat.eq_zero_or_pos xs.length with h0 | h0
  · exact .inl (List.eq_nil_of_length_eq_zero h0)
  · obtain ⟨b, o, hA, hl, hc⟩ := h.at_ h0
    exact .inr ⟨b, o, hA, by omega, by omega, hc⟩
theorem RowOff.of_own {w : World} {base g : Nat} {e : TypeId} {A : Option Addr} {n c : Nat} {xs : List Value} (h : w.ownsRow base e 1 (.slice A n c) n xs) (hg : g < base) : RowOff w g A xs := by
  rcases Nat.eq_zero_or_pos xs.length with h0 | h0
  · exact .inl (List.eq_nil_of_length_eq_zero h0)
  · obtain ⟨b, o, hA, hl, hc⟩ := (RowAt.of_own h).at_ h0
    refine .inr ⟨b, o, hA, hl, ?_, hc⟩
    have := own_row h b (by rw [hA]; rfl)
    omega
theorem RowOff.at_ {w : World} {g : Nat} {A : Option Addr} {xs : List Value} (h : RowOff w g A xs) (hn : 0 < xs.length) : ∃ b o, A = some ⟨b, o, none⟩ ∧ ∀ i v, xs[i]? = some v → w.cell? ⟨b, o + i, none⟩ = some v := by
  rcases h with h | ⟨b, o, hA, _, _, hc⟩
  · rw [h] at hn; cases hn
  · exact ⟨b, o, hA, hc⟩
theorem RowOff.of_irow {w : World} {g g' cap : Nat} {l : List Int} (h : IRow w g' cap l) (hne : g' ≠ g) : RowOff w g (some ⟨g', 0, none⟩) (l.map (Value.int .i64)) := by
  refine .inr ⟨g', 0, rfl, h.lt, hne, fun i v hv => ?_⟩
  rw [List.getElem?_map] at hv
  obtain ⟨u, hu, rfl⟩ := Option.map_eq_some_iff.1 hv
  rw [Nat.zero_add]
  exact h.cell i u hu
theorem below_push {B g : Nat} {a w w' : World} (h : Below B a w) (hb : w.grownBy w' (some g)) (hB : B ≤ w.heap.size) (hg : B ≤ g) : Below B a w' :=
  h.grown hb hB (fun k e => by cases e; exact hg)
section
variable {P : Program}
/-- x = append(x, b), for the walk -/
theorem wpList_ints_push (w : World) {ops : Array Oper} {rest : List Oper} {o : Oper} {a : Act} {Q : Exit → Act → World → Prop}
    (hg : o.guard = none) (s x : Operand) (t : TypeId) (hop : o.op = Op.call { callee := Callee.builtin Builtin.append, args := #[s, x], argTypes := #[t, t] })
    (e : TypeId) (i : TypeInfo) (h1 : P.underlying t = some (.slice e)) (h2 : P.info? e = some i) (h3 : i.zero = some (.int .i64 0)) (h4 : i.size = 1) (h5 : i.bytes = 8)
    (g cap : Nat) (l : List Int) (hs : a.eval s = .slice (some ⟨g, 0, none⟩) l.length cap) (R : IRow w g cap l)
    (ad : Addr) (c : Nat) (b : Int) (hx : a.eval x = .slice (some ad) 1 c) (hc : w.cell? ad = some (.int .i64 b)) (hl : l.length + 1 ≤ 1000000)
    (hK : ∀ g' cap' w', IRow w' g' cap' (l ++ [b]) → (g' = g ∨ w.heap.size ≤ g') → w.grownBy w' (some g) → wpList P ops Q rest (a.put o.dst (.slice (some ⟨g', 0, none⟩) (l.length + 1) cap')) w') :
    wpList P ops Q (o :: rest) a w := by
  have hle := R.le
  refine wpList_append_arg w hg s x t hop e i (.int .i64 0) 1 8 h1 h2 h3 h4 h5 rfl (by decide) g 0 l.length cap (l.map fun y => Value.int .i64 y) hs (by simp) (fun j u hj => ?_) ad 1 c [.int .i64 b] hx rfl (fun j u hj => ?_) (fun u hu => ?_) (fun hr j hj => ?_) (by unfold maxLen; omega) (by omega) (fun hr => ?_) (fun hr v' w' r1 r2 => ?_)
  · rw [List.getElem?_map] at hj
    obtain ⟨y, hy, rfl⟩ := Option.map_eq_some_iff.1 hj
    rw [Nat.zero_add]
    exact R.cell j y hy
  · cases j with
    | zero =>
      obtain rfl : Value.int .i64 b = u := by simpa using hj
      have : ad.add 0 = ad := by cases ad; rfl
      rw [this]; exact hc
    | succ j => simp at hj
  · obtain rfl := List.mem_singleton.1 hu
    rfl
  · have hj0 : j = 0 := by
      have : j < 1 := hj
      omega
    subst hj0
    rw [Nat.zero_add, Nat.mul_one, Nat.add_zero]
    exact R.there l.length (by omega)
  · rw [Nat.zero_add, Nat.mul_one]
    refine hK g cap _ (R.set (by omega) b) (.inl rfl) ?_
    exact only_setCell ⟨rfl, rfl, rfl, Nat.le_refl _, fun _ _ _ => rfl⟩ _ _
  · obtain ⟨q1, q2⟩ := r1
    rcases q2 with ⟨_, hn⟩ | ⟨g', cap', cur, rfl, hb, hh, hle', hm, hsz, ht⟩
    · omega
    · rw [Nat.mul_one] at hsz ht
      refine hK g' cap' w' ⟨?_, by simpa using hle', hm, fun j hj => ⟨?_, ?_⟩, fun j u hu => ?_⟩ (.inr hb) ⟨r2.os, r2.tape, r2.output, r2.size, fun k hk hne => ?_⟩
      · rcases Nat.lt_or_ge g' w'.heap.size with hlt | hge
        · exact hlt
        · rw [Array.getElem?_eq_none hge] at hh; cases hh
      · simp [World.cell?, hh, hsz, hj]
      · simp [World.frozen?, hh]
      · have e0 : ((l.map fun y => Value.int .i64 y) ++ [Value.int .i64 b]) = (l ++ [b]).map fun y => Value.int .i64 y := by simp
        rw [e0] at ht
        have h3 : (cur.toList.take (l.length + 1))[j]? = some (.int .i64 u) := by rw [ht, List.getElem?_map, hu]; rfl
        have hj : j < l.length + 1 := by
          have := (List.getElem?_eq_some_iff.1 hu).1
          simpa using this
        rw [List.getElem?_take, if_pos hj, Array.getElem?_toList] at h3
        simp only [World.cell?, hh]
        exact h3
      · exact r2.block k hk (fun h => by cases h)
end
end Go.Proofs.YtoanladhikdcaaaGreat

namespace Go.Proofs.YtoanladhikdcaaaGreat
open Go.RowKit
set_option linter.unusedVariables false
set_option linter.unusedSimpArgs false
set_option maxRecDepth 100000
/-- take, place and drop: the blocks can be read (they may be those that were given) -/
def PlcRd (A : Option Addr) (xs : List ByteArray) (r : Option ((List ByteArray × List Nat) × Nat)) (w : World) (e : Ending) (w' : World) : Prop := Below w.heap.size w w' ∧
  match r with
  | none => e = .returned (.agg (plcC (.slice none 0 0) (List.replicate 12 0) 0 10))
  | some s => ∃ A' c, e = .returned (.agg (plcC (.slice A' s.1.1.length c) s.1.2 (s.2 : Nat) 0)) ∧ RowAt w' w'.heap.size A' (s.1.1.map .string) ∧ ∀ g, g < w.heap.size → RowOff w g A (xs.map .string) → RowOff w' g A' (s.1.1.map .string)
set_option maxHeartbeats 4000000 in
theorem rplace_has (A : Option Addr) (c : Nat) (xs : List ByteArray) (m k : Nat) (l : List Nat) (w : World) (hv : IsVol xs m) (hl : FitN l) (hk : k < 70) (h : RowAt w w.heap.size A (xs.map .string)) (hz : atX xs m l k ≠ 0) :
    Calls Tryz.prog 44 #[.slice A xs.length c, .agg (inoC l), .int .i64 k] w (PlcRd A xs (plaG noK xs m l k) w) := by
  have HPL : Hid (plaG noK xs m l k = some ((xs, l), atX xs m l k)) := by show _ = _; unfold plaG; rw [if_pos hz]
  have I0 := ((Below.refl w.heap.size w).alloc (Nat.le_refl _) (.cells (inoC l) 35)).alloc (by simp) (.cells #[.slice none 0 0, .int .i64 0, .int .i64 0, .int .i64 0, .int .i64 0, .int .i64 0, .int .i64 0, .int .i64 0, .int .i64 0, .int .i64 0, .int .i64 0, .int .i64 0, .int .i64 0, .int .i64 0, .int .i64 0] 85)
  have GI := Lib.hid ((Blk.new w 35 (inoC l)).alloc (.cells #[.slice none 0 0, .int .i64 0, .int .i64 0, .int .i64 0, .int .i64 0, .int .i64 0, .int .i64 0, .int .i64 0, .int .i64 0, .int .i64 0, .int .i64 0, .int .i64 0, .int .i64 0, .int .i64 0, .int .i64 0] 85))
  have GP : Hid (Blk ((w.alloc (.cells (inoC l) 35)).alloc (.cells #[.slice none 0 0, .int .i64 0, .int .i64 0, .int .i64 0, .int .i64 0, .int .i64 0, .int .i64 0, .int .i64 0, .int .i64 0, .int .i64 0, .int .i64 0, .int .i64 0, .int .i64 0, .int .i64 0, .int .i64 0] 85)) (w.heap.size + 1) 85 #[.slice none 0 0, .int .i64 0, .int .i64 0, .int .i64 0, .int .i64 0, .int .i64 0, .int .i64 0, .int .i64 0, .int .i64 0, .int .i64 0, .int .i64 0, .int .i64 0, .int .i64 0, .int .i64 0, .int .i64 0]) := by
    have := Blk.new (w.alloc (.cells (inoC l) 35)) 85 #[.slice none 0 0, .int .i64 0, .int .i64 0, .int .i64 0, .int .i64 0, .int .i64 0, .int .i64 0, .int .i64 0, .int .i64 0, .int .i64 0, .int .i64 0, .int .i64 0, .int .i64 0, .int .i64 0, .int .i64 0]
    rw [World.size_alloc] at this
    exact this
  have B0 := Lib.hid I0
  have R0 := Lib.hid ((h.below I0).mono I0.size)
  have HR := Lib.hid h
  have HIN := Lib.hid (ino_info12 hl.1)
  have CD := Lib.hid (fun w h => rdata_any A c xs m w hv h)
  have CA := Lib.hid (fun w h => rat_any A c xs m k l w hv hl hk h)
  have hbz : (0 : Int) < (atX xs m l k : Int) := by omega
  have HSZ := Lib.hid (fun sl (b : Int) => plcC_info sl (l := l) b 0 hl.1)
  have HZ15 := Lib.hid (fun sl (b : Int) => plcC_size sl (l := l) b 0 hl.1)
  generalize atX xs m l k = b at *
  generalize dataN m = d at *
  obtain ⟨a0, a1, a2, a3, a4, a5, a6, a7, a8, a9, a10, a11, rfl⟩ := len12 hl.1
  have HIC : Hid (inoC [a0, a1, a2, a3, a4, a5, a6, a7, a8, a9, a10, a11] = #[.int .i64 (a0 : Int), .int .i64 (a1 : Int), .int .i64 (a2 : Int), .int .i64 (a3 : Int), .int .i64 (a4 : Int), .int .i64 (a5 : Int), .int .i64 (a6 : Int), .int .i64 (a7 : Int), .int .i64 (a8 : Int), .int .i64 (a9 : Int), .int .i64 (a10 : Int), .int .i64 (a11 : Int)]) := rfl
  clear I0 h hl hz hv
  go_enter Tryz.func44, Tryz.ntmps44
  go_wp2_with fail
  generalize World.alloc _ _ = w0 at *
  refine (CD.out _ R0.out).mono ?_
  rintro e w1 ⟨rfl, hb1⟩
  have B1 := Lib.hid (B0.out.trans (hb1.mono B0.out.size))
  have G1 := Lib.hid (GP.out.below hb1 GP.out.lt)
  have GI1 := Lib.hid (GI.out.below hb1 GI.out.lt)
  have R1 := Lib.hid ((R0.out.below hb1).mono hb1.size)
  clear hb1 B0 GP GI R0
  go_wp2_with (refine load_blk 35 (.tmp 4) w.heap.size 35 (inoC [a0, a1, a2, a3, a4, a5, a6, a7, a8, a9, a10, a11]) _ rfl rfl rfl GI1.out Tryz.underlying35 rfl HIN.out ?_; go_frame)
  refine (CA.out _ R1.out).mono ?_
  rintro e w2 ⟨rfl, hb2⟩
  have B2 := Lib.hid (B1.out.trans (hb2.mono B1.out.size))
  have G2 := Lib.hid (G1.out.below hb2 G1.out.lt)
  have GI2 := Lib.hid (GI1.out.below hb2 GI1.out.lt)
  have R2 := Lib.hid ((R1.out.below hb2).mono hb2.size)
  clear hb2 B1 G1 GI1 R1
  go_wp2_with (first
    | (refine load_blk 35 (.tmp 4) w.heap.size 35 (inoC [a0, a1, a2, a3, a4, a5, a6, a7, a8, a9, a10, a11]) _ rfl rfl rfl GI2.out Tryz.underlying35 rfl HIN.out ?_; rw [HIC.out]; go_frame)
    | (refine store_blk 85 (.tmp 6) (.tmp 24) (w.heap.size + 1) 85 #[.slice none 0 0, .int .i64 0, .int .i64 0, .int .i64 0, .int .i64 0, .int .i64 0, .int .i64 0, .int .i64 0, .int .i64 0, .int .i64 0, .int .i64 0, .int .i64 0, .int .i64 0, .int .i64 0, .int .i64 0] (plcC (.slice A xs.length c) [a0, a1, a2, a3, a4, a5, a6, a7, a8, a9, a10, a11] (b : Int) 0) rfl rfl rfl rfl G2.out rfl (HSZ.out _ _) (plcC_one _ _ _ _ rfl) ?_; intro w3 hr3 hg3))
  have B3 : Below w.heap.size w w3 := B2.out.grown hg3 B2.out.size (fun j e => by cases e; omega)
  refine bodyPost_ret (results_cell_row rfl _ _ (w.heap.size + 1) _ _ (0, 0) _ rfl hr3 Tryz.underlying85 rfl (HSZ.out _ _)) rfl ?_
  rw [HPL.out]
  exact ⟨B3, A, c, rfl, (HR.out.below B3).mono B3.size, fun g hg hr => hr.below B3⟩
end Go.Proofs.YtoanladhikdcaaaGreat

namespace Go.Proofs.YtoanladhikdcaaaGreat
open Go.RowKit
set_option linter.unusedSimpArgs false
def putsD (b : Act) : List (Nat × Value) → Act
  | [] => b
  | (d, v) :: r => putsD (b.put (some d) v) r
theorem frame_of {a' : Act} : ∀ (ds : List Nat) {a : Act}, a'.defers = a.defers → a'.tmps.size = a.tmps.size → (∀ t, t ∉ ds → a'.tmps[t]? = a.tmps[t]?) → a' = putsD a (ds.map fun d => (d, a'.tmps.getD d undef))
  | [], a, hd, hs, hr => by
    cases a'; cases a
    simp only at hd hs hr
    subst hd
    have : ∀ (x y : Array Value), (∀ t, x[t]? = y[t]?) → x = y := fun x y h => Array.ext_getElem? h
    rw [this _ _ (fun t => hr t (by simp))]
    rfl
  | d :: r, a, hd, hs, hr => by
    show a' = putsD (a.put (some d) (a'.tmps.getD d undef)) (r.map fun d => (d, a'.tmps.getD d undef))
    refine frame_of r hd (by rw [hs]; simp [Act.put]) (fun t ht => ?_)
    by_cases e : t = d
    · subst e
      by_cases hlt : t < a.tmps.size
      · have : t < a'.tmps.size := by omega
        simp [Act.put, Array.getElem?_setIfInBounds, hlt, this, Array.getD_eq_getD_getElem?]
      · rw [Array.getElem?_eq_none (by omega), Array.getElem?_eq_none (by simp [Act.put]; omega)]
    · rw [hr t (by simp [e, ht])]
      simp [Act.put, Array.getElem?_setIfInBounds, Ne.symm e]
theorem notDst_of {l : List Oper} {n : Nat} {ds : List Nat} (h : (l.take n).filterMap (fun o => o.dst) = ds) {t : Nat} (ht : t ∉ ds) : ∀ (j : Nat) (oj : Oper), j < n → l[j]? = some oj → oj.dst ≠ some t := by
  intro j oj hj ho e
  apply ht
  rw [← h, List.mem_filterMap]
  refine ⟨oj, List.mem_of_getElem? (i := j) ?_, e⟩
  rw [List.getElem?_take, if_pos hj]; exact ho
theorem notDstQ {l : List Oper} {t : Nat} (h : l.all (fun o => o.dst != some t) = true) : ∀ (j : Nat) (oj : Oper), l.toArray[j]? = some oj → oj.dst ≠ some t := fun j oj hj => by
  have := List.all_eq_true.1 h oj (List.mem_of_getElem? (by simpa using hj))
  simpa using this
end Go.Proofs.YtoanladhikdcaaaGreat

namespace Go.Proofs.YtoanladhikdcaaaGreat
open Go.RowKit
set_option linter.unusedVariables false
set_option linter.unusedSimpArgs false
set_option maxRecDepth 100000
section
variable {sl : Value} {l : List Nat} {b code : Int}
theorem plcC_0 : (plcC sl l b code)[0]? = some sl := by simp [plcC, plcL]
theorem plcC_at (hl : l.length = 12) {i : Nat} (hi : i < 12) : (plcC sl l b code)[1 + i]? = some (.int .i64 ((l.getD i 0 : Nat) : Int)) := by
  unfold plcC plcL
  have : i < l.length := by omega
  rw [List.getElem?_toArray, Nat.add_comm 1 i, List.getElem?_cons_succ, List.getElem?_append_left (by simp; omega), List.getElem?_map, List.getD_eq_getElem?_getD, List.getElem?_eq_getElem this]
  rfl
theorem plcC_b (hl : l.length = 12) : (plcC sl l b code)[13]? = some (.int .i64 b) := by
  unfold plcC plcL
  rw [List.getElem?_toArray, List.getElem?_cons_succ, List.getElem?_append_right (by simp; omega)]
  simp [hl]
theorem plcC_e (hl : l.length = 12) : (plcC sl l b code)[14]? = some (.int .i64 code) := by
  unfold plcC plcL
  rw [List.getElem?_toArray, List.getElem?_cons_succ, List.getElem?_append_right (by simp; omega)]
  simp [hl]
theorem plcC_set (hl : l.length = 12) {i : Nat} (hi : i < 12) (n : Nat) : (plcC sl l b code).setIfInBounds (1 + i) (.int .i64 (n : Int)) = plcC sl (l.set i n) b code := by
  unfold plcC plcL
  rw [List.setIfInBounds_toArray, Nat.add_comm 1 i, List.set_cons_succ, List.set_append_left _ _ (by simp; omega), List.map_set]
theorem plcC_set0 (sl' : Value) : (plcC sl l b code).setIfInBounds 0 sl' = plcC sl' l b code := by
  unfold plcC plcL
  rw [List.setIfInBounds_toArray, List.set_cons_zero]
end
theorem store_int_blk {P : Program} {ops : Array Oper} {rest : List Oper} {o : Oper} {a : Act} {w : World} {Q : Exit → Act → World → Prop} (ty : TypeId) (x y : Operand) (g i : Nat) (k : IntKind) (n : Int) (t : TypeId) (cs : Array Value) (hgd : o.guard = none) (ho : o.op = .store ty x y) (hx : a.eval x = .pointer (some ⟨g, i, none⟩)) (hy : a.eval y = .int k n)
    (hs : ∀ w, Sem.run P (sizeOf ty) w = .ok 1 w) (hg : Blk w g t cs) (hi : i < cs.size) (h : ∀ w', Blk w' g t (cs.setIfInBounds i (.int k n)) → w.grownBy w' (some g) → wpList P ops Q rest (a.put o.dst undef) w') : wpList P ops Q (o :: rest) a w :=
  store_cell ty x y g i k n _ hgd ho hx hy hs (hg.cell i (Array.getElem?_eq_getElem hi)) (hg.frozen i) (fun w' e => e ▸ h _ (hg.set_ i _) (only_setCell (World.grownBy.refl w _) i _))
/-- what take hands back: the blocks, the inode, the block, the code -/
def TkR (r : Option (List ByteArray × Nat)) (l : List Nat) (sl : Value) (lr : List Nat) (b : Nat) (code : Int) (ys : List ByteArray) : Prop :=
  match r with
  | none => sl = .slice none 0 0 ∧ lr = List.replicate 12 0 ∧ b = 0 ∧ code = 10 ∧ ys = []
  | some s => lr = l ∧ b = s.2 ∧ code = 0 ∧ ys = s.1
theorem rtake_one (A : Option Addr) (c : Nat) (xs : List ByteArray) (m : Nat) (l : List Nat) (w : World) (hv : IsVol xs m) (hl : FitN l) (h : RowAt w w.heap.size A (xs.map .string)) :
    Calls Tryz.prog 76 #[.slice A xs.length c, .agg (inoC l)] w fun e w' => ∃ (sl : Value) (lr : List Nat) (b : Nat) (code : Int) (ys : List ByteArray), e = .returned (.agg (plcC sl lr (b : Int) code)) ∧ lr.length = 12 ∧ w'.ownsRow w.heap.size 9 1 sl ys.length (ys.map .string) ∧ TkR (takX xs m) l sl lr b code ys ∧ Below w.heap.size w w' := by
  refine (rtake19_any A c xs m l w hv hl h).mono ?_
  rintro e w' ⟨hb, he⟩
  cases ht : takX xs m with
  | none =>
    rw [ht] at he
    exact ⟨_, _, 0, 10, [], he, rfl, World.ownsRow_nil _ _ _ _, ⟨rfl, rfl, rfl, rfl, rfl⟩, hb⟩
  | some s =>
    rw [ht] at he
    obtain ⟨v, he, hn⟩ := he
    exact ⟨v, l, s.2, 0, s.1, he, hl.1, hn, ⟨rfl, rfl, rfl, rfl⟩, hb⟩
theorem own_one {w : World} {B n : Nat} {e : TypeId} {sl : Value} {xs : List Value} (h : w.ownsRow B e 1 sl n xs) : sl.oneCell' = true := by
  rcases Go.Joins.ownsRow_forms h with ⟨rfl, _⟩ | ⟨g, cap, rfl⟩ <;> rfl
theorem own_grown {w w' : World} {B n g : Nat} {e t : TypeId} {sl : Value} {xs : List Value} {cs : Array Value} (h : w.ownsRow B e 1 sl n xs) (hb : Blk w g t cs) (hne : e ≠ t) (hg : w.grownBy w' (some g)) : w'.ownsRow B e 1 sl n xs :=
  h.kept hg (.inr (fun e => own_ne h hb hne e.symm))
theorem own_read {w : World} {B n : Nat} {e : TypeId} {sl : Value} {xs : List Value} (h : w.ownsRow B e 1 sl n xs) (hn : 0 < n) : ∃ A c, sl = .slice A n c ∧ RowAt w w.heap.size A xs := by
  obtain ⟨g, c, rfl⟩ := Go.Joins.ownsRow_form h hn
  exact ⟨_, _, rfl, RowAt.of_own h⟩
set_option maxHeartbeats 4000000 in
theorem rplace_low (A : Option Addr) (c : Nat) (xs : List ByteArray) (m k : Nat) (l : List Nat) (w : World) (hv : IsVol xs m) (hl : FitN l) (hk : k < 70) (h : RowAt w w.heap.size A (xs.map .string)) (hz : atX xs m l k = 0) (hk6 : k < 6) :
    Calls Tryz.prog 44 #[.slice A xs.length c, .agg (inoC l), .int .i64 k] w (PlcRd A xs (plaG noK xs m l k) w) := by
  have HPL : Hid (plaG noK xs m l k = (takX xs m).map fun r => ((r.1, l.set (4 + k) r.2), r.2)) := by
    show _ = _
    unfold plaG indG
    rw [if_neg (by rw [hz]; simp), if_pos (.inl hk6)]
    simp only [Option.bind_some]
    unfold nameG
    simp only [if_pos hk6]
    rfl
  have HTL : Hid (∀ r, takX xs m = some r → 0 < r.1.length) := fun r hr => by have := (takX_ok hv hr).2.1; have := hv.len; omega
  have CT := Lib.hid (fun w h => rtake_one A c xs m l w hv hl h)
  have I0 := ((Below.refl w.heap.size w).alloc (Nat.le_refl _) (.cells (inoC l) 35)).alloc (by simp) (.cells #[.slice none 0 0, .int .i64 0, .int .i64 0, .int .i64 0, .int .i64 0, .int .i64 0, .int .i64 0, .int .i64 0, .int .i64 0, .int .i64 0, .int .i64 0, .int .i64 0, .int .i64 0, .int .i64 0, .int .i64 0] 85)
  have GI := Lib.hid ((Blk.new w 35 (inoC l)).alloc (.cells #[.slice none 0 0, .int .i64 0, .int .i64 0, .int .i64 0, .int .i64 0, .int .i64 0, .int .i64 0, .int .i64 0, .int .i64 0, .int .i64 0, .int .i64 0, .int .i64 0, .int .i64 0, .int .i64 0, .int .i64 0] 85))
  have GP : Hid (∃ Z : Array Value, Z.size = 15 ∧ Blk ((w.alloc (.cells (inoC l) 35)).alloc (.cells #[.slice none 0 0, .int .i64 0, .int .i64 0, .int .i64 0, .int .i64 0, .int .i64 0, .int .i64 0, .int .i64 0, .int .i64 0, .int .i64 0, .int .i64 0, .int .i64 0, .int .i64 0, .int .i64 0, .int .i64 0] 85)) (w.heap.size + 1) 85 Z) := by
    have := Blk.new (w.alloc (.cells (inoC l) 35)) 85 #[.slice none 0 0, .int .i64 0, .int .i64 0, .int .i64 0, .int .i64 0, .int .i64 0, .int .i64 0, .int .i64 0, .int .i64 0, .int .i64 0, .int .i64 0, .int .i64 0, .int .i64 0, .int .i64 0, .int .i64 0]
    rw [World.size_alloc] at this
    exact ⟨_, rfl, this⟩
  have B0 := Lib.hid I0
  have R0 := Lib.hid ((h.below I0).mono I0.size)
  have HIN := Lib.hid (ino_info12 hl.1)
  have CD := Lib.hid (fun w h => rdata_any A c xs m w hv h)
  have CA := Lib.hid (fun w h => rat_any A c xs m k l w hv hl hk h)
  rw [hz] at CA
  generalize dataN m = d at *
  have HL12 := Lib.hid hl.1
  clear I0 h hl hz hv
  go_enter Tryz.func44, Tryz.ntmps44
  go_wp2_with fail
  generalize World.alloc _ _ = w0 at *
  refine (CD.out _ R0.out).mono ?_
  rintro e w1 ⟨rfl, hb1⟩
  obtain ⟨Z, hZ, hGP⟩ := GP.out
  have HZ := Lib.hid hZ
  have B1 := Lib.hid (B0.out.trans (hb1.mono B0.out.size))
  have G1 := Lib.hid (hGP.below hb1 hGP.lt)
  have GI1 := Lib.hid (GI.out.below hb1 GI.out.lt)
  have R1 := Lib.hid ((R0.out.below hb1).mono hb1.size)
  clear hb1 B0 GP GI R0 hGP hZ
  go_wp2_with (refine load_blk 35 (.tmp 4) w.heap.size 35 (inoC l) _ rfl rfl rfl GI1.out Tryz.underlying35 rfl HIN.out ?_; go_frame)
  refine (CA.out _ R1.out).mono ?_
  rintro e w2 ⟨rfl, hb2⟩
  have B2 := Lib.hid (B1.out.trans (hb2.mono B1.out.size))
  have G2 := Lib.hid (G1.out.below hb2 G1.out.lt)
  have GI2 := Lib.hid (GI1.out.below hb2 GI1.out.lt)
  have R2 := Lib.hid ((R1.out.below hb2).mono hb2.size)
  clear hb2 B1 G1 GI1 R1 CD CA
  have hk7 : (k : Int) < 6 := by omega
  go_wp2_with (refine load_blk 35 (.tmp 4) w.heap.size 35 (inoC l) _ rfl rfl rfl GI2.out Tryz.underlying35 rfl HIN.out ?_; go_frame)
  refine (CT.out _ R2.out).mono ?_
  rintro e w3 ⟨sl, lr, b, code, ys, rfl, hlr, hown, hcase, hb3⟩
  have HPQ : Hid (∃ ys', TkR (takX xs m) l sl lr b code ys' ∧ ys' = ys) := ⟨_, hcase, rfl⟩
  have HOWN := Lib.hid hown
  have HLR := Lib.hid hlr
  have hone := own_one hown
  obtain ⟨C, hC⟩ : ∃ C, plcC sl lr (b : Int) code = C := ⟨_, rfl⟩
  obtain ⟨D, hD⟩ : ∃ D, plcC sl (lr.set (4 + k) b) (b : Int) code = D := ⟨_, rfl⟩
  have hCS : C.size = 15 := by rw [← hC]; exact plcC_size _ _ _ hlr
  have hDS : D.size = 15 := by rw [← hD]; exact plcC_size _ _ _ (by rw [List.length_set]; exact hlr)
  have HCS := Lib.hid hCS
  have HDS := Lib.hid hDS
  have HCI : Hid ((Tryz.prog.info? 85).map (·.size) = some C.size) := by show _ = _; rw [hCS]; kernel_rfl
  have HDI : Hid ((Tryz.prog.info? 85).map (·.size) = some D.size) := by show _ = _; rw [hDS]; kernel_rfl
  have HC1 : Hid (∀ v ∈ C, v.oneCell' = true) := by rw [← hC]; exact plcC_one _ _ _ _ hone
  have HD1 : Hid (∀ v ∈ D, v.oneCell' = true) := by rw [← hD]; exact plcC_one _ _ _ _ hone
  have HC13 : Hid (C[13]? = some (.int .i64 (b : Int))) := by show _ = _; rw [← hC]; exact plcC_b hlr
  have HCD : Hid (C.setIfInBounds (5 + k) (.int .i64 (b : Int)) = D) := by show _ = _; rw [← hC, ← hD, show 5 + k = 1 + (4 + k) by omega]; exact plcC_set hlr (by omega) b
  have HDD := Lib.hid hD
  have G3 := Lib.hid (G2.out.below hb3 G2.out.lt)
  have B3 := Lib.hid (B2.out.trans (hb3.mono B2.out.size))
  have HZ2 := Lib.hid (B2.out.size)
  rw [hC]
  clear hC hD hCS hDS hone hcase hown hlr hb3 G2 B2 R2 GI2 CT
  have HSZ : Hid (∀ w, Sem.run Tryz.prog (sizeOf 3) w = .ok 1 w) := fun w => by kernel_rfl
  have HLT : Hid (5 + k < C.size) := by show _ < _; rw [HCS.out]; omega
  have KG : Hid (∀ (cs : Array Value) (w4 w5 : World), (w3.alloc (.cells cs 85)).grownBy w4 (some w3.heap.size) → w4.grownBy w5 (some w3.heap.size) → Blk w5 (w.heap.size + 1) 85 Z) := fun cs w4 w5 h4 h5 => by
    have hlt := G3.out.lt
    exact (((G3.out.alloc _).grown h4 (by intro e; injection e; omega)).grown h5 (by intro e; injection e; omega))
  have KF : Hid (∀ (cs : Array Value) (w4 w5 w6 : World), (w3.alloc (.cells cs 85)).grownBy w4 (some w3.heap.size) → w4.grownBy w5 (some w3.heap.size) → w5.grownBy w6 (some (w.heap.size + 1)) → Blk w4 w3.heap.size 85 C → Below w.heap.size w w6 ∧ w6.ownsRow w2.heap.size 9 1 sl ys.length (ys.map .string)) := fun cs w4 w5 w6 h4 h5 h6 hb => by
    have hlt := G3.out.lt
    have hg5 := KG.out cs w4 w5 h4 h5
    have ha := B3.out.alloc B3.out.size (.cells cs 85)
    have s4 := h4.size
    have s5 := h5.size
    have hz : (w3.alloc (.cells cs 85)).heap.size = w3.heap.size + 1 := by simp
    refine ⟨((ha.grown h4 (by omega) (fun j e => by cases e; omega)).grown h5 (by omega) (fun j e => by cases e; omega)).grown h6 (by omega) (fun j e => by cases e; omega), ?_⟩
    have o4 := own_grown (HOWN.out.alloc (.cells cs 85)) (Blk.new w3 85 cs) (by decide) h4
    have o5 := own_grown o4 hb (by decide) h5
    exact own_grown o5 hg5 (by decide) h6
  go_wp2_with (first
    | (refine store_blk 85 (.tmp 9) (.tmp 29) w3.heap.size 85 _ C rfl rfl rfl rfl (Blk.new w3 _ _) (by rw [HCS.out]; rfl) HCI.out HC1.out ?_; intro w4 hr4 hg4; have k13 := hr4.cell 13 HC13.out)
    | (refine store_int_blk 3 (.tmp 35) (.tmp 32) w3.heap.size (5 + k) .i64 (b : Int) 85 C rfl rfl rfl rfl HSZ.out hr4 HLT.out ?_; intro w5 hr5 hg5; rw [HCD.out] at hr5; have hG5 := KG.out _ _ _ hg4 hg5)
    | (refine load_blk 85 (.tmp 9) w3.heap.size 85 D _ rfl rfl rfl hr5 Tryz.underlying85 rfl HDI.out ?_; go_frame)
    | (refine store_blk 85 (.tmp 6) (.tmp 36) (w.heap.size + 1) 85 Z D rfl rfl rfl rfl hG5 (by rw [HDS.out, HZ.out]) HDI.out HD1.out ?_; intro w6 hr6 hg6))
  obtain ⟨B6, O6⟩ := KF.out _ _ _ _ hg4 hg5 hg6 hr4
  refine bodyPost_ret (results_cell_row rfl _ _ (w.heap.size + 1) _ _ (0, 0) _ rfl hr6 Tryz.underlying85 rfl HDI.out) rfl ?_
  rw [HPL.out]
  obtain ⟨ys', hcase, rfl⟩ := HPQ.out
  refine ⟨B6, ?_⟩
  have hD := HDD.out
  cases ht : takX xs m with
  | none =>
    rw [ht] at hcase
    obtain ⟨rfl, rfl, rfl, rfl, rfl⟩ := hcase
    show Ending.returned _ = _
    rw [← hD]
    have hc : k = 0 ∨ k = 1 ∨ k = 2 ∨ k = 3 ∨ k = 4 ∨ k = 5 := by omega
    rcases hc with rfl | rfl | rfl | rfl | rfl | rfl <;> rfl
  | some s =>
    rw [ht] at hcase
    obtain ⟨rfl, rfl, rfl, rfl⟩ := hcase
    obtain ⟨A', c', rfl, hr⟩ := own_read O6 (HTL.out s ht)
    exact ⟨A', c', by rw [← hD], hr, fun g hg _ => RowOff.of_own O6 (Nat.lt_of_lt_of_le hg HZ2.out)⟩
end Go.Proofs.YtoanladhikdcaaaGreat

namespace Go.Proofs.YtoanladhikdcaaaGreat
open Go.RowKit
set_option linter.unusedVariables false
set_option linter.unusedSimpArgs false
set_option maxRecDepth 100000
theorem store_slice_blk {P : Program} {ops : Array Oper} {rest : List Oper} {o : Oper} {a : Act} {w : World} {Q : Exit → Act → World → Prop} (ty : TypeId) (x y : Operand) (g i : Nat) (A : Option Addr) (n c : Nat) (t : TypeId) (cs : Array Value) (hgd : o.guard = none) (ho : o.op = .store ty x y) (hx : a.eval x = .pointer (some ⟨g, i, none⟩)) (hy : a.eval y = .slice A n c)
    (hs : ∀ w, Sem.run P (sizeOf ty) w = .ok 1 w) (hg : Blk w g t cs) (hi : i < cs.size) (h : ∀ w', Blk w' g t (cs.setIfInBounds i (.slice A n c)) → w.grownBy w' (some g) → wpList P ops Q rest (a.put o.dst undef) w') : wpList P ops Q (o :: rest) a w := by
  have hc := hg.cell i (Array.getElem?_eq_getElem hi)
  have hf := hg.frozen i
  refine wpList_plain hgd fun K hK => ?_
  unfold Oper.wp execOp
  simp only [ho, hx, hy]
  simp [go_sem, hs, hc, hf]
  exact hK _ _ (h _ (hg.set_ i _) (only_setCell (World.grownBy.refl w _) i _))
/-- what the region of put and with yields -/
def plcS (B g4 g11 gs cs n l10 k b : Nat) (s : ByteArray) (zs : List ByteArray) (i : Nat) (v : Value) (w : World) : Prop :=
  match i with
  | 0 => v = .pointer (some ⟨g11, 0, none⟩)
  | 1 => v = .slice (some ⟨gs, 0, none⟩) n cs
  | 2 => v = .pointer (some ⟨g4, 10, none⟩)
  | 3 => v = .int .i64 (l10 : Int)
  | 4 => v = .pointer (some ⟨g11, 0, none⟩)
  | 5 => v = .slice (some ⟨gs, 0, none⟩) n cs
  | 6 => v = .pointer (some ⟨g4, 10, none⟩)
  | 7 => v = .int .i64 (l10 : Int)
  | 8 => v = .pointer (some ⟨gs, l10, none⟩)
  | 9 => v = .string s
  | 10 => v = .int .i64 (k : Int)
  | 11 => v = .int .i64 ((k - 6 : Nat) : Int)
  | 12 => v = .int .i64 ((2 * (k - 6) : Nat) : Int)
  | 13 => v = .pointer (some ⟨g11, 13, none⟩)
  | 14 => v = .int .i64 (b : Int)
  | 15 => v = .string (layB s (2 * (k - 6)) (putL b 2))
  | 16 => w.ownsRow B 9 1 v zs.length (zs.map .string)
  | 17 => v = .pointer (some ⟨g11, 0, none⟩)
  | _ => True
theorem plcS_mono (B g4 g11 gs cs n l10 k b : Nat) (s : ByteArray) (zs : List ByteArray) (i : Nat) (v : Value) (w w' : World) (h : plcS B g4 g11 gs cs n l10 k b s zs i v w) (hb : Below w.heap.size w w') : plcS B g4 g11 gs cs n l10 k b s zs i v w' := by
  unfold plcS at h ⊢
  split at h <;> first
    | exact h
    | exact own_below h hb
    | trivial
set_option maxHeartbeats 8000000 in
theorem rplace_ind (A : Option Addr) (c : Nat) (xs : List ByteArray) (m k : Nat) (l : List Nat) (w : World) (hv : IsVol xs m) (hl : FitN l) (hk : k < 70) (h : RowAt w w.heap.size A (xs.map .string)) (hz : atX xs m l k = 0) (hk6 : 6 ≤ k) (hdb : datB xs m (l.getD 10 0) = true) :
    Calls Tryz.prog 44 #[.slice A xs.length c, .agg (inoC l), .int .i64 k] w (PlcRd A xs (plaG noK xs m l k) w) := by
  have HPL : Hid (plaG noK xs m l k = (takX xs m).map fun r => ((layX r.1 (l.getD 10 0) (2 * (k - 6)) (putL r.2 2), l), r.2)) := by
    show _ = _
    unfold plaG indG
    rw [if_neg (by rw [hz]; simp), if_pos (.inr hdb)]
    simp only [Option.bind_some]
    cases ht : takX xs m with
    | none => rfl
    | some r =>
      simp only [Option.map_some]
      unfold nameG
      rw [if_neg (by omega), if_pos (by rw [datB_len (ys := xs) m _ (takX_ok hv ht).2.1]; exact hdb)]
  have hlen0 := hv.len
  have I0 := ((Below.refl w.heap.size w).alloc (Nat.le_refl _) (.cells (inoC l) 35)).alloc (by simp) (.cells #[.slice none 0 0, .int .i64 0, .int .i64 0, .int .i64 0, .int .i64 0, .int .i64 0, .int .i64 0, .int .i64 0, .int .i64 0, .int .i64 0, .int .i64 0, .int .i64 0, .int .i64 0, .int .i64 0, .int .i64 0] 85)
  have GI := Lib.hid ((Blk.new w 35 (inoC l)).alloc (.cells #[.slice none 0 0, .int .i64 0, .int .i64 0, .int .i64 0, .int .i64 0, .int .i64 0, .int .i64 0, .int .i64 0, .int .i64 0, .int .i64 0, .int .i64 0, .int .i64 0, .int .i64 0, .int .i64 0, .int .i64 0] 85))
  have GP : Hid (∃ Z : Array Value, Z.size = 15 ∧ Blk ((w.alloc (.cells (inoC l) 35)).alloc (.cells #[.slice none 0 0, .int .i64 0, .int .i64 0, .int .i64 0, .int .i64 0, .int .i64 0, .int .i64 0, .int .i64 0, .int .i64 0, .int .i64 0, .int .i64 0, .int .i64 0, .int .i64 0, .int .i64 0, .int .i64 0] 85)) (w.heap.size + 1) 85 Z) := by
    have := Blk.new (w.alloc (.cells (inoC l) 35)) 85 #[.slice none 0 0, .int .i64 0, .int .i64 0, .int .i64 0, .int .i64 0, .int .i64 0, .int .i64 0, .int .i64 0, .int .i64 0, .int .i64 0, .int .i64 0, .int .i64 0, .int .i64 0, .int .i64 0, .int .i64 0]
    rw [World.size_alloc] at this
    exact ⟨_, rfl, this⟩
  have B0 := Lib.hid I0
  have R0 := Lib.hid ((h.below I0).mono I0.size)
  have HIN := Lib.hid (ino_info12 hl.1)
  have HV0 := Lib.hid hv
  have HFT0 := Lib.hid hl
  have CD := Lib.hid (fun w h => rdata_any A c xs m w hv h)
  have CA := Lib.hid (fun w h => rat_any A c xs m k l w hv hl hk h)
  rw [hz] at CA
  have CGD := Lib.hid (fun w => rgood_any A c xs m (l.getD 10 0) w (by omega))
  have hgd : goodN xs m (l.getD 10 0) = if datB xs m (l.getD 10 0) = true then l.getD 10 0 else 0 := rfl
  have c10 := inoC_at hl.1 10 (by omega)
  rw [if_pos hdb] at hgd
  have hp3 := datB_pos hdb
  have HDB := Lib.hid hdb
  rw [hgd] at CGD
  have hne : ¬ ((l.getD 10 0 : Nat) : Int) = 0 := by omega
  have hne2 : (((l.getD 10 0 : Nat) : Int) == 0) = false := beq_eq_false_iff_ne.2 hne
  obtain ⟨q10, hq10⟩ : ∃ q10, l.getD 10 0 = q10 := ⟨_, rfl⟩
  have HQ10 := Lib.hid hq10
  rw [hq10] at c10 CGD hne hne2
  clear hdb hgd hp3 hq10
  have HC10 := Lib.hid c10
  generalize dataN m = d at *
  clear I0 h hl hz hv c10
  go_enter Tryz.func44, Tryz.ntmps44
  go_wp2_with fail
  generalize World.alloc _ _ = w0 at *
  refine (CD.out _ R0.out).mono ?_
  rintro e w1 ⟨rfl, hb1⟩
  obtain ⟨Z, hZ, hGP⟩ := GP.out
  have HZ := Lib.hid hZ
  have B1 := Lib.hid (B0.out.trans (hb1.mono B0.out.size))
  have G1 := Lib.hid (hGP.below hb1 hGP.lt)
  have GI1 := Lib.hid (GI.out.below hb1 GI.out.lt)
  have R1 := Lib.hid ((R0.out.below hb1).mono hb1.size)
  clear hb1 B0 GP GI R0 hGP hZ
  go_wp2_with (refine load_blk 35 (.tmp 4) w.heap.size 35 (inoC l) _ rfl rfl rfl GI1.out Tryz.underlying35 rfl HIN.out ?_; go_frame)
  refine (CA.out _ R1.out).mono ?_
  rintro e w2 ⟨rfl, hb2⟩
  have B2 := Lib.hid (B1.out.trans (hb2.mono B1.out.size))
  have G2 := Lib.hid (G1.out.below hb2 G1.out.lt)
  have GI2 := Lib.hid (GI1.out.below hb2 GI1.out.lt)
  have R2 := Lib.hid ((R1.out.below hb2).mono hb2.size)
  have k10 := GI2.out.cell 10 HC10.out
  clear hb2 B1 G1 GI1 R1 CD CA
  have hk7 : ¬ (k : Int) < 6 := by omega
  go_wp2_with fail
  refine (CGD.out _).mono ?_
  rintro e w2' ⟨rfl, rfl⟩
  have HV1 := Lib.hid HV0.out
  have HFT := Lib.hid HFT0.out
  clear k10 CGD HV0 HFT0 HIN HC10
  have CT := Lib.hid (fun w h => rtake_one A c xs m l w HV1.out HFT.out h)
  have HIN1 := Lib.hid (ino_info12 HFT.out.1)
  go_wp2_with (refine load_blk 35 (.tmp 4) w.heap.size 35 (inoC l) _ rfl rfl rfl GI2.out Tryz.underlying35 rfl HIN1.out ?_; go_frame)
  refine (CT.out _ R2.out).mono ?_
  rintro e w3 ⟨sl, lr, b, code, ys, rfl, hlr, hown, hcase, hb3⟩
  have hone := own_one hown
  have HOWN := Lib.hid hown
  have G3 := Lib.hid (G2.out.below hb3 G2.out.lt)
  have GI3 := Lib.hid (GI2.out.below hb3 GI2.out.lt)
  have B3 := Lib.hid (B2.out.trans (hb3.mono B2.out.size))
  have HZ2 := Lib.hid B2.out.size
  obtain ⟨C, hC⟩ : ∃ C, plcC sl lr (b : Int) code = C := ⟨_, rfl⟩
  have hCS : C.size = 15 := by rw [← hC]; exact plcC_size _ _ _ hlr
  have HCS := Lib.hid hCS
  have HCI : Hid ((Tryz.prog.info? 85).map (·.size) = some C.size) := by show _ = _; rw [hCS]; kernel_rfl
  have HC1 : Hid (∀ v ∈ C, v.oneCell' = true) := by rw [← hC]; exact plcC_one _ _ _ _ hone
  have HC0 : Hid (C[0]? = some sl) := by show _ = _; rw [← hC]; exact plcC_0
  have HC13 : Hid (C[13]? = some (.int .i64 (b : Int))) := by show _ = _; rw [← hC]; exact plcC_b hlr
  have HC14 : Hid (C[14]? = some (.int .i64 code)) := by show _ = _; rw [← hC]; exact plcC_e hlr
  have HCC := Lib.hid hC
  rw [hC]
  clear hC hCS hone hown hb3 G2 B2 R2 GI2 CT HIN1
  have KG : Hid (∀ (cs : Array Value) (w4 : World), (w3.alloc (.cells cs 85)).grownBy w4 (some w3.heap.size) → Blk w4 (w.heap.size + 1) 85 Z ∧ Blk w4 w.heap.size 35 (inoC l) ∧ Below w.heap.size w w4 ∧ w3.heap.size < w4.heap.size ∧ w4.ownsRow w2.heap.size 9 1 sl ys.length (ys.map .string)) := fun cs w4 h4 => by
    have hlt := G3.out.lt
    have hlt2 := GI3.out.lt
    have hz : (w3.alloc (.cells cs 85)).heap.size = w3.heap.size + 1 := by simp
    have s4 := h4.size
    refine ⟨(G3.out.alloc _).grown h4 (by intro e; injection e; omega), (GI3.out.alloc _).grown h4 (by intro e; injection e; omega), (B3.out.alloc B3.out.size _).grown h4 (by have := B3.out.size; omega) (fun j e => by cases e; exact B3.out.size), by omega, ?_⟩
    exact own_grown (HOWN.out.alloc (.cells cs 85)) (Blk.new w3 85 cs) (by decide) h4
  cases ht : takX xs m with
  | none =>
    rw [ht] at hcase
    obtain ⟨rfl, rfl, rfl, rfl, rfl⟩ := hcase
    have HPN : Hid (plaG noK xs m l k = none) := by show _ = _; rw [HPL.out, ht]; rfl
    clear ht
    go_wp2_with (first
      | (refine store_blk 85 (.tmp 11) (.tmp 59) w3.heap.size 85 _ C rfl rfl rfl rfl (Blk.new w3 _ _) (by rw [HCS.out]; rfl) HCI.out HC1.out ?_; intro w4 hr4 hg4; have k14 := hr4.cell 14 HC14.out; have hG4 := (KG.out _ _ hg4).1)
      | (refine load_blk 85 (.tmp 11) w3.heap.size 85 C _ rfl rfl rfl hr4 Tryz.underlying85 rfl HCI.out ?_; go_frame)
      | (refine store_blk 85 (.tmp 6) (.tmp 63) (w.heap.size + 1) 85 Z C rfl rfl rfl rfl hG4 (by rw [HCS.out, HZ.out]) HCI.out HC1.out ?_; intro w6 hr6 hg6))
    refine bodyPost_ret (results_cell_row rfl _ _ (w.heap.size + 1) _ _ (0, 0) _ rfl hr6 Tryz.underlying85 rfl HCI.out) rfl ?_
    rw [HPN.out]
    refine ⟨(KG.out _ _ hg4).2.2.1.grown hg6 (KG.out _ _ hg4).2.2.1.size (fun j e => by cases e; omega), ?_⟩
    show Ending.returned _ = _
    rw [← HCC.out]; rfl
  | some r =>
    rw [ht] at hcase
    obtain ⟨hq1, rfl, rfl, rfl⟩ := hcase
    replace hq1 := hq1.symm
    subst hq1
    have hto := takX_ok HV1.out ht
    obtain ⟨ys, b⟩ := r
    dsimp only at *
    have hvy : IsVol ys m := hto.1
    have hyl : ys.length = xs.length := hto.2.1
    have hbd := datB_iff.1 hto.2.2.1
    have hlen := HV1.out.len
    have hd1 := datB_iff.1 HDB.out
    obtain ⟨l10, hl10⟩ : ∃ l10, l.getD 10 0 = l10 := ⟨_, rfl⟩
    rw [hl10] at hd1
    have hll : l10 < ys.length := by omega
    obtain ⟨s, hs⟩ : ∃ s, ys[l10] = s := ⟨_, rfl⟩
    have hss : s.size = 128 := by rw [← hs]; exact hvy.1 _ (List.getElem_mem hll)
    have HSS := Lib.hid hs
    obtain ⟨zs, hzs⟩ : ∃ zs, layX ys l10 (2 * (k - 6)) (putL b 2) = zs := ⟨_, rfl⟩
    have HSET : Hid (ys.set l10 (layB s (2 * (k - 6)) (putL b 2)) = zs) := by
      show _ = _
      rw [← hzs]
      unfold layX
      rw [List.getD_eq_getElem?_getD, List.getElem?_eq_getElem hll, hs]; rfl
    have hzl : zs.length = ys.length := by rw [← hzs]; exact layX_length _ _ _ _
    have HPN : Hid (plaG noK xs m l k = some ((zs, l), b)) := by show _ = _; rw [HPL.out, ht, ← hzs, ← hl10]; rfl
    have HCS10 := inoC_at HFT.out.1 10 (by omega)
    rw [hl10] at HCS10
    have HI10 := Lib.hid HCS10
    obtain ⟨gs, cs, rfl⟩ := Go.Joins.ownsRow_form HOWN.out (by omega)
    have wk6 : IntKind.i64.wrap ((k : Int) - 6) = ((k - 6 : Nat) : Int) := by
      have : IntKind.i64.wrap ((k : Int) - 6) = (k : Int) - 6 := IntWalk.i64_in _ (by omega)
      rw [this]; omega
    have wk7 : IntKind.i64.wrap (2 * ((k - 6 : Nat) : Int)) = 2 * ((k - 6 : Nat) : Int) := IntWalk.i64_in _ (by omega)
    have hb16 : b ≤ 65535 := by omega
    have hz34 : w.heap.size + 1 < w3.heap.size := G3.out.lt
    clear ht hto hs hzs hl10 hbd HCS10
    go_wp2_with (refine store_blk 85 (.tmp 11) (.tmp 59) w3.heap.size 85 _ C rfl rfl rfl rfl (Blk.new w3 _ _) (by rw [HCS.out]; rfl) HCI.out HC1.out ?_; intro w4 hr4 hg4; have k14 := hr4.cell 14 HC14.out)
    obtain ⟨hG4, hI4, hB4, hS4, hO4⟩ := KG.out _ _ hg4
    clear KG G3 GI3 B3 HOWN k14 hg4
    refine wp_region_inv 18 (plcS w.heap.size w.heap.size w3.heap.size gs cs ys.length l10 k b s zs) (by kernel_rfl) (by kernel_rfl) (plcS_mono w.heap.size w.heap.size w3.heap.size gs cs ys.length l10 k b s zs) ?_ ?_
    · intro i o a' w' hi ho hb hag
      have ev : ∀ t, Operand.tmp t ∈ o.op.operands → ∀ (j : Nat) (oj : Oper), _ → oj.dst = some t → plcS w.heap.size w.heap.size w3.heap.size gs cs ys.length l10 k b s zs j (a'.eval (.tmp t)) w' := fun t ht j oj hj hd => (hag t ht).1 j oj hj hd
      have eb : ∀ t, Operand.tmp t ∈ o.op.operands → _ → a'.eval (.tmp t) = _ := fun t ht h => (hag t ht).2 h
      have hP := hr4.below hb hr4.lt
      have hI := hI4.below hb hI4.lt
      have hO := own_below hO4 hb
      have hc0 := hP.cell 0 HC0.out
      have hc13 := hP.cell 13 HC13.out
      have hc10 := hI.cell 10 HI10.out
      have hcs : w'.cell? ⟨gs, l10, none⟩ = some (.string s) := by
        obtain ⟨b', o', hA, _, hc⟩ := (RowAt.of_own hO).at_ (by rw [List.length_map]; omega)
        injection hA with hA
        injection hA with h1 h2 _
        have := hc l10 (.string s) (by rw [List.getElem?_map, List.getElem?_eq_getElem hll, HSS.out]; rfl)
        rwa [← h1, ← h2, Nat.zero_add] at this
      obtain rfl | rfl | rfl | rfl | rfl | rfl | rfl | rfl | rfl | rfl | rfl | rfl | rfl | rfl | rfl | rfl | rfl | rfl : i = 0 ∨ i = 1 ∨ i = 2 ∨ i = 3 ∨ i = 4 ∨ i = 5 ∨ i = 6 ∨ i = 7 ∨ i = 8 ∨ i = 9 ∨ i = 10 ∨ i = 11 ∨ i = 12 ∨ i = 13 ∨ i = 14 ∨ i = 15 ∨ i = 16 ∨ i = 17 := by omega
      · cases ho
        have e : a'.eval (.tmp 11) = .pointer (some ⟨w3.heap.size, 0, none⟩) := eb 11 (by simp [Op.operands]) (notDst rfl)
        have e' : a'.tmps[11]?.getD undef = .pointer (some ⟨w3.heap.size, 0, none⟩) := by rw [← Array.getD_eq_getD_getElem?]; exact e
        refine step_val (v := .pointer (some ⟨w3.heap.size, 0, none⟩)) (w' := w') ?_ rfl (Below.refl _ _)
        unfold execOp
        simp [go_sem, e']
      · cases ho
        have e : a'.eval (.tmp 64) = .pointer (some ⟨w3.heap.size, 0, none⟩) := ev 64 (by simp [Op.operands, Call.operands]) 0 _ rfl rfl
        have e' : a'.tmps[64]?.getD undef = .pointer (some ⟨w3.heap.size, 0, none⟩) := by rw [← Array.getD_eq_getD_getElem?]; exact e
        refine step_val (v := .slice (some ⟨gs, 0, none⟩) ys.length cs) (w' := w') ?_ rfl (Below.refl _ _)
        unfold execOp
        simp [go_sem, e', hc0]
      · cases ho
        have e : a'.eval (.tmp 4) = .pointer (some ⟨w.heap.size, 0, none⟩) := eb 4 (by simp [Op.operands]) (notDst rfl)
        have e' : a'.tmps[4]?.getD undef = .pointer (some ⟨w.heap.size, 0, none⟩) := by rw [← Array.getD_eq_getD_getElem?]; exact e
        refine step_val (v := .pointer (some ⟨w.heap.size, 10, none⟩)) (w' := w') ?_ rfl (Below.refl _ _)
        unfold execOp
        simp [go_sem, e']
      · cases ho
        have e : a'.eval (.tmp 66) = .pointer (some ⟨w.heap.size, 10, none⟩) := ev 66 (by simp [Op.operands, Call.operands]) 2 _ rfl rfl
        have e' : a'.tmps[66]?.getD undef = .pointer (some ⟨w.heap.size, 10, none⟩) := by rw [← Array.getD_eq_getD_getElem?]; exact e
        refine step_val (v := .int .i64 (l10 : Int)) (w' := w') ?_ rfl (Below.refl _ _)
        unfold execOp
        simp [go_sem, e', hc10]
      · cases ho
        have e : a'.eval (.tmp 11) = .pointer (some ⟨w3.heap.size, 0, none⟩) := eb 11 (by simp [Op.operands]) (notDst rfl)
        have e' : a'.tmps[11]?.getD undef = .pointer (some ⟨w3.heap.size, 0, none⟩) := by rw [← Array.getD_eq_getD_getElem?]; exact e
        refine step_val (v := .pointer (some ⟨w3.heap.size, 0, none⟩)) (w' := w') ?_ rfl (Below.refl _ _)
        unfold execOp
        simp [go_sem, e']
      · cases ho
        have e : a'.eval (.tmp 68) = .pointer (some ⟨w3.heap.size, 0, none⟩) := ev 68 (by simp [Op.operands, Call.operands]) 4 _ rfl rfl
        have e' : a'.tmps[68]?.getD undef = .pointer (some ⟨w3.heap.size, 0, none⟩) := by rw [← Array.getD_eq_getD_getElem?]; exact e
        refine step_val (v := .slice (some ⟨gs, 0, none⟩) ys.length cs) (w' := w') ?_ rfl (Below.refl _ _)
        unfold execOp
        simp [go_sem, e', hc0]
      · cases ho
        have e : a'.eval (.tmp 4) = .pointer (some ⟨w.heap.size, 0, none⟩) := eb 4 (by simp [Op.operands]) (notDst rfl)
        have e' : a'.tmps[4]?.getD undef = .pointer (some ⟨w.heap.size, 0, none⟩) := by rw [← Array.getD_eq_getD_getElem?]; exact e
        refine step_val (v := .pointer (some ⟨w.heap.size, 10, none⟩)) (w' := w') ?_ rfl (Below.refl _ _)
        unfold execOp
        simp [go_sem, e']
      · cases ho
        have e : a'.eval (.tmp 70) = .pointer (some ⟨w.heap.size, 10, none⟩) := ev 70 (by simp [Op.operands, Call.operands]) 6 _ rfl rfl
        have e' : a'.tmps[70]?.getD undef = .pointer (some ⟨w.heap.size, 10, none⟩) := by rw [← Array.getD_eq_getD_getElem?]; exact e
        refine step_val (v := .int .i64 (l10 : Int)) (w' := w') ?_ rfl (Below.refl _ _)
        unfold execOp
        simp [go_sem, e', hc10]
      · cases ho
        have e1 : a'.eval (.tmp 69) = .slice (some ⟨gs, 0, none⟩) ys.length cs := ev 69 (by simp [Op.operands, Call.operands]) 5 _ rfl rfl
        have e1' : a'.tmps[69]?.getD undef = .slice (some ⟨gs, 0, none⟩) ys.length cs := by rw [← Array.getD_eq_getD_getElem?]; exact e1
        have e2 : a'.eval (.tmp 71) = .int .i64 (l10 : Int) := ev 71 (by simp [Op.operands, Call.operands]) 7 _ rfl rfl
        have e2' : a'.tmps[71]?.getD undef = .int .i64 (l10 : Int) := by rw [← Array.getD_eq_getD_getElem?]; exact e2
        refine step_val (v := .pointer (some ⟨gs, l10, none⟩)) (w' := w') ?_ rfl (Below.refl _ _)
        unfold execOp
        simp [go_sem, e1', e2', hll]
      · cases ho
        have e : a'.eval (.tmp 72) = .pointer (some ⟨gs, l10, none⟩) := ev 72 (by simp [Op.operands, Call.operands]) 8 _ rfl rfl
        have e' : a'.tmps[72]?.getD undef = .pointer (some ⟨gs, l10, none⟩) := by rw [← Array.getD_eq_getD_getElem?]; exact e
        refine step_val (v := .string s) (w' := w') ?_ rfl (Below.refl _ _)
        unfold execOp
        simp [go_sem, e', hcs]
      · cases ho
        have e : a'.eval (.tmp 2) = .int .i64 (k : Int) := eb 2 (by simp [Op.operands]) (notDst rfl)
        refine step_val (v := .int .i64 (k : Int)) (w' := w') ?_ rfl (Below.refl _ _)
        unfold execOp
        simp only [e, Sem.run_pure]
      · cases ho
        have e : a'.eval (.tmp 74) = .int .i64 (k : Int) := ev 74 (by simp [Op.operands, Call.operands]) 10 _ rfl rfl
        have e' : a'.tmps[74]?.getD undef = .int .i64 (k : Int) := by rw [← Array.getD_eq_getD_getElem?]; exact e
        refine step_val (v := .int .i64 ((k - 6 : Nat) : Int)) (w' := w') ?_ rfl (Below.refl _ _)
        unfold execOp
        simp [go_sem, e', wk6]
      · cases ho
        have e : a'.eval (.tmp 75) = .int .i64 ((k - 6 : Nat) : Int) := ev 75 (by simp [Op.operands, Call.operands]) 11 _ rfl rfl
        have e' : a'.tmps[75]?.getD undef = .int .i64 ((k - 6 : Nat) : Int) := by rw [← Array.getD_eq_getD_getElem?]; exact e
        refine step_val (v := .int .i64 ((2 * (k - 6) : Nat) : Int)) (w' := w') ?_ rfl (Below.refl _ _)
        unfold execOp
        simp [go_sem, e', wk7]
      · cases ho
        have e : a'.eval (.tmp 11) = .pointer (some ⟨w3.heap.size, 0, none⟩) := eb 11 (by simp [Op.operands]) (notDst rfl)
        have e' : a'.tmps[11]?.getD undef = .pointer (some ⟨w3.heap.size, 0, none⟩) := by rw [← Array.getD_eq_getD_getElem?]; exact e
        refine step_val (v := .pointer (some ⟨w3.heap.size, 13, none⟩)) (w' := w') ?_ rfl (Below.refl _ _)
        unfold execOp
        simp [go_sem, e']
      · cases ho
        have e : a'.eval (.tmp 77) = .pointer (some ⟨w3.heap.size, 13, none⟩) := ev 77 (by simp [Op.operands, Call.operands]) 13 _ rfl rfl
        have e' : a'.tmps[77]?.getD undef = .pointer (some ⟨w3.heap.size, 13, none⟩) := by rw [← Array.getD_eq_getD_getElem?]; exact e
        refine step_val (v := .int .i64 (b : Int)) (w' := w') ?_ rfl (Below.refl _ _)
        unfold execOp
        simp [go_sem, e', hc13]
      · cases ho
        have e1 : a'.eval (.tmp 73) = .string s := ev 73 (by simp [Op.operands, Call.operands]) 9 _ rfl rfl
        have e1' : a'.tmps[73]?.getD undef = .string s := by rw [← Array.getD_eq_getD_getElem?]; exact e1
        have e2 : a'.eval (.tmp 76) = .int .i64 ((2 * (k - 6) : Nat) : Int) := ev 76 (by simp [Op.operands, Call.operands]) 12 _ rfl rfl
        have e2' : a'.tmps[76]?.getD undef = .int .i64 ((2 * (k - 6) : Nat) : Int) := by rw [← Array.getD_eq_getD_getElem?]; exact e2
        have e3 : a'.eval (.tmp 78) = .int .i64 (b : Int) := ev 78 (by simp [Op.operands, Call.operands]) 14 _ rfl rfl
        have e3' : a'.tmps[78]?.getD undef = .int .i64 (b : Int) := by rw [← Array.getD_eq_getD_getElem?]; exact e3
        refine step_call (f := 77) (args := #[.string s, .int .i64 ((2 * (k - 6) : Nat) : Int), .int .i64 (b : Int)]) ?_ ?_
        · unfold execOp
          simp [go_sem, e1', e2', e3']
        · exact (rput19_any s (2 * (k - 6)) b w' hss (by omega) (by omega)).mono fun e w2 ⟨he, hb2⟩ => ⟨_, he, rfl, hb2⟩
      · cases ho
        have e1 : a'.eval (.tmp 65) = .slice (some ⟨gs, 0, none⟩) ys.length cs := ev 65 (by simp [Op.operands, Call.operands]) 1 _ rfl rfl
        have e1' : a'.tmps[65]?.getD undef = .slice (some ⟨gs, 0, none⟩) ys.length cs := by rw [← Array.getD_eq_getD_getElem?]; exact e1
        have e2 : a'.eval (.tmp 67) = .int .i64 (l10 : Int) := ev 67 (by simp [Op.operands, Call.operands]) 3 _ rfl rfl
        have e2' : a'.tmps[67]?.getD undef = .int .i64 (l10 : Int) := by rw [← Array.getD_eq_getD_getElem?]; exact e2
        have e3 : a'.eval (.tmp 79) = .string (layB s (2 * (k - 6)) (putL b 2)) := ev 79 (by simp [Op.operands, Call.operands]) 15 _ rfl rfl
        have e3' : a'.tmps[79]?.getD undef = .string (layB s (2 * (k - 6)) (putL b 2)) := by rw [← Array.getD_eq_getD_getElem?]; exact e3
        refine step_call (f := 45) (args := #[.slice (some ⟨gs, 0, none⟩) ys.length cs, .int .i64 (l10 : Int), .string (layB s (2 * (k - 6)) (putL b 2))]) ?_ ?_
        · unfold execOp
          simp [go_sem, e1', e2', e3']
        · refine (rwith_any _ cs ys l10 _ w' hll (by omega) (RowAt.of_own hO)).mono ?_
          rintro e w2 ⟨v, he, hn, hb2⟩
          rw [HSET.out] at hn
          exact ⟨v, he, own_low hn (by have := hb.size; omega), hb2⟩
      · cases ho
        have e : a'.eval (.tmp 11) = .pointer (some ⟨w3.heap.size, 0, none⟩) := eb 11 (by simp [Op.operands]) (notDst rfl)
        have e' : a'.tmps[11]?.getD undef = .pointer (some ⟨w3.heap.size, 0, none⟩) := by rw [← Array.getD_eq_getD_getElem?]; exact e
        refine step_val (v := .pointer (some ⟨w3.heap.size, 0, none⟩)) (w' := w') ?_ rfl (Below.refl _ _)
        unfold execOp
        simp [go_sem, e']
    · intro a' w5 hb5 hdf hsz hsp hrest
      have hf := frame_of [64, 65, 66, 67, 68, 69, 70, 71, 72, 73, 74, 75, 76, 77, 78, 79, 80, 81] hdf hsz (fun t ht => hrest t (notDst_of rfl ht))
      have o80 : w5.ownsRow w.heap.size 9 1 (a'.tmps.getD 80 undef) zs.length (zs.map .string) := hsp 16 _ 80 (by decide) rfl rfl
      have v81 : a'.tmps.getD 81 undef = .pointer (some ⟨w3.heap.size, 0, none⟩) := hsp 17 _ 81 (by decide) rfl rfl
      obtain ⟨gz, cz, hvz⟩ := Go.Joins.ownsRow_form o80 (by omega)
      have O5 : Hid (w5.ownsRow w.heap.size 9 1 (.slice (some ⟨gz, 0, none⟩) zs.length cz) zs.length (zs.map .string)) := by rw [← hvz]; exact o80
      simp only [List.map_cons, List.map_nil, putsD] at hf
      rw [hvz, v81] at hf
      generalize a'.tmps.getD 64 undef = x64 at hf
      generalize a'.tmps.getD 65 undef = x65 at hf
      generalize a'.tmps.getD 66 undef = x66 at hf
      generalize a'.tmps.getD 67 undef = x67 at hf
      generalize a'.tmps.getD 68 undef = x68 at hf
      generalize a'.tmps.getD 69 undef = x69 at hf
      generalize a'.tmps.getD 70 undef = x70 at hf
      generalize a'.tmps.getD 71 undef = x71 at hf
      generalize a'.tmps.getD 72 undef = x72 at hf
      generalize a'.tmps.getD 73 undef = x73 at hf
      generalize a'.tmps.getD 74 undef = x74 at hf
      generalize a'.tmps.getD 75 undef = x75 at hf
      generalize a'.tmps.getD 76 undef = x76 at hf
      generalize a'.tmps.getD 77 undef = x77 at hf
      generalize a'.tmps.getD 78 undef = x78 at hf
      generalize a'.tmps.getD 79 undef = x79 at hf
      have P5 := Lib.hid (hr4.below hb5 hr4.lt)
      have G5 := Lib.hid (hG4.below hb5 hG4.lt)
      have B5 := Lib.hid (hB4.trans (hb5.mono hB4.size))
      clear hsp hrest hdf hsz o80 v81 hvz hr4 hG4 hI4 hB4 hO4 hb5
      subst hf
      simp only [List.drop_succ_cons, List.drop_zero]
      obtain ⟨D, hD⟩ : ∃ D, plcC (.slice (some ⟨gz, 0, none⟩) zs.length cz) l (b : Int) 0 = D := ⟨_, rfl⟩
      have hDS : D.size = 15 := by rw [← hD]; exact plcC_size _ _ _ HFT.out.1
      have HDI : Hid ((Tryz.prog.info? 85).map (·.size) = some D.size) := by show _ = _; rw [hDS]; kernel_rfl
      have HD1 : Hid (∀ v ∈ D, v.oneCell' = true) := by rw [← hD]; exact plcC_one _ _ _ _ rfl
      have HCD : Hid (C.setIfInBounds 0 (.slice (some ⟨gz, 0, none⟩) zs.length cz) = D) := by show _ = _; rw [← HCC.out, ← hD]; exact plcC_set0 _
      have HDS := Lib.hid hDS
      have HDD := Lib.hid hD
      have HSZ : Hid (∀ w, Sem.run Tryz.prog (sizeOf 22) w = .ok 1 w) := fun w => by kernel_rfl
      have HLT : Hid (0 < C.size) := by show _ < _; rw [HCS.out]; omega
      have KF : Hid (∀ w6 w7 : World, w5.grownBy w6 (some w3.heap.size) → w6.grownBy w7 (some (w.heap.size + 1)) → Blk w6 (w.heap.size + 1) 85 Z ∧ Below w.heap.size w w7 ∧ w7.ownsRow w.heap.size 9 1 (.slice (some ⟨gz, 0, none⟩) zs.length cz) zs.length (zs.map .string)) := fun w6 w7 h6 h7 => by
        have hg6 : Blk w6 (w.heap.size + 1) 85 Z := G5.out.grown h6 (by intro e; injection e; omega)
        have s6 := h6.size
        have b6 := B5.out.grown h6 B5.out.size (fun j e => by cases e; omega)
        exact ⟨hg6, b6.grown h7 b6.size (fun j e => by cases e; omega), own_grown (own_grown O5.out P5.out (by decide) h6) hg6 (by decide) h7⟩
      clear hD hDS
      go_frame
      refine store_slice_blk 22 (.tmp 81) (.tmp 80) w3.heap.size 0 (some ⟨gz, 0, none⟩) zs.length cz 85 C rfl rfl rfl rfl HSZ.out P5.out HLT.out ?_
      intro w6 hr6 hg6
      rw [HCD.out] at hr6
      have hG6 := (KF.out w6 w6 hg6 (World.grownBy.refl w6 _)).1
      go_wp2_with (first
        | (refine load_blk 85 (.tmp 11) w3.heap.size 85 D _ rfl rfl rfl hr6 Tryz.underlying85 rfl HDI.out ?_; go_frame)
        | (refine store_blk 85 (.tmp 6) (.tmp 82) (w.heap.size + 1) 85 Z D rfl rfl rfl rfl hG6 (by rw [HDS.out, HZ.out]) HDI.out HD1.out ?_; intro w7 hr7 hg7))
      refine bodyPost_ret (results_cell_row rfl _ _ (w.heap.size + 1) _ _ (0, 0) _ rfl hr7 Tryz.underlying85 rfl HDI.out) rfl ?_
      rw [HPN.out]
      obtain ⟨_, B7, O7⟩ := KF.out _ _ hg6 hg7
      exact ⟨B7, _, cz, by rw [← HDD.out], RowAt.of_own O7, fun g hg _ => RowOff.of_own O7 hg⟩
set_option maxHeartbeats 8000000 in
theorem rplace_new (A : Option Addr) (c : Nat) (xs : List ByteArray) (m k : Nat) (l : List Nat) (w : World) (hv : IsVol xs m) (hl : FitN l) (hk : k < 70) (h : RowAt w w.heap.size A (xs.map .string)) (hz : atX xs m l k = 0) (hk6 : 6 ≤ k) (hdb : datB xs m (l.getD 10 0) = false) :
    Calls Tryz.prog 44 #[.slice A xs.length c, .agg (inoC l), .int .i64 k] w (PlcRd A xs (plaG noK xs m l k) w) := by
  have hlen0 := hv.len
  have I0 := ((Below.refl w.heap.size w).alloc (Nat.le_refl _) (.cells (inoC l) 35)).alloc (by simp) (.cells #[.slice none 0 0, .int .i64 0, .int .i64 0, .int .i64 0, .int .i64 0, .int .i64 0, .int .i64 0, .int .i64 0, .int .i64 0, .int .i64 0, .int .i64 0, .int .i64 0, .int .i64 0, .int .i64 0, .int .i64 0] 85)
  have GI := Lib.hid ((Blk.new w 35 (inoC l)).alloc (.cells #[.slice none 0 0, .int .i64 0, .int .i64 0, .int .i64 0, .int .i64 0, .int .i64 0, .int .i64 0, .int .i64 0, .int .i64 0, .int .i64 0, .int .i64 0, .int .i64 0, .int .i64 0, .int .i64 0, .int .i64 0] 85))
  have GP : Hid (∃ Z : Array Value, Z.size = 15 ∧ Blk ((w.alloc (.cells (inoC l) 35)).alloc (.cells #[.slice none 0 0, .int .i64 0, .int .i64 0, .int .i64 0, .int .i64 0, .int .i64 0, .int .i64 0, .int .i64 0, .int .i64 0, .int .i64 0, .int .i64 0, .int .i64 0, .int .i64 0, .int .i64 0, .int .i64 0] 85)) (w.heap.size + 1) 85 Z) := by
    have := Blk.new (w.alloc (.cells (inoC l) 35)) 85 #[.slice none 0 0, .int .i64 0, .int .i64 0, .int .i64 0, .int .i64 0, .int .i64 0, .int .i64 0, .int .i64 0, .int .i64 0, .int .i64 0, .int .i64 0, .int .i64 0, .int .i64 0, .int .i64 0, .int .i64 0]
    rw [World.size_alloc] at this
    exact ⟨_, rfl, this⟩
  have B0 := Lib.hid I0
  have R0 := Lib.hid ((h.below I0).mono I0.size)
  have HIN := Lib.hid (ino_info12 hl.1)
  have HV0 := Lib.hid hv
  have HFT0 := Lib.hid hl
  have CD := Lib.hid (fun w h => rdata_any A c xs m w hv h)
  have CA := Lib.hid (fun w h => rat_any A c xs m k l w hv hl hk h)
  rw [hz] at CA
  have CGD := Lib.hid (fun w => rgood_any A c xs m (l.getD 10 0) w (by omega))
  have hgd : goodN xs m (l.getD 10 0) = if datB xs m (l.getD 10 0) = true then l.getD 10 0 else 0 := rfl
  have c10 := inoC_at hl.1 10 (by omega)
  rw [if_neg (by rw [hdb]; decide)] at hgd
  rw [hgd] at CGD
  have HDB0 := Lib.hid hdb
  have HIND : Hid (∀ r, takX xs m = some r → plaG noK xs m l k = (takX r.1 m).map fun r2 => ((layX r2.1 ((l.set 10 r.2).getD 10 0) (2 * (k - 6)) (putL r2.2 2), l.set 10 r.2), r2.2)) := fun r hr => by
    obtain ⟨o1, o2, o3, _, _⟩ := takX_ok hv hr
    have hd10 : (l.set 10 r.2).getD 10 0 = r.2 := by rw [getD_set _ _ _ _ _ (by have := hl.1; omega), if_pos rfl]
    unfold plaG indG
    rw [if_neg (by rw [hz]; simp), if_neg (by rintro (h | h); omega; rw [hdb] at h; cases h), hr]
    simp only [Option.map_some, Option.bind_some]
    unfold noK
    cases ht : takX r.1 m with
    | none => rfl
    | some r2 =>
      simp only [Option.map_some]
      unfold nameG
      rw [if_neg (by omega), if_pos (by rw [hd10, datB_len (ys := xs) m _ ((takX_ok o1 ht).2.1.trans o2)]; exact o3), hd10]
  have HNON : Hid (takX xs m = none → plaG noK xs m l k = none) := fun hr => by
    unfold plaG indG
    rw [if_neg (by rw [hz]; simp), if_neg (by rintro (h | h); omega; rw [hdb] at h; cases h), hr]
    rfl
  have CT0 := Lib.hid (fun w h => rtake_one A c xs m l w hv hl h)
  obtain ⟨q10, hq10⟩ : ∃ q10, l.getD 10 0 = q10 := ⟨_, rfl⟩
  rw [hq10] at c10 CGD
  clear hdb hgd hq10
  have HC10 := Lib.hid c10
  generalize dataN m = d at *
  clear I0 h hl hz hv c10
  go_enter Tryz.func44, Tryz.ntmps44
  go_wp2_with fail
  generalize World.alloc _ _ = w0 at *
  refine (CD.out _ R0.out).mono ?_
  rintro e w1 ⟨rfl, hb1⟩
  obtain ⟨Z, hZ, hGP⟩ := GP.out
  have HZ := Lib.hid hZ
  have B1 := Lib.hid (B0.out.trans (hb1.mono B0.out.size))
  have G1 := Lib.hid (hGP.below hb1 hGP.lt)
  have GI1 := Lib.hid (GI.out.below hb1 GI.out.lt)
  have R1 := Lib.hid ((R0.out.below hb1).mono hb1.size)
  clear hb1 B0 GP GI R0 hGP hZ
  go_wp2_with (refine load_blk 35 (.tmp 4) w.heap.size 35 (inoC l) _ rfl rfl rfl GI1.out Tryz.underlying35 rfl HIN.out ?_; go_frame)
  refine (CA.out _ R1.out).mono ?_
  rintro e w2 ⟨rfl, hb2⟩
  have B2 := Lib.hid (B1.out.trans (hb2.mono B1.out.size))
  have G2 := Lib.hid (G1.out.below hb2 G1.out.lt)
  have GI2 := Lib.hid (GI1.out.below hb2 GI1.out.lt)
  have R2 := Lib.hid ((R1.out.below hb2).mono hb2.size)
  have k10 := GI2.out.cell 10 HC10.out
  clear hb2 B1 G1 GI1 R1 CD CA
  have hk7 : ¬ (k : Int) < 6 := by omega
  go_wp2_with fail
  refine (CGD.out _).mono ?_
  rintro e w2' ⟨rfl, rfl⟩
  clear k10 CGD HC10
  go_wp2_with (refine load_blk 35 (.tmp 4) w.heap.size 35 (inoC l) _ rfl rfl rfl GI2.out Tryz.underlying35 rfl HIN.out ?_; go_frame)
  refine (CT0.out _ R2.out).mono ?_
  rintro e wa ⟨sl, lr, b0, code, xs1, rfl, hlr, hown, hcase, hba⟩
  have hone := own_one hown
  have HOWNa := Lib.hid hown
  have Ga := Lib.hid (G2.out.below hba G2.out.lt)
  have GIa := Lib.hid (GI2.out.below hba GI2.out.lt)
  have Ba := Lib.hid (B2.out.trans (hba.mono B2.out.size))
  obtain ⟨C, hC⟩ : ∃ C, plcC sl lr (b0 : Int) code = C := ⟨_, rfl⟩
  have hCS : C.size = 15 := by rw [← hC]; exact plcC_size _ _ _ hlr
  have HCS := Lib.hid hCS
  have HCI : Hid ((Tryz.prog.info? 85).map (·.size) = some C.size) := by show _ = _; rw [hCS]; kernel_rfl
  have HC1 : Hid (∀ v ∈ C, v.oneCell' = true) := by rw [← hC]; exact plcC_one _ _ _ _ hone
  have HC0 : Hid (C[0]? = some sl) := by show _ = _; rw [← hC]; exact plcC_0
  have HCL : Hid (∀ j, j < 12 → C[1 + j]? = some (.int .i64 ((lr.getD j 0 : Nat) : Int))) := fun j hj => by rw [← hC]; exact plcC_at hlr hj
  have HC13 : Hid (C[13]? = some (.int .i64 (b0 : Int))) := by show _ = _; rw [← hC]; exact plcC_b hlr
  have HC14 : Hid (C[14]? = some (.int .i64 code)) := by show _ = _; rw [← hC]; exact plcC_e hlr
  have HCC := Lib.hid hC
  rw [hC]
  clear hC hCS hone hown hba G2 B2 R2 GI2 CT0 HIN
  have KA : Hid (∀ (cs : Array Value) (w4 : World), (wa.alloc (.cells cs 85)).grownBy w4 (some wa.heap.size) → Blk w4 (w.heap.size + 1) 85 Z ∧ Blk w4 w.heap.size 35 (inoC l) ∧ Below w.heap.size w w4 ∧ w4.ownsRow w2.heap.size 9 1 sl xs1.length (xs1.map .string)) := fun cs w4 h4 => by
    have hlt := Ga.out.lt
    have hlt2 := GIa.out.lt
    exact ⟨(Ga.out.alloc _).grown h4 (by intro e; injection e; omega), (GIa.out.alloc _).grown h4 (by intro e; injection e; omega), (Ba.out.alloc Ba.out.size _).grown h4 (by have := Ba.out.size; simp; omega) (fun j e => by cases e; exact Ba.out.size), own_grown (HOWNa.out.alloc (.cells cs 85)) (Blk.new wa 85 cs) (by decide) h4⟩
  cases ht0 : takX xs m with
  | none =>
    rw [ht0] at hcase
    obtain ⟨rfl, rfl, rfl, rfl, rfl⟩ := hcase
    have HPN : Hid (plaG noK xs m l k = none) := HNON.out ht0
    clear ht0 HIND HNON
    go_wp2_with (first
      | (refine store_blk 85 (.tmp 10) (.tmp 45) wa.heap.size 85 _ C rfl rfl rfl rfl (Blk.new wa _ _) (by rw [HCS.out]; rfl) HCI.out HC1.out ?_; intro w4 hr4 hg4; have k14 := hr4.cell 14 HC14.out; have hG4 := (KA.out _ _ hg4).1)
      | (refine load_blk 85 (.tmp 10) wa.heap.size 85 C _ rfl rfl rfl hr4 Tryz.underlying85 rfl HCI.out ?_; go_frame)
      | (refine store_blk 85 (.tmp 6) (.tmp 49) (w.heap.size + 1) 85 Z C rfl rfl rfl rfl hG4 (by rw [HCS.out, HZ.out]) HCI.out HC1.out ?_; intro w6 hr6 hg6))
    refine bodyPost_ret (results_cell_row rfl _ _ (w.heap.size + 1) _ _ (0, 0) _ rfl hr6 Tryz.underlying85 rfl HCI.out) rfl ?_
    rw [HPN.out]
    refine ⟨(KA.out _ _ hg4).2.2.1.grown hg6 (KA.out _ _ hg4).2.2.1.size (fun j e => by cases e; omega), ?_⟩
    show Ending.returned _ = _
    rw [← HCC.out]; rfl
  | some r0 =>
    rw [ht0] at hcase
    obtain ⟨hq1, rfl, rfl, rfl⟩ := hcase
    replace hq1 := hq1.symm
    subst hq1
    have hto0 := takX_ok HV0.out ht0
    have HPL := Lib.hid (HIND.out r0 ht0)
    obtain ⟨xs1, b0⟩ := r0
    dsimp only at *
    have HV1 : Hid (IsVol xs1 m) := hto0.1
    have hb0d := datB_iff.1 hto0.2.2.1
    have hb16' : b0 < 65536 := by omega
    obtain ⟨l1, hl1⟩ : ∃ l1, l.set 10 b0 = l1 := ⟨_, rfl⟩
    have HFT : Hid (FitN l1) := by show FitN _; rw [← hl1]; exact HFT0.out.ind hb16'
    have hl1d : l1.getD 10 0 = b0 := by rw [← hl1, getD_set _ _ _ _ _ (by have := HFT0.out.1; omega), if_pos rfl]
    have HDB : Hid (datB xs1 m (l1.getD 10 0) = true) := by show _ = _; rw [hl1d, datB_len (ys := xs) m _ hto0.2.1]; exact hto0.2.2.1
    have HIS : Hid ((inoC l).setIfInBounds 10 (.int .i64 (b0 : Int)) = inoC l1) := by show _ = _; rw [← hl1, inoC_set]
    have HISZ : Hid (10 < (inoC l).size) := by show _ < _; rw [inoC_size, HFT0.out.1]; omega
    rw [hl1] at HPL
    obtain ⟨ga, ca, rfl⟩ := Go.Joins.ownsRow_form HOWNa.out (by have := HV1.out.len; omega)
    have HIL : Hid ((inoC l).toList.length = 12) := by show _ = _; rw [Array.length_toList, inoC_size, HFT0.out.1]
    have HI12 := Lib.hid (ino_info12 HFT0.out.1)
    have HIN1 := Lib.hid (ino_info12 HFT.out.1)
    have CT := Lib.hid (fun A c w h => rtake_one A c xs1 m l1 w HV1.out HFT.out h)
    clear ht0 HIND HNON hto0 hb0d hl1 hl1d
    go_wp2_with (refine store_blk 85 (.tmp 10) (.tmp 45) wa.heap.size 85 _ C rfl rfl rfl rfl (Blk.new wa _ _) (by rw [HCS.out]; rfl) HCI.out HC1.out ?_; intro wb hrb hgb; have k14 := hrb.cell 14 HC14.out)
    obtain ⟨hGb, hIb, hBb, hOb⟩ := KA.out _ _ hgb
    have u0 : ∀ u : Ext wb, u.val.cell? ⟨wa.heap.size, 0, none⟩ = some (.slice (some ⟨ga, 0, none⟩) xs1.length ca) := fun u => u.cell (hrb.cell 0 HC0.out)
    have HRR : Hid (∀ u : Ext wb, u.val.rangeAt wa.heap.size 1 (inoC l).toList) := fun u j v hv => by
      have hj : j < 12 := by
        have := (List.getElem?_eq_some_iff.1 hv).1
        rw [HIL.out] at this; exact this
      have h1 := inoC_at HFT0.out.1 j hj
      rw [Array.getElem?_toList, h1] at hv
      rw [← Option.some.inj hv]
      exact u.cell (hrb.cell (1 + j) (HCL.out j hj))
    clear k14 hgb KA Ga GIa Ba HOWNa HC0 HC1 HCI
    refine wp_region_ext_tail 5 (by kernel_rfl) (by kernel_rfl) ?_
    simp only [List.take_succ_cons, List.take_zero, List.drop_succ_cons, List.drop_zero]
    repeat (first
      | (go_big_quiet_want; refine quiet_load_mid 35 (.tmp 52) wa.heap.size 1 (inoC l).toList _ rfl rfl (by rintro _ ⟨u, rfl⟩; exact HRR.out u) Tryz.underlying35 rfl (by rw [HIL.out]; kernel_rfl) ?_; rw [Array.toArray_toList]; go_frame; go_big_quiet_on)
      | go_big_quiet_step (fail))
    refine wpQuiet_nil ?_
    rintro _ ⟨u, rfl⟩
    have Pb := Lib.hid (hrb.below u.below hrb.lt)
    have Gb := Lib.hid (hGb.below u.below hGb.lt)
    have Ib := Lib.hid (hIb.below u.below hIb.lt)
    have Bb := Lib.hid (hBb.trans (u.below.mono hBb.size))
    have Ob := Lib.hid (own_below hOb u.below)
    clear u0 HRR hrb hGb hIb hBb hOb
    generalize u.val = wc at *
    have KB : Hid (∀ wd we : World, wc.grownBy wd (some w.heap.size) → wd.grownBy we (some w.heap.size) → Blk wd wa.heap.size 85 C ∧ Blk we (w.heap.size + 1) 85 Z ∧ Below w.heap.size w we ∧ (Blk wd w.heap.size 35 (inoC l) → RowAt we we.heap.size (some ⟨ga, 0, none⟩) (xs1.map .string))) := fun wd we hd he => by
      have hPa : w.heap.size ≠ wa.heap.size := fun e => by
        have h1 := Pb.out
        have h2 := Ib.out
        rw [e] at h2
        unfold Blk at h1 h2
        rw [h1] at h2
        injection h2 with h2
        injection h2 with _ h3
        exact absurd h3 (by decide)
      have b1 := Bb.out.grown hd Bb.out.size (fun j e => by cases e; omega)
      refine ⟨Pb.out.grown hd (by intro e; injection e with e; exact hPa e.symm), (Gb.out.grown hd (by intro e; injection e; omega)).grown he (by intro e; injection e; omega), b1.grown he b1.size (fun j e => by cases e; omega), fun hbd => ?_⟩
      exact RowAt.of_own (own_grown (own_grown Ob.out Ib.out (by decide) hd) hbd (by decide) he)
    go_wp2_with (first
      | (refine store_blk 35 (.tmp 4) (.tmp 53) w.heap.size 35 (inoC l) (inoC l) rfl rfl rfl rfl Ib.out rfl HI12.out (inoC_one _) ?_; intro wd hrd hgd; have k13 := (KB.out wd wd hgd (World.grownBy.refl wd _)).1.cell 13 HC13.out)
      | (refine store_int_blk 3 (.tmp 56) (.tmp 55) w.heap.size 10 .i64 (b0 : Int) 35 (inoC l) rfl rfl rfl rfl (fun w => by kernel_rfl) hrd HISZ.out ?_; intro we hre hge; rw [HIS.out] at hre)
      | (refine load_blk 35 (.tmp 4) w.heap.size 35 (inoC l1) _ rfl rfl rfl hre Tryz.underlying35 rfl HIN1.out ?_; go_frame))
    obtain ⟨_, hGe, hBe, hRe⟩ := KB.out _ _ hgd hge
    have G2 := Lib.hid hGe
    have GI2 := Lib.hid hre
    have B2 := Lib.hid hBe
    have R2 := Lib.hid (hRe hrd)
    clear hGe hre hBe hRe hrd hgd hge k13 KB Pb Gb Ib Bb Ob HCL HC13 HC14 HCC HCS HIL HI12 HIS HISZ HV0 HFT0
    generalize we = w2 at *
    refine (CT.out _ _ _ R2.out).mono ?_
    rintro e w3 ⟨sl, lr, b, code, ys, rfl, hlr, hown, hcase, hb3⟩
    have hone := own_one hown
    have HOWN := Lib.hid hown
    have G3 := Lib.hid (G2.out.below hb3 G2.out.lt)
    have GI3 := Lib.hid (GI2.out.below hb3 GI2.out.lt)
    have B3 := Lib.hid (B2.out.trans (hb3.mono B2.out.size))
    have HZ2 := Lib.hid B2.out.size
    obtain ⟨C, hC⟩ : ∃ C, plcC sl lr (b : Int) code = C := ⟨_, rfl⟩
    have hCS : C.size = 15 := by rw [← hC]; exact plcC_size _ _ _ hlr
    have HCS := Lib.hid hCS
    have HCI : Hid ((Tryz.prog.info? 85).map (·.size) = some C.size) := by show _ = _; rw [hCS]; kernel_rfl
    have HC1 : Hid (∀ v ∈ C, v.oneCell' = true) := by rw [← hC]; exact plcC_one _ _ _ _ hone
    have HC0 : Hid (C[0]? = some sl) := by show _ = _; rw [← hC]; exact plcC_0
    have HC13 : Hid (C[13]? = some (.int .i64 (b : Int))) := by show _ = _; rw [← hC]; exact plcC_b hlr
    have HC14 : Hid (C[14]? = some (.int .i64 code)) := by show _ = _; rw [← hC]; exact plcC_e hlr
    have HCC := Lib.hid hC
    rw [hC]
    clear hC hCS hone hown hb3 G2 B2 R2 GI2 CT HIN1
    have KG : Hid (∀ (cs : Array Value) (w4 : World), (w3.alloc (.cells cs 85)).grownBy w4 (some w3.heap.size) → Blk w4 (w.heap.size + 1) 85 Z ∧ Blk w4 w.heap.size 35 (inoC l1) ∧ Below w.heap.size w w4 ∧ w3.heap.size < w4.heap.size ∧ w4.ownsRow w2.heap.size 9 1 sl ys.length (ys.map .string)) := fun cs w4 h4 => by
      have hlt := G3.out.lt
      have hlt2 := GI3.out.lt
      have hz : (w3.alloc (.cells cs 85)).heap.size = w3.heap.size + 1 := by simp
      have s4 := h4.size
      refine ⟨(G3.out.alloc _).grown h4 (by intro e; injection e; omega), (GI3.out.alloc _).grown h4 (by intro e; injection e; omega), (B3.out.alloc B3.out.size _).grown h4 (by have := B3.out.size; omega) (fun j e => by cases e; exact B3.out.size), by omega, ?_⟩
      exact own_grown (HOWN.out.alloc (.cells cs 85)) (Blk.new w3 85 cs) (by decide) h4
    cases ht : takX xs1 m with
    | none =>
      rw [ht] at hcase
      obtain ⟨rfl, rfl, rfl, rfl, rfl⟩ := hcase
      have HPN : Hid (plaG noK xs m l k = none) := by show _ = _; rw [HPL.out, ht]; rfl
      clear ht
      go_wp2_with (first
        | (refine store_blk 85 (.tmp 11) (.tmp 59) w3.heap.size 85 _ C rfl rfl rfl rfl (Blk.new w3 _ _) (by rw [HCS.out]; rfl) HCI.out HC1.out ?_; intro w4 hr4 hg4; have k14 := hr4.cell 14 HC14.out; have hG4 := (KG.out _ _ hg4).1)
        | (refine load_blk 85 (.tmp 11) w3.heap.size 85 C _ rfl rfl rfl hr4 Tryz.underlying85 rfl HCI.out ?_; go_frame)
        | (refine store_blk 85 (.tmp 6) (.tmp 63) (w.heap.size + 1) 85 Z C rfl rfl rfl rfl hG4 (by rw [HCS.out, HZ.out]) HCI.out HC1.out ?_; intro w6 hr6 hg6))
      refine bodyPost_ret (results_cell_row rfl _ _ (w.heap.size + 1) _ _ (0, 0) _ rfl hr6 Tryz.underlying85 rfl HCI.out) rfl ?_
      rw [HPN.out]
      refine ⟨(KG.out _ _ hg4).2.2.1.grown hg6 (KG.out _ _ hg4).2.2.1.size (fun j e => by cases e; omega), ?_⟩
      show Ending.returned _ = _
      rw [← HCC.out]; rfl
    | some r =>
      rw [ht] at hcase
      obtain ⟨hq1, rfl, rfl, rfl⟩ := hcase
      replace hq1 := hq1.symm
      subst hq1
      have hto := takX_ok HV1.out ht
      obtain ⟨ys, b⟩ := r
      dsimp only at *
      have hvy : IsVol ys m := hto.1
      have hyl : ys.length = xs1.length := hto.2.1
      have hbd := datB_iff.1 hto.2.2.1
      have hlen := HV1.out.len
      have hd1 := datB_iff.1 HDB.out
      obtain ⟨l10, hl10⟩ : ∃ l10, l1.getD 10 0 = l10 := ⟨_, rfl⟩
      rw [hl10] at hd1
      have hll : l10 < ys.length := by omega
      obtain ⟨s, hs⟩ : ∃ s, ys[l10] = s := ⟨_, rfl⟩
      have hss : s.size = 128 := by rw [← hs]; exact hvy.1 _ (List.getElem_mem hll)
      have HSS := Lib.hid hs
      obtain ⟨zs, hzs⟩ : ∃ zs, layX ys l10 (2 * (k - 6)) (putL b 2) = zs := ⟨_, rfl⟩
      have HSET : Hid (ys.set l10 (layB s (2 * (k - 6)) (putL b 2)) = zs) := by
        show _ = _
        rw [← hzs]
        unfold layX
        rw [List.getD_eq_getElem?_getD, List.getElem?_eq_getElem hll, hs]; rfl
      have hzl : zs.length = ys.length := by rw [← hzs]; exact layX_length _ _ _ _
      have HPN : Hid (plaG noK xs m l k = some ((zs, l1), b)) := by show _ = _; rw [HPL.out, ht, ← hzs, ← hl10]; rfl
      have HCS10 := inoC_at HFT.out.1 10 (by omega)
      rw [hl10] at HCS10
      have HI10 := Lib.hid HCS10
      obtain ⟨gs, cs, rfl⟩ := Go.Joins.ownsRow_form HOWN.out (by omega)
      have wk6 : IntKind.i64.wrap ((k : Int) - 6) = ((k - 6 : Nat) : Int) := by
        have : IntKind.i64.wrap ((k : Int) - 6) = (k : Int) - 6 := IntWalk.i64_in _ (by omega)
        rw [this]; omega
      have wk7 : IntKind.i64.wrap (2 * ((k - 6 : Nat) : Int)) = 2 * ((k - 6 : Nat) : Int) := IntWalk.i64_in _ (by omega)
      have hb16 : b ≤ 65535 := by omega
      have hz34 : w.heap.size + 1 < w3.heap.size := G3.out.lt
      clear ht hto hs hzs hl10 hbd HCS10
      go_wp2_with (refine store_blk 85 (.tmp 11) (.tmp 59) w3.heap.size 85 _ C rfl rfl rfl rfl (Blk.new w3 _ _) (by rw [HCS.out]; rfl) HCI.out HC1.out ?_; intro w4 hr4 hg4; have k14 := hr4.cell 14 HC14.out)
      obtain ⟨hG4, hI4, hB4, hS4, hO4⟩ := KG.out _ _ hg4
      clear KG G3 GI3 B3 HOWN k14 hg4
      refine wp_region_inv 18 (plcS w.heap.size w.heap.size w3.heap.size gs cs ys.length l10 k b s zs) (by kernel_rfl) (by kernel_rfl) (plcS_mono w.heap.size w.heap.size w3.heap.size gs cs ys.length l10 k b s zs) ?_ ?_
      · intro i o a' w' hi ho hb hag
        have ev : ∀ t, Operand.tmp t ∈ o.op.operands → ∀ (j : Nat) (oj : Oper), _ → oj.dst = some t → plcS w.heap.size w.heap.size w3.heap.size gs cs ys.length l10 k b s zs j (a'.eval (.tmp t)) w' := fun t ht j oj hj hd => (hag t ht).1 j oj hj hd
        have eb : ∀ t, Operand.tmp t ∈ o.op.operands → _ → a'.eval (.tmp t) = _ := fun t ht h => (hag t ht).2 h
        have hP := hr4.below hb hr4.lt
        have hI := hI4.below hb hI4.lt
        have hO := own_below hO4 hb
        have hc0 := hP.cell 0 HC0.out
        have hc13 := hP.cell 13 HC13.out
        have hc10 := hI.cell 10 HI10.out
        have hcs : w'.cell? ⟨gs, l10, none⟩ = some (.string s) := by
          obtain ⟨b', o', hA, _, hc⟩ := (RowAt.of_own hO).at_ (by rw [List.length_map]; omega)
          injection hA with hA
          injection hA with h1 h2 _
          have := hc l10 (.string s) (by rw [List.getElem?_map, List.getElem?_eq_getElem hll, HSS.out]; rfl)
          rwa [← h1, ← h2, Nat.zero_add] at this
        obtain rfl | rfl | rfl | rfl | rfl | rfl | rfl | rfl | rfl | rfl | rfl | rfl | rfl | rfl | rfl | rfl | rfl | rfl : i = 0 ∨ i = 1 ∨ i = 2 ∨ i = 3 ∨ i = 4 ∨ i = 5 ∨ i = 6 ∨ i = 7 ∨ i = 8 ∨ i = 9 ∨ i = 10 ∨ i = 11 ∨ i = 12 ∨ i = 13 ∨ i = 14 ∨ i = 15 ∨ i = 16 ∨ i = 17 := by omega
        · cases ho
          have e : a'.eval (.tmp 11) = .pointer (some ⟨w3.heap.size, 0, none⟩) := eb 11 (by simp [Op.operands]) (notDst rfl)
          have e' : a'.tmps[11]?.getD undef = .pointer (some ⟨w3.heap.size, 0, none⟩) := by rw [← Array.getD_eq_getD_getElem?]; exact e
          refine step_val (v := .pointer (some ⟨w3.heap.size, 0, none⟩)) (w' := w') ?_ rfl (Below.refl _ _)
          unfold execOp
          simp [go_sem, e']
        · cases ho
          have e : a'.eval (.tmp 64) = .pointer (some ⟨w3.heap.size, 0, none⟩) := ev 64 (by simp [Op.operands, Call.operands]) 0 _ rfl rfl
          have e' : a'.tmps[64]?.getD undef = .pointer (some ⟨w3.heap.size, 0, none⟩) := by rw [← Array.getD_eq_getD_getElem?]; exact e
          refine step_val (v := .slice (some ⟨gs, 0, none⟩) ys.length cs) (w' := w') ?_ rfl (Below.refl _ _)
          unfold execOp
          simp [go_sem, e', hc0]
        · cases ho
          have e : a'.eval (.tmp 4) = .pointer (some ⟨w.heap.size, 0, none⟩) := eb 4 (by simp [Op.operands]) (notDst rfl)
          have e' : a'.tmps[4]?.getD undef = .pointer (some ⟨w.heap.size, 0, none⟩) := by rw [← Array.getD_eq_getD_getElem?]; exact e
          refine step_val (v := .pointer (some ⟨w.heap.size, 10, none⟩)) (w' := w') ?_ rfl (Below.refl _ _)
          unfold execOp
          simp [go_sem, e']
        · cases ho
          have e : a'.eval (.tmp 66) = .pointer (some ⟨w.heap.size, 10, none⟩) := ev 66 (by simp [Op.operands, Call.operands]) 2 _ rfl rfl
          have e' : a'.tmps[66]?.getD undef = .pointer (some ⟨w.heap.size, 10, none⟩) := by rw [← Array.getD_eq_getD_getElem?]; exact e
          refine step_val (v := .int .i64 (l10 : Int)) (w' := w') ?_ rfl (Below.refl _ _)
          unfold execOp
          simp [go_sem, e', hc10]
        · cases ho
          have e : a'.eval (.tmp 11) = .pointer (some ⟨w3.heap.size, 0, none⟩) := eb 11 (by simp [Op.operands]) (notDst rfl)
          have e' : a'.tmps[11]?.getD undef = .pointer (some ⟨w3.heap.size, 0, none⟩) := by rw [← Array.getD_eq_getD_getElem?]; exact e
          refine step_val (v := .pointer (some ⟨w3.heap.size, 0, none⟩)) (w' := w') ?_ rfl (Below.refl _ _)
          unfold execOp
          simp [go_sem, e']
        · cases ho
          have e : a'.eval (.tmp 68) = .pointer (some ⟨w3.heap.size, 0, none⟩) := ev 68 (by simp [Op.operands, Call.operands]) 4 _ rfl rfl
          have e' : a'.tmps[68]?.getD undef = .pointer (some ⟨w3.heap.size, 0, none⟩) := by rw [← Array.getD_eq_getD_getElem?]; exact e
          refine step_val (v := .slice (some ⟨gs, 0, none⟩) ys.length cs) (w' := w') ?_ rfl (Below.refl _ _)
          unfold execOp
          simp [go_sem, e', hc0]
        · cases ho
          have e : a'.eval (.tmp 4) = .pointer (some ⟨w.heap.size, 0, none⟩) := eb 4 (by simp [Op.operands]) (notDst rfl)
          have e' : a'.tmps[4]?.getD undef = .pointer (some ⟨w.heap.size, 0, none⟩) := by rw [← Array.getD_eq_getD_getElem?]; exact e
          refine step_val (v := .pointer (some ⟨w.heap.size, 10, none⟩)) (w' := w') ?_ rfl (Below.refl _ _)
          unfold execOp
          simp [go_sem, e']
        · cases ho
          have e : a'.eval (.tmp 70) = .pointer (some ⟨w.heap.size, 10, none⟩) := ev 70 (by simp [Op.operands, Call.operands]) 6 _ rfl rfl
          have e' : a'.tmps[70]?.getD undef = .pointer (some ⟨w.heap.size, 10, none⟩) := by rw [← Array.getD_eq_getD_getElem?]; exact e
          refine step_val (v := .int .i64 (l10 : Int)) (w' := w') ?_ rfl (Below.refl _ _)
          unfold execOp
          simp [go_sem, e', hc10]
        · cases ho
          have e1 : a'.eval (.tmp 69) = .slice (some ⟨gs, 0, none⟩) ys.length cs := ev 69 (by simp [Op.operands, Call.operands]) 5 _ rfl rfl
          have e1' : a'.tmps[69]?.getD undef = .slice (some ⟨gs, 0, none⟩) ys.length cs := by rw [← Array.getD_eq_getD_getElem?]; exact e1
          have e2 : a'.eval (.tmp 71) = .int .i64 (l10 : Int) := ev 71 (by simp [Op.operands, Call.operands]) 7 _ rfl rfl
          have e2' : a'.tmps[71]?.getD undef = .int .i64 (l10 : Int) := by rw [← Array.getD_eq_getD_getElem?]; exact e2
          refine step_val (v := .pointer (some ⟨gs, l10, none⟩)) (w' := w') ?_ rfl (Below.refl _ _)
          unfold execOp
          simp [go_sem, e1', e2', hll]
        · cases ho
          have e : a'.eval (.tmp 72) = .pointer (some ⟨gs, l10, none⟩) := ev 72 (by simp [Op.operands, Call.operands]) 8 _ rfl rfl
          have e' : a'.tmps[72]?.getD undef = .pointer (some ⟨gs, l10, none⟩) := by rw [← Array.getD_eq_getD_getElem?]; exact e
          refine step_val (v := .string s) (w' := w') ?_ rfl (Below.refl _ _)
          unfold execOp
          simp [go_sem, e', hcs]
        · cases ho
          have e : a'.eval (.tmp 2) = .int .i64 (k : Int) := eb 2 (by simp [Op.operands]) (notDst rfl)
          refine step_val (v := .int .i64 (k : Int)) (w' := w') ?_ rfl (Below.refl _ _)
          unfold execOp
          simp only [e, Sem.run_pure]
        · cases ho
          have e : a'.eval (.tmp 74) = .int .i64 (k : Int) := ev 74 (by simp [Op.operands, Call.operands]) 10 _ rfl rfl
          have e' : a'.tmps[74]?.getD undef = .int .i64 (k : Int) := by rw [← Array.getD_eq_getD_getElem?]; exact e
          refine step_val (v := .int .i64 ((k - 6 : Nat) : Int)) (w' := w') ?_ rfl (Below.refl _ _)
          unfold execOp
          simp [go_sem, e', wk6]
        · cases ho
          have e : a'.eval (.tmp 75) = .int .i64 ((k - 6 : Nat) : Int) := ev 75 (by simp [Op.operands, Call.operands]) 11 _ rfl rfl
          have e' : a'.tmps[75]?.getD undef = .int .i64 ((k - 6 : Nat) : Int) := by rw [← Array.getD_eq_getD_getElem?]; exact e
          refine step_val (v := .int .i64 ((2 * (k - 6) : Nat) : Int)) (w' := w') ?_ rfl (Below.refl _ _)
          unfold execOp
          simp [go_sem, e', wk7]
        · cases ho
          have e : a'.eval (.tmp 11) = .pointer (some ⟨w3.heap.size, 0, none⟩) := eb 11 (by simp [Op.operands]) (notDst rfl)
          have e' : a'.tmps[11]?.getD undef = .pointer (some ⟨w3.heap.size, 0, none⟩) := by rw [← Array.getD_eq_getD_getElem?]; exact e
          refine step_val (v := .pointer (some ⟨w3.heap.size, 13, none⟩)) (w' := w') ?_ rfl (Below.refl _ _)
          unfold execOp
          simp [go_sem, e']
        · cases ho
          have e : a'.eval (.tmp 77) = .pointer (some ⟨w3.heap.size, 13, none⟩) := ev 77 (by simp [Op.operands, Call.operands]) 13 _ rfl rfl
          have e' : a'.tmps[77]?.getD undef = .pointer (some ⟨w3.heap.size, 13, none⟩) := by rw [← Array.getD_eq_getD_getElem?]; exact e
          refine step_val (v := .int .i64 (b : Int)) (w' := w') ?_ rfl (Below.refl _ _)
          unfold execOp
          simp [go_sem, e', hc13]
        · cases ho
          have e1 : a'.eval (.tmp 73) = .string s := ev 73 (by simp [Op.operands, Call.operands]) 9 _ rfl rfl
          have e1' : a'.tmps[73]?.getD undef = .string s := by rw [← Array.getD_eq_getD_getElem?]; exact e1
          have e2 : a'.eval (.tmp 76) = .int .i64 ((2 * (k - 6) : Nat) : Int) := ev 76 (by simp [Op.operands, Call.operands]) 12 _ rfl rfl
          have e2' : a'.tmps[76]?.getD undef = .int .i64 ((2 * (k - 6) : Nat) : Int) := by rw [← Array.getD_eq_getD_getElem?]; exact e2
          have e3 : a'.eval (.tmp 78) = .int .i64 (b : Int) := ev 78 (by simp [Op.operands, Call.operands]) 14 _ rfl rfl
          have e3' : a'.tmps[78]?.getD undef = .int .i64 (b : Int) := by rw [← Array.getD_eq_getD_getElem?]; exact e3
          refine step_call (f := 77) (args := #[.string s, .int .i64 ((2 * (k - 6) : Nat) : Int), .int .i64 (b : Int)]) ?_ ?_
          · unfold execOp
            simp [go_sem, e1', e2', e3']
          · exact (rput19_any s (2 * (k - 6)) b w' hss (by omega) (by omega)).mono fun e w2 ⟨he, hb2⟩ => ⟨_, he, rfl, hb2⟩
        · cases ho
          have e1 : a'.eval (.tmp 65) = .slice (some ⟨gs, 0, none⟩) ys.length cs := ev 65 (by simp [Op.operands, Call.operands]) 1 _ rfl rfl
          have e1' : a'.tmps[65]?.getD undef = .slice (some ⟨gs, 0, none⟩) ys.length cs := by rw [← Array.getD_eq_getD_getElem?]; exact e1
          have e2 : a'.eval (.tmp 67) = .int .i64 (l10 : Int) := ev 67 (by simp [Op.operands, Call.operands]) 3 _ rfl rfl
          have e2' : a'.tmps[67]?.getD undef = .int .i64 (l10 : Int) := by rw [← Array.getD_eq_getD_getElem?]; exact e2
          have e3 : a'.eval (.tmp 79) = .string (layB s (2 * (k - 6)) (putL b 2)) := ev 79 (by simp [Op.operands, Call.operands]) 15 _ rfl rfl
          have e3' : a'.tmps[79]?.getD undef = .string (layB s (2 * (k - 6)) (putL b 2)) := by rw [← Array.getD_eq_getD_getElem?]; exact e3
          refine step_call (f := 45) (args := #[.slice (some ⟨gs, 0, none⟩) ys.length cs, .int .i64 (l10 : Int), .string (layB s (2 * (k - 6)) (putL b 2))]) ?_ ?_
          · unfold execOp
            simp [go_sem, e1', e2', e3']
          · refine (rwith_any _ cs ys l10 _ w' hll (by omega) (RowAt.of_own hO)).mono ?_
            rintro e w2 ⟨v, he, hn, hb2⟩
            rw [HSET.out] at hn
            exact ⟨v, he, own_low hn (by have := hb.size; omega), hb2⟩
        · cases ho
          have e : a'.eval (.tmp 11) = .pointer (some ⟨w3.heap.size, 0, none⟩) := eb 11 (by simp [Op.operands]) (notDst rfl)
          have e' : a'.tmps[11]?.getD undef = .pointer (some ⟨w3.heap.size, 0, none⟩) := by rw [← Array.getD_eq_getD_getElem?]; exact e
          refine step_val (v := .pointer (some ⟨w3.heap.size, 0, none⟩)) (w' := w') ?_ rfl (Below.refl _ _)
          unfold execOp
          simp [go_sem, e']
      · intro a' w5 hb5 hdf hsz hsp hrest
        have hf := frame_of [64, 65, 66, 67, 68, 69, 70, 71, 72, 73, 74, 75, 76, 77, 78, 79, 80, 81] hdf hsz (fun t ht => hrest t (notDst_of rfl ht))
        have o80 : w5.ownsRow w.heap.size 9 1 (a'.tmps.getD 80 undef) zs.length (zs.map .string) := hsp 16 _ 80 (by decide) rfl rfl
        have v81 : a'.tmps.getD 81 undef = .pointer (some ⟨w3.heap.size, 0, none⟩) := hsp 17 _ 81 (by decide) rfl rfl
        obtain ⟨gz, cz, hvz⟩ := Go.Joins.ownsRow_form o80 (by omega)
        have O5 : Hid (w5.ownsRow w.heap.size 9 1 (.slice (some ⟨gz, 0, none⟩) zs.length cz) zs.length (zs.map .string)) := by rw [← hvz]; exact o80
        simp only [List.map_cons, List.map_nil, putsD] at hf
        rw [hvz, v81] at hf
        generalize a'.tmps.getD 64 undef = x64 at hf
        generalize a'.tmps.getD 65 undef = x65 at hf
        generalize a'.tmps.getD 66 undef = x66 at hf
        generalize a'.tmps.getD 67 undef = x67 at hf
        generalize a'.tmps.getD 68 undef = x68 at hf
        generalize a'.tmps.getD 69 undef = x69 at hf
        generalize a'.tmps.getD 70 undef = x70 at hf
        generalize a'.tmps.getD 71 undef = x71 at hf
        generalize a'.tmps.getD 72 undef = x72 at hf
        generalize a'.tmps.getD 73 undef = x73 at hf
        generalize a'.tmps.getD 74 undef = x74 at hf
        generalize a'.tmps.getD 75 undef = x75 at hf
        generalize a'.tmps.getD 76 undef = x76 at hf
        generalize a'.tmps.getD 77 undef = x77 at hf
        generalize a'.tmps.getD 78 undef = x78 at hf
        generalize a'.tmps.getD 79 undef = x79 at hf
        have P5 := Lib.hid (hr4.below hb5 hr4.lt)
        have G5 := Lib.hid (hG4.below hb5 hG4.lt)
        have B5 := Lib.hid (hB4.trans (hb5.mono hB4.size))
        clear hsp hrest hdf hsz o80 v81 hvz hr4 hG4 hI4 hB4 hO4 hb5
        subst hf
        simp only [List.drop_succ_cons, List.drop_zero]
        obtain ⟨D, hD⟩ : ∃ D, plcC (.slice (some ⟨gz, 0, none⟩) zs.length cz) l1 (b : Int) 0 = D := ⟨_, rfl⟩
        have hDS : D.size = 15 := by rw [← hD]; exact plcC_size _ _ _ HFT.out.1
        have HDI : Hid ((Tryz.prog.info? 85).map (·.size) = some D.size) := by show _ = _; rw [hDS]; kernel_rfl
        have HD1 : Hid (∀ v ∈ D, v.oneCell' = true) := by rw [← hD]; exact plcC_one _ _ _ _ rfl
        have HCD : Hid (C.setIfInBounds 0 (.slice (some ⟨gz, 0, none⟩) zs.length cz) = D) := by show _ = _; rw [← HCC.out, ← hD]; exact plcC_set0 _
        have HDS := Lib.hid hDS
        have HDD := Lib.hid hD
        have HSZ : Hid (∀ w, Sem.run Tryz.prog (sizeOf 22) w = .ok 1 w) := fun w => by kernel_rfl
        have HLT : Hid (0 < C.size) := by show _ < _; rw [HCS.out]; omega
        have KF : Hid (∀ w6 w7 : World, w5.grownBy w6 (some w3.heap.size) → w6.grownBy w7 (some (w.heap.size + 1)) → Blk w6 (w.heap.size + 1) 85 Z ∧ Below w.heap.size w w7 ∧ w7.ownsRow w.heap.size 9 1 (.slice (some ⟨gz, 0, none⟩) zs.length cz) zs.length (zs.map .string)) := fun w6 w7 h6 h7 => by
          have hg6 : Blk w6 (w.heap.size + 1) 85 Z := G5.out.grown h6 (by intro e; injection e; omega)
          have s6 := h6.size
          have b6 := B5.out.grown h6 B5.out.size (fun j e => by cases e; omega)
          exact ⟨hg6, b6.grown h7 b6.size (fun j e => by cases e; omega), own_grown (own_grown O5.out P5.out (by decide) h6) hg6 (by decide) h7⟩
        clear hD hDS
        go_frame
        refine store_slice_blk 22 (.tmp 81) (.tmp 80) w3.heap.size 0 (some ⟨gz, 0, none⟩) zs.length cz 85 C rfl rfl rfl rfl HSZ.out P5.out HLT.out ?_
        intro w6 hr6 hg6
        rw [HCD.out] at hr6
        have hG6 := (KF.out w6 w6 hg6 (World.grownBy.refl w6 _)).1
        go_wp2_with (first
          | (refine load_blk 85 (.tmp 11) w3.heap.size 85 D _ rfl rfl rfl hr6 Tryz.underlying85 rfl HDI.out ?_; go_frame)
          | (refine store_blk 85 (.tmp 6) (.tmp 82) (w.heap.size + 1) 85 Z D rfl rfl rfl rfl hG6 (by rw [HDS.out, HZ.out]) HDI.out HD1.out ?_; intro w7 hr7 hg7))
        refine bodyPost_ret (results_cell_row rfl _ _ (w.heap.size + 1) _ _ (0, 0) _ rfl hr7 Tryz.underlying85 rfl HDI.out) rfl ?_
        rw [HPN.out]
        obtain ⟨_, B7, O7⟩ := KF.out _ _ hg6 hg7
        exact ⟨B7, _, cz, by rw [← HDD.out], RowAt.of_own O7, fun g hg _ => RowOff.of_own O7 hg⟩
theorem rplace_any (A : Option Addr) (c : Nat) (xs : List ByteArray) (m k : Nat) (l : List Nat) (w : World) (hv : IsVol xs m) (hl : FitN l) (hk : k < 70) (h : RowAt w w.heap.size A (xs.map .string)) :
    Calls Tryz.prog 44 #[.slice A xs.length c, .agg (inoC l), .int .i64 k] w (PlcRd A xs (plaG noK xs m l k) w) := by
  by_cases hz : atX xs m l k = 0
  · by_cases hk6 : k < 6
    · exact rplace_low A c xs m k l w hv hl hk h hz hk6
    · cases hdb : datB xs m (l.getD 10 0) with
      | true => exact rplace_ind A c xs m k l w hv hl hk h hz (by omega) hdb
      | false => exact rplace_new A c xs m k l w hv hl hk h hz (by omega) hdb
  · exact rplace_has A c xs m k l w hv hl hk h hz
end Go.Proofs.YtoanladhikdcaaaGreat
