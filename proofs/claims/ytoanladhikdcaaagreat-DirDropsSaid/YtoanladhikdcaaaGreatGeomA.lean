/-
  What geom.Plan, zeros, first and bit compute.
-/
import Derived.Test.YtoanladhikdcaaaGreatNumVol
import Derived.Test.YtoanladhikdcaaaGreatInfra
import Derived.Test.YtoanladhikdcaaaGreatShelf
namespace Go.Proofs.YtoanladhikdcaaaGreat
open Go.RowKit
set_option linter.unusedVariables false
set_option linter.unusedSimpArgs false

def geomC (b m d : Int) : Array Value := #[.int .i64 b, .int .i64 m, .int .i64 1, .int .i64 2, .int .i64 3, .int .i64 d]
def geomZ : Array Value := #[.int .i64 0, .int .i64 0, .int .i64 0, .int .i64 0, .int .i64 0, .int .i64 0]
/-- what Plan hands back -/
def planC (b m : Int) : Array Value := if planE b m = 0 then geomC b m (3 + (m + 1) / 2) else geomZ
def PlanPost (b m : Int) (w : World) (e : Ending) (w' : World) : Prop := e = .returned (.tuple #[.agg (planC b m), .int .i64 (planE b m)]) ∧ Below w.heap.size w w'
theorem plan_no {b m : Int} {c : Int} (h : planE b m = c) (hc : c ≠ 0) {w w' : World} (hb : Below w.heap.size w w') : PlanPost b m w (.returned (.tuple #[.agg #[.int .i64 0, .int .i64 0, .int .i64 0, .int .i64 0, .int .i64 0, .int .i64 0], .int .i64 c])) w' := by
  unfold PlanPost planC
  rw [if_neg (by rw [h]; exact hc), h]
  exact ⟨rfl, hb⟩
set_option maxHeartbeats 1000000 in
theorem plan_any (b m : Int) (w : World) : Calls Tryz.prog 55 #[.int .i64 b, .int .i64 m] w (PlanPost b m w) := by
  have hbel := fun (o : Obj) => (Below.refl w.heap.size w).alloc (Nat.le_refl _) o
  have HB := Lib.hid hbel
  clear hbel
  by_cases h1 : b < 16 ∨ 223 < b ∨ m < 4 ∨ 64 < m
  · have HE := Lib.hid (show planE b m = 2 by unfold planE; rw [if_pos h1])
    by_cases a1 : b < 16
    · go_enter Tryz.func55, Tryz.ntmps55
      go_wp2
      exact bodyPost_ret (v := .tuple #[.agg #[.int .i64 0, .int .i64 0, .int .i64 0, .int .i64 0, .int .i64 0, .int .i64 0], .int .i64 2]) (by simp [results, Tryz.results55, go_sem]) rfl (plan_no HE.out (by decide) (HB.out _))
    have a1' : decide (b < 16) = false := by simpa using a1
    by_cases a2 : 223 < b
    · go_enter Tryz.func55, Tryz.ntmps55
      go_wp2
      exact bodyPost_ret (v := .tuple #[.agg #[.int .i64 0, .int .i64 0, .int .i64 0, .int .i64 0, .int .i64 0, .int .i64 0], .int .i64 2]) (by simp [results, Tryz.results55, go_sem]) rfl (plan_no HE.out (by decide) (HB.out _))
    have a2' : decide (223 < b) = false := by simpa using a2
    by_cases a3 : m < 4
    · go_enter Tryz.func55, Tryz.ntmps55
      go_wp2
      exact bodyPost_ret (v := .tuple #[.agg #[.int .i64 0, .int .i64 0, .int .i64 0, .int .i64 0, .int .i64 0, .int .i64 0], .int .i64 2]) (by simp [results, Tryz.results55, go_sem]) rfl (plan_no HE.out (by decide) (HB.out _))
    have a3' : decide (m < 4) = false := by simpa using a3
    have a4 : 64 < m := by omega
    clear h1
    go_enter Tryz.func55, Tryz.ntmps55
    go_wp2
    exact bodyPost_ret (v := .tuple #[.agg #[.int .i64 0, .int .i64 0, .int .i64 0, .int .i64 0, .int .i64 0, .int .i64 0], .int .i64 2]) (by simp [results, Tryz.results55, go_sem]) rfl (plan_no HE.out (by decide) (HB.out _))
  · have a1 : 16 ≤ b := by omega
    have a2 : b ≤ 223 := by omega
    have a3 : 4 ≤ m := by omega
    have a4 : m ≤ 64 := by omega
    have a1' : decide (b < 16) = false := by simp; omega
    have a3' : decide (m < 4) = false := by simp; omega
    have a2' : decide (223 < b) = false := by simp; omega
    have a4' : decide (64 < m) = false := by simp; omega
    by_cases h2 : b ≤ 3 + (m + 1) / 2
    · have HE := Lib.hid (show planE b m = 10 by unfold planE; rw [if_neg h1, if_pos h2])
      clear h1
      go_enter Tryz.func55, Tryz.ntmps55
      go_wp2
      exact bodyPost_ret (v := .tuple #[.agg #[.int .i64 0, .int .i64 0, .int .i64 0, .int .i64 0, .int .i64 0, .int .i64 0], .int .i64 10]) (by simp [results, Tryz.results55, go_sem]) rfl (plan_no HE.out (by decide) (HB.out _))
    · have HE := Lib.hid (show planE b m = 0 by unfold planE; rw [if_neg h1, if_neg h2])
      clear h1
      go_enter Tryz.func55, Tryz.ntmps55
      go_wp2
      refine bodyPost_ret (v := .tuple #[.agg #[.int .i64 b, .int .i64 m, .int .i64 1, .int .i64 2, .int .i64 3, .int .i64 (3 + (m + 1) / 2)], .int .i64 0]) (by simp [results, Tryz.results55, go_sem]) rfl ?_
      unfold PlanPost planC
      rw [if_pos HE.out, HE.out]
      exact ⟨rfl, HB.out _⟩

theorem repeat_zero (n : Nat) : (⟨(Lib.repeatL (⟨#[0]⟩ : ByteArray).data.toList n).toArray⟩ : ByteArray) = zerosB n := by
  unfold zerosB
  congr 2
  show Lib.repeatL [0] n = List.replicate n 0
  induction n with
  | zero => rfl
  | succ n ih => rw [Lib.repeatL, ih]; rfl
theorem zeros_any (w : World) : Calls Tryz.prog 56 #[] w fun e w' => e = .returned (.string (zerosB 128)) ∧ Below w.heap.size w w' := by
  have HR := Lib.hid (repeat_zero 128)
  go_enter Tryz.func56, Tryz.ntmps56
  go_wp2_with fail
  refine (Tryz.strings_Repeat ⟨#[0]⟩ 128 _ (by decide) (by decide)).mono ?_
  rintro e w1 ⟨rfl, hb1⟩
  rw [HR.out]
  have HB := Lib.hid hb1
  clear hb1
  go_wp2
  go_ret
  exact ⟨rfl, HB.out⟩
theorem head_join (b m : Nat) : (⟨#[104, 105, 98, 49]⟩ : ByteArray) ++ ⟨(putL b 2).toArray⟩ ++ ⟨(putL m 2).toArray⟩ ++ zerosB 120 = headB b m := by
  apply WideShapes.bytes_inj
  simp [headB, headL, zerosB]
set_option maxHeartbeats 1000000 in
theorem first_any (b m : Nat) (q r t d : Int) (w : World) (hb : b ≤ 1000000) (hm : m ≤ 1000000) : Calls Tryz.prog 57 #[.agg #[.int .i64 b, .int .i64 m, .int .i64 q, .int .i64 r, .int .i64 t, .int .i64 d]] w fun e w' => e = .returned (.string (headB b m)) ∧ Below w.heap.size w w' := by
  have HJ := Lib.hid (head_join b m)
  have HR := Lib.hid (repeat_zero 120)
  have HBb := Lib.hid hb
  have HBm := Lib.hid hm
  have e1 : IntKind.u64.wrap (b : Int) = (b : Int) := IntWalk.u64_in _ (by omega)
  have e2 : IntKind.u64.wrap (m : Int) = (m : Int) := IntWalk.u64_in _ (by omega)
  obtain ⟨p1, hp1, sp1⟩ : ∃ p, (⟨(putL b 2).toArray⟩ : ByteArray) = p ∧ p.size = 2 := ⟨_, rfl, by show (putL b 2).toArray.size = 2; rw [List.size_toArray, putL_length]⟩
  obtain ⟨p2, hp2, sp2⟩ : ∃ p, (⟨(putL m 2).toArray⟩ : ByteArray) = p ∧ p.size = 2 := ⟨_, rfl, by show (putL m 2).toArray.size = 2; rw [List.size_toArray, putL_length]⟩
  rw [hp1, hp2] at HJ
  have k0 : (⟨#[104, 105, 98, 49]⟩ : ByteArray).size = 4 := rfl
  have ad1 := fun (w : World) => run_string_add_sum (P := Tryz.prog) (w := w) ⟨#[104, 105, 98, 49]⟩ p1 (by omega)
  have ad2 := fun (w : World) => run_string_add_sum (P := Tryz.prog) (w := w) (⟨#[104, 105, 98, 49]⟩ ++ p1) p2 (by rw [ByteArray.size_append]; omega)
  have ad3 := fun (w : World) => run_string_add_sum (P := Tryz.prog) (w := w) (⟨#[104, 105, 98, 49]⟩ ++ p1 ++ p2) (zerosB 120) (by rw [ByteArray.size_append, ByteArray.size_append, zerosB_size]; omega)
  have HSZ : Hid ((⟨#[104, 105, 98, 49]⟩ ++ p1 ++ p2 : ByteArray).size = 8) := by show _ = 8; rw [ByteArray.size_append, ByteArray.size_append]; omega
  have HP1 := Lib.hid hp1
  have HP2 := Lib.hid hp2
  clear hb hm hp1 hp2 sp1 sp2 k0
  go_enter Tryz.func57, Tryz.ntmps57
  go_wp2
  generalize hw1 : w.alloc _ = w1
  have G : Hid (Blk w1 w.heap.size 54 #[.int .i64 b, .int .i64 m, .int .i64 q, .int .i64 r, .int .i64 t, .int .i64 d]) := hw1 ▸ Blk.new _ _ _
  have B : Hid (Below w.heap.size w w1) := hw1 ▸ (Below.refl _ _).alloc (Nat.le_refl _) _
  clear hw1
  have u0 : ∀ u : Ext w1, u.val.cell? ⟨w.heap.size, 0, none⟩ = some (.int .i64 b) := fun u => u.cell (G.out.cell 0 rfl)
  have u1 : ∀ u : Ext w1, u.val.cell? ⟨w.heap.size, 1, none⟩ = some (.int .i64 m) := fun u => u.cell (G.out.cell 1 rfl)
  have c1 : ∀ w, Calls Tryz.prog 66 #[.int .u64 b, .int .i64 2] w fun e w' => e = .returned (.string p1) ∧ Below w.heap.size w w' := fun w => by rw [← HP1.out]; exact put_any b 2 w (by have := HBb.out; omega) (by omega)
  have c2 : ∀ w, Calls Tryz.prog 66 #[.int .u64 m, .int .i64 2] w fun e w' => e = .returned (.string p2) ∧ Below w.heap.size w w' := fun w => by rw [← HP2.out]; exact put_any m 2 w (by have := HBm.out; omega) (by omega)
  have C1 := Lib.hid c1
  have C2 := Lib.hid c2
  clear c1 c2
  refine wp_region_ext (by kernel_rfl) (by kernel_rfl) ?_
  repeat (go_big_quiet_step (first
    | (go_at_call 66; with_reducible exact Ext.call (C1.out _))
    | (go_at_call 66; with_reducible exact Ext.call (C2.out _))))
  refine wpQuiet_nil ?_
  rintro _ ⟨u, rfl⟩
  have B := Lib.hid (B.out.trans (u.below.mono B.out.size))
  generalize u.val = w2 at B
  have hsz := HSZ.out
  go_wp2_with fail
  refine (Tryz.strings_Repeat ⟨#[0]⟩ 120 _ (by decide) (by decide)).mono ?_
  rintro e w3 ⟨rfl, hb3⟩
  rw [HR.out]
  have B := Lib.hid (B.out.trans (hb3.mono B.out.size))
  clear hb3
  go_wp2
  go_ret
  exact ⟨by rw [← HJ.out]; rfl, B.out⟩

/-- a bit, as the program asks for it -/
theorem bit_ask (x k : Nat) (hx : x < 256) : (bits .and .u8 ((x : Int) / 2 ^ k) 1 == 1) = x.testBit k := by
  have e : ((x : Int) / 2 ^ k) = ((x / 2 ^ k : Nat) : Int) := by simp
  have hle : x / 2 ^ k ≤ x := Nat.div_le_self _ _
  rw [e, show (1 : Int) = ((1 : Nat) : Int) by rfl, u8_and_nat _ _ (by omega) (by omega), Nat.and_one_is_mod]
  rw [Nat.testBit_eq_decide_div_mod_eq]
  by_cases h : x / 2 ^ k % 2 = 1
  · simp [h]
  · have : x / 2 ^ k % 2 = 0 := by omega
    simp [this]
end Go.Proofs.YtoanladhikdcaaaGreat
