/-
  What the document's head, turn and With of layer 17 do.
-/
import Derived.Test.YtoanladhikdcaaaGreatRGeomA
import Derived.Deep.RegionHeld3
import Derived.RegionTactic
import Derived.BigRegion
namespace Go.Proofs.YtoanladhikdcaaaGreat
open Go.RowKit
set_option linter.unusedVariables false
set_option linter.unusedSimpArgs false
set_option maxRecDepth 100000
set_option maxHeartbeats 1000000 in
theorem rhead_any (b m : Nat) (q r t d : Int) (w : World) (hb : b ≤ 1000000) (hm : m ≤ 1000000) : Calls Tryz.prog 98 #[.agg #[.int .i64 b, .int .i64 m, .int .i64 q, .int .i64 r, .int .i64 t, .int .i64 d]] w fun e w' => e = .returned (.string (headB b m)) ∧ Below w.heap.size w w' := by
  have HJ := Lib.hid (head_join b m)
  have HR := Lib.hid (repeat_zero 120)
  have HBb := Lib.hid hb
  have HBm := Lib.hid hm
  have e1 : IntKind.u64.wrap (b : Int) = (b : Int) := IntWalk.u64_in _ (by omega)
  have e2 : IntKind.u64.wrap (m : Int) = (m : Int) := IntWalk.u64_in _ (by omega)
  obtain ⟨p1, hp1, sp1⟩ : ∃ p, (⟨(putL b 2).toArray⟩ : ByteArray) = p ∧ p.size = 2 := ⟨_, rfl, by show (putL b 2).toArray.size = 2; rw [List.size_toArray, putL_length]⟩
  obtain ⟨p2, hp2, sp2⟩ : ∃ p, (⟨(putL m 2).toArray⟩ : ByteArray) = p ∧ p.size = 2 := ⟨_, rfl, by show (putL m 2).toArray.size = 2; rw [List.size_toArray, putL_length]⟩
  rw [hp1, hp2] at HJ
  have k0 : (⟨#[104, 105, 98, 49]⟩ : ByteArray).size = 4 := rfl
  have ad1 := fun (w : World) => run_string_add_sum (P := Tryz.prog) (w := w) ⟨#[104, 105, 98, 49]⟩ p1 (by omega)
  have ad2 := fun (w : World) => run_string_add_sum (P := Tryz.prog) (w := w) (⟨#[104, 105, 98, 49]⟩ ++ p1) p2 (by rw [ByteArray.size_append]; omega)
  have ad3 := fun (w : World) => run_string_add_sum (P := Tryz.prog) (w := w) (⟨#[104, 105, 98, 49]⟩ ++ p1 ++ p2) (zerosB 120) (by rw [ByteArray.size_append, ByteArray.size_append, zerosB_size]; omega)
  have HSZ : Hid ((⟨#[104, 105, 98, 49]⟩ ++ p1 ++ p2 : ByteArray).size = 8) := by show _ = 8; rw [ByteArray.size_append, ByteArray.size_append]; omega
  have HP1 := Lib.hid hp1
  have HP2 := Lib.hid hp2
  clear hb hm hp1 hp2 sp1 sp2 k0
  go_enter Tryz.func98, Tryz.ntmps98
  go_wp2
  generalize hw1 : w.alloc _ = w1
  have G : Hid (Blk w1 w.heap.size 54 #[.int .i64 b, .int .i64 m, .int .i64 q, .int .i64 r, .int .i64 t, .int .i64 d]) := hw1 ▸ Blk.new _ _ _
  have B : Hid (Below w.heap.size w w1) := hw1 ▸ (Below.refl _ _).alloc (Nat.le_refl _) _
  clear hw1
  have u0 : ∀ u : Ext w1, u.val.cell? ⟨w.heap.size, 0, none⟩ = some (.int .i64 b) := fun u => u.cell (G.out.cell 0 rfl)
  have u1 : ∀ u : Ext w1, u.val.cell? ⟨w.heap.size, 1, none⟩ = some (.int .i64 m) := fun u => u.cell (G.out.cell 1 rfl)
  have c1 : ∀ w, Calls Tryz.prog 80 #[.int .u64 b, .int .i64 2] w fun e w' => e = .returned (.string p1) ∧ Below w.heap.size w w' := fun w => by rw [← HP1.out]; exact rput_any b 2 w (by have := HBb.out; omega) (by omega)
  have c2 : ∀ w, Calls Tryz.prog 80 #[.int .u64 m, .int .i64 2] w fun e w' => e = .returned (.string p2) ∧ Below w.heap.size w w' := fun w => by rw [← HP2.out]; exact rput_any m 2 w (by have := HBm.out; omega) (by omega)
  have C1 := Lib.hid c1
  have C2 := Lib.hid c2
  clear c1 c2
  have C3 : Hid (∀ w, Calls Tryz.prog 108 #[.int .i64 120] w fun e w' => e = .returned (.string (zerosB 120)) ∧ w = w') := fun w => rzeros_any 120 w (by omega)
  refine wp_region_ext (by kernel_rfl) (by kernel_rfl) ?_
  repeat (go_big_quiet_step (first
    | (go_at_call 80; with_reducible exact Ext.call (C1.out _))
    | (go_at_call 80; with_reducible exact Ext.call (C2.out _))
    | (go_at_call 108; with_reducible exact Ext.call_same (C3.out _))))
  refine wpQuiet_nil ?_
  rintro _ ⟨u, rfl⟩
  have B := Lib.hid (B.out.trans (u.below.mono B.out.size))
  generalize u.val = w2 at B
  go_wp2
  go_ret
  exact ⟨by rw [← HJ.out]; rfl, B.out⟩

/-- a text with another bit, piece by piece -/
theorem turn_pieces (s : ByteArray) (i : Nat) (h : i / 8 < s.size) (b : UInt8) (hb : b = s[i / 8] ^^^ UInt8.ofNat (2 ^ (i % 8))) : s.extract 0 (i / 8) ++ ⟨#[b]⟩ ++ s.extract (i / 8 + 1) s.size = turnB s i := by
  apply WideShapes.bytes_inj
  have hl : i / 8 < s.data.toList.length := by simpa using h
  rw [turnB_list]
  unfold turnL
  have e : s.data.toList.getD (i / 8) 0 = s[i / 8] := by simp only [List.getD, List.getElem?_eq_getElem hl]; rfl
  rw [e, ← hb, List.set_eq_take_append_cons_drop, if_pos hl]
  simp only [ByteArray.data_append, Array.toList_append, Lib.extract_data]
  rw [List.take_of_length_le (i := s.size - (i / 8 + 1)) (by simp)]
  simp
set_option maxHeartbeats 2000000 in
theorem rturn_any (s : ByteArray) (i : Nat) (w : World) (hs : s.size = 128) (hi : i < 1024) :
    Calls Tryz.prog 83 #[.string s, .int .i64 i] w fun e w' => e = .returned (.string (turnB s i)) ∧ Below w.heap.size w w' := by
  have h3 : i / 8 < s.size := by omega
  obtain ⟨b, hb⟩ : ∃ b, b = s[i / 8] ^^^ UInt8.ofNat (2 ^ (i % 8)) := ⟨_, rfl⟩
  have HP := Lib.hid (turn_pieces s i h3 b hb)
  have hx : bits .xor .u8 (s[i / 8].toNat : Int) (2 ^ (i % 8) % 256) = (b.toNat : Int) := by
    rw [turn_byte s i h3]
    unfold turnL
    have hl : i / 8 < s.data.toList.length := by simpa using h3
    rw [getD_set _ _ _ _ _ hl, if_pos rfl, hb]
    have e : s.data.toList.getD (i / 8) 0 = s[i / 8] := by simp only [List.getD, List.getElem?_eq_getElem hl]; rfl
    rw [e]
  clear hb
  have k4 : IntKind.i64.wrap ((i : Int) / 8) = (i : Int) / 8 := IntWalk.i64_in _ (by omega)
  have k5 : IntKind.i64.wrap ((i : Int) % 8) = (i : Int) % 8 := IntWalk.i64_in _ (by omega)
  have k6 : (0 : Int) ≤ (i : Int) / 8 := by omega
  have ku : IntKind.u8.wrap ((2 : Int) ^ (i % 8)) = 2 ^ (i % 8) % 256 := by simp [IntKind.wrap, IntKind.bits, IntKind.signed]
  have kt : (i : Int).tmod 8 = (i : Int) % 8 := Int.tmod_eq_emod_of_nonneg (by omega)
  have k7 : ((i : Int) / 8).toNat = i / 8 := by omega
  have k8 : (0 : Int) ≤ (i : Int) % 8 := by omega
  have k9 : ((i : Int) % 8).toNat = i % 8 := by omega
  have ka : (i : Int) / 8 ≤ (s.size : Int) := by omega
  have kb : IntKind.i64.wrap ((i : Int) / 8 + 1) = (i : Int) / 8 + 1 := IntWalk.i64_in _ (by omega)
  have kc : (0 : Int) ≤ (i : Int) / 8 + 1 := by omega
  have kd : ((i : Int) / 8 + 1).toNat = i / 8 + 1 := by omega
  have ke : (i : Int) / 8 + 1 ≤ (s.size : Int) := by omega
  have kf : (i : Int) / 8 < (s.size : Int) := by omega
  have hcv := conv_blk (P := Tryz.prog) (w := (w.alloc (.cells #[.int .u8 (b.toNat : Int)] 5)).drew) (g := w.heap.size) (t := 5) (st := ⟨#[b]⟩) 1 (Blk.new w 5 #[.int .u8 (b.toNat : Int)]).drew rfl 1 Tryz.underlying58 Tryz.underlying5 Tryz.underlying9
  have ad1 := fun (w : World) => run_string_add_sum (P := Tryz.prog) (w := w) (s.extract 0 (i / 8)) ⟨#[b]⟩ (by rw [ByteArray.size_extract]; show _ + 1 ≤ _; omega)
  have ad2 := fun (w : World) => run_string_add_sum (P := Tryz.prog) (w := w) (s.extract 0 (i / 8) ++ ⟨#[b]⟩) (s.extract (i / 8 + 1) s.size) (by rw [ByteArray.size_append, ByteArray.size_extract, ByteArray.size_extract]; show _ + 1 + _ ≤ _; omega)
  clear hs
  go_enter Tryz.func83, Tryz.ntmps83
  go_wp2
  go_region
  go_wp2
  go_ret
  exact ⟨by rw [← HP.out]; rfl, ((Below.refl _ _).alloc (Nat.le_refl _) _).drew⟩
end Go.Proofs.YtoanladhikdcaaaGreat
