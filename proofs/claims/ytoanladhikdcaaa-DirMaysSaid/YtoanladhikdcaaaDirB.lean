/-
  Package dir: entry, bytes.
-/
import Derived.Test.YtoanladhikdcaaaEnts
import Derived.Test.YtoanladhikdcaaaExtRdA
import Derived.BigQuiet
namespace Go.Proofs.Ytoanladhikdcaaa
open Go.RowKit
set_option linter.unusedVariables false
set_option linter.unusedSimpArgs false
set_option maxRecDepth 100000
theorem repeat_l0 (z : Nat) : Lib.repeatL [0] z = List.replicate z (0 : UInt8) := by
  have := congrArg (·.data.toList) (repeat_zero z)
  simpa [zerosB] using this
set_option maxHeartbeats 4000000 in
theorem entry_any (x : EntV) (w : World) (hn : x.name.size ≤ 28) (hi : 0 ≤ x.ino ∧ x.ino < 65536) : Calls Try.prog 59 #[.agg #[.string x.name, .int .i64 x.ino]] w fun e w' => e = .returned (.string ⟨(entB x).toArray⟩) ∧ Below w.heap.size w w' := by
  obtain ⟨s, ino⟩ := x
  dsimp only at *
  obtain ⟨i, rfl⟩ : ∃ i : Nat, ino = (i : Int) := ⟨ino.toNat, by omega⟩
  obtain ⟨p1, hp1, sp1⟩ : ∃ p, (⟨(putL i 2).toArray⟩ : ByteArray) = p ∧ p.size = 2 := ⟨_, rfl, by show (putL i 2).toArray.size = 2; rw [List.size_toArray, putL_length]⟩
  obtain ⟨p2, hp2, sp2⟩ : ∃ p, (⟨(putL s.size 1).toArray⟩ : ByteArray) = p ∧ p.size = 1 := ⟨_, rfl, by show (putL s.size 1).toArray.size = 1; rw [List.size_toArray, putL_length]⟩
  obtain ⟨z, hz⟩ : ∃ z, z = 28 - s.size := ⟨_, rfl⟩
  obtain ⟨R, hR⟩ : ∃ R : ByteArray, (⟨(Lib.repeatL (⟨#[0]⟩ : ByteArray).data.toList z).toArray⟩ : ByteArray) = R := ⟨_, rfl⟩
  have HRs : Hid (R.size = z) := by
    show _ = _
    rw [← hR]
    show (Lib.repeatL (⟨#[0]⟩ : ByteArray).data.toList z).toArray.size = z
    show (Lib.repeatL [0] z).toArray.size = z
    rw [repeat_l0, List.size_toArray, List.length_replicate]
  have HJ : Hid ((p1 ++ p2 ++ ⟨#[0]⟩ ++ s ++ R : ByteArray) = ⟨(entB ⟨s, (i : Int)⟩).toArray⟩) := by
    show _ = _
    rw [← hp1, ← hp2, ← hR]
    unfold entB
    apply WideShapes.bytes_inj
    simp only [ByteArray.data_append, Array.toList_append, List.append_assoc, List.toList_toArray, Int.toNat_natCast, repeat_l0, ← hz]
  obtain ⟨q, hq⟩ : ∃ q, (p1 ++ p2 ++ ⟨#[0]⟩ ++ s : ByteArray) = q := ⟨_, rfl⟩
  have k0 : (⟨#[0]⟩ : ByteArray).size = 1 := rfl
  have HQ : Hid (q.size + z = 32) := by show _ = _; rw [← hq, ByteArray.size_append, ByteArray.size_append, ByteArray.size_append]; omega
  have ad1 := fun (w : World) => run_string_add_sum (P := Try.prog) (w := w) p1 p2 (by omega)
  have ad2 := fun (w : World) => run_string_add_sum (P := Try.prog) (w := w) (p1 ++ p2) ⟨#[0]⟩ (by rw [ByteArray.size_append]; omega)
  have ad3 := fun (w : World) => run_string_add_sum (P := Try.prog) (w := w) (p1 ++ p2 ++ ⟨#[0]⟩) s (by rw [ByteArray.size_append, ByteArray.size_append]; omega)
  have ad4 := fun (w : World) => run_string_add_sum (P := Try.prog) (w := w) q R (by have := HQ.out; have := HRs.out; omega)
  have e1 : IntKind.u64.wrap (i : Int) = (i : Int) := IntWalk.u64_in _ (by omega)
  have e2 : IntKind.u64.wrap (s.size : Int) = (s.size : Int) := IntWalk.u64_in _ (by omega)
  have e3 : IntKind.i64.wrap (32 - (q.size : Int)) = (z : Int) := by
    have := HQ.out
    rw [show 32 - (q.size : Int) = (z : Int) by omega]
    exact IntWalk.i64_in _ (by omega)
  have C1 : Hid (∀ w, Calls Try.prog 89 #[.int .u64 i, .int .i64 2] w fun e w' => e = .returned (.string p1) ∧ Below w.heap.size w w') := fun w => by rw [← hp1]; exact put_any i 2 w (by omega) (by omega)
  have C2 : Hid (∀ w, Calls Try.prog 89 #[.int .u64 (s.size : Int), .int .i64 1] w fun e w' => e = .returned (.string p2) ∧ Below w.heap.size w w') := fun w => by rw [← hp2]; exact put_any s.size 1 w (by omega) (by omega)
  have C3 : Hid (∀ w, Calls Try.prog 71 #[.string ⟨#[0]⟩, .int .i64 z] w fun e w' => e = .returned (.string R) ∧ Below w.heap.size w w') := fun w => by rw [← hR]; exact Try.strings_Repeat ⟨#[0]⟩ z w (by omega) (by show 1 * z ≤ _; omega)
  have HQ2 := Lib.hid hq
  rw [← HJ.out]
  clear HJ HRs HQ hR hp1 hp2 hn hi hz sp1 sp2 k0 hq
  go_enter Try.func59, Try.ntmps59
  go_wp2
  generalize hw1 : w.alloc _ = w1
  have G : Hid (Blk w1 w.heap.size 35 #[.string s, .int .i64 i]) := hw1 ▸ Blk.new _ _ _
  have B : Hid (Below w.heap.size w w1) := hw1 ▸ (Below.refl _ _).alloc (Nat.le_refl _) _
  clear hw1
  have u0 : ∀ u : Ext w1, u.val.cell? ⟨w.heap.size, 0, none⟩ = some (.string s) := fun u => u.cell (G.out.cell 0 rfl)
  have u1 : ∀ u : Ext w1, u.val.cell? ⟨w.heap.size, 1, none⟩ = some (.int .i64 i) := fun u => u.cell (G.out.cell 1 rfl)
  refine wp_region_ext (by kernel_rfl) (by kernel_rfl) ?_
  repeat (go_big_quiet_step (first
    | (go_at_call 89; with_reducible exact Ext.call (C1.out _))
    | (go_at_call 89; with_reducible exact Ext.call (C2.out _))))
  refine wpQuiet_nil ?_
  rintro _ ⟨u, rfl⟩
  have B := Lib.hid (B.out.trans (u.below.mono B.out.size))
  generalize u.val = w2 at B
  rw [HQ2.out]
  clear u0 u1 G C1 C2
  go_wp2_with fail
  refine (C3.out _).mono ?_
  rintro e w3 ⟨rfl, hb3⟩
  have B := Lib.hid (B.out.trans (hb3.mono B.out.size))
  clear hb3
  go_wp2
  go_ret
  exact ⟨by rw [HQ2.out]; rfl, B.out⟩
theorem string_l (B b : Nat) (l : List UInt8) (w : World) (h : Lib.IsBuilderF 92 5 B b (Lib.byteCells l) w) (hBw : B ≤ w.heap.size) :
    Calls Try.prog 60 #[.pointer (some ⟨b, 0, none⟩)] w fun e w' => e = .returned (.string ⟨l.toArray⟩) ∧ Below B w w' :=
  (Try.Builder_String_any_f B b l w h hBw).mono fun _ _ h => ⟨h.1, h.2.2⟩
theorem cells_snoc (l : List EntV) (k : Nat) (hk : k < l.length) : Lib.byteCells (bytesE (l.take k)) ++ Lib.strCells ⟨(entB l[k]).toArray⟩ = Lib.byteCells (bytesE (l.take (k + 1))) := by
  rw [List.take_succ_eq_append_getElem hk, bytesE_app, Lib.byteCells_append]
  congr 1
  show Lib.byteCells (entB l[k]) = Lib.byteCells (entB l[k] ++ [])
  rw [List.append_nil]
theorem bytes_le : ∀ (l : List EntV), (∀ x ∈ l, x.name.size ≤ 28) → (bytesE l).length = 32 * l.length
  | [], _ => rfl
  | x :: l, h => by
    rw [bytesE_cons, List.length_append, entB_len (h x (by simp)), bytes_le l (fun y hy => h y (by simp [hy]))]
    simp; omega
set_option maxHeartbeats 4000000 in
theorem bytes_any (A : Option Addr) (c : Nat) (l : List EntV) (w : World) (hl : l.length ≤ 1000) (hn : ∀ x ∈ l, x.name.size ≤ 28 ∧ 0 ≤ x.ino ∧ x.ino < 65536) (h : EntsAt w w.heap.size A l) :
    Calls Try.prog 31 #[.slice A l.length c] w fun e w' => e = .returned (.string ⟨(bytesE l).toArray⟩) ∧ Below w.heap.size w w' := by
  have B0 := Lib.hid ((Below.refl w.heap.size w).alloc (Nat.le_refl _) (.cells #[.pointer none, .slice none 0 0] 92))
  have F0 := Lib.hid (builder_new w.heap.size w (Nat.le_refl _))
  have R0 := Lib.hid ((h.below B0.out))
  have HN := Lib.hid hn
  have HB : Hid (∀ k, (Lib.byteCells (bytesE (l.take k))).length ≤ 32 * 1000) := fun k => by
    rw [Lib.byteCells_length, bytes_le _ (fun x hx => (hn x (List.mem_of_mem_take hx)).1), List.length_take]
    omega
  clear h hn
  go_enter Try.func31, Try.ntmps31
  go_wp2
  generalize w.alloc _ = w0 at *
  go_loopw [5, 8] (fun _ i wr => ∃ k : Nat, k ≤ l.length ∧ i = .int .i64 (k : Int) ∧ Hid (Lib.IsBuilderF 92 5 w.heap.size w.heap.size (Lib.byteCells (bytesE (l.take k))) wr) ∧ Hid (EntsAt wr w.heap.size A l) ∧ Hid (Below w.heap.size w wr)) (fun _ i _ => l.length - (intOf i).toNat)
  case atStart => exact ⟨0, Nat.zero_le _, rfl, F0, R0, B0⟩
  case round =>
    clear F0 R0 B0
    obtain ⟨k, hk, rfl, F, R, B⟩ := hrel
    by_cases hlt : k < l.length
    · obtain ⟨bA, oA, rfl, hbA, hrA⟩ := R.out.get hlt
      obtain ⟨n1, n2, n3⟩ := HN.out _ (List.getElem_mem hlt)
      have HS := Lib.hid (cells_snoc l k hlt)
      have HL := Lib.hid (HB.out k)
      have HE := Lib.hid (entB_len n1)
      generalize l[k] = x at *
      have CE := Lib.hid (fun w => entry_any x w n1 ⟨n2, n3⟩)
      obtain ⟨nm, ino⟩ := x
      dsimp only at *
      have HR : Hid (wr.rangeAt bA (oA + k * 2) [.string nm, .int .i64 ino]) := hrA
      have GA := Lib.hid (Blk.new wr 35 #[.string nm, .int .i64 ino])
      have b4 : Below wr.heap.size wr (wr.alloc (.cells #[.string nm, .int .i64 ino] 35)) := (Below.refl _ _).alloc (Nat.le_refl _) _
      have F4 := Lib.hid (builder_below F.out b4)
      have R4 := Lib.hid (R.out.below (b4.mono B.out.size))
      have B4 := Lib.hid (B.out.trans (b4.mono B.out.size))
      have i2 : (k : Int) < (l.length : Int) := by omega
      have i3 : (0 : Int) ≤ (k : Int) := by omega
      clear hrA b4 R B F
      go_wp2_with (first
        | (refine wpList_load_mid rfl 35 (.tmp 10) rfl bA (oA + k * 2) rfl _ _ HR.out Try.underlying35 rfl (by kernel_rfl) ?_; go_frame)
        | (go_at_call 59; refine (CE.out _).mono ?_; rintro e w5 ⟨rfl, hb5⟩; have F5 := Lib.hid (builder_below F4.out hb5); have R5 := Lib.hid (R4.out.below (hb5.mono B4.out.size)); have B5 := Lib.hid (B4.out.trans (hb5.mono B4.out.size)); clear hb5 F4 R4 B4)
        | (go_at_call 58; refine (Try.Builder_WriteString_k w.heap.size w.heap.size _ _ _ F5.out (by have := HL.out; have := HE.out; show _ + (entB ⟨nm, ino⟩).toArray.size ≤ _; rw [List.size_toArray]; omega) B5.out.size).mono ?_; rintro e w6 ⟨rfl, hba, hb6, hok⟩; have F6 : Hid (Lib.IsBuilderF 92 5 w.heap.size w.heap.size (Lib.byteCells (bytesE (l.take (k + 1)))) w6) := .inr (HS.out ▸ hba); have R6 := Lib.hid (R5.out.below hb6); have B6 := Lib.hid (B5.out.trans hb6); clear hba hb6 hok F5 R5 B5))
      go_roundw
      case rel => exact ⟨k + 1, by omega, by go_num, F6, R6, B6⟩
      case measure => simp [intOf]; omega
    · obtain rfl : k = l.length := by omega
      have HT : Hid (l.take l.length = l) := List.take_length
      rw [HT.out] at F
      go_wp2_with fail
      refine (string_l w.heap.size w.heap.size _ _ F.out B.out.size).mono ?_
      rintro e w7 ⟨rfl, hb7⟩
      have B7 := Lib.hid (B.out.trans hb7)
      clear hb7
      go_wp2
      go_ret
      exact ⟨rfl, B7.out⟩
end Go.Proofs.Ytoanladhikdcaaa
