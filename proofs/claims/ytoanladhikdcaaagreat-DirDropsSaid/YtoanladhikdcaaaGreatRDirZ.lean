/-
  Joined in one text: RDirA, RDirB, RDirC, RDirD, Great20, SameVol.
-/
import Derived.Test.YtoanladhikdcaaaGreatDirW
import Derived.Test.YtoanladhikdcaaaGreatExtB
import Derived.Test.YtoanladhikdcaaaGreatRGeomA
import Derived.BigQuiet
import Derived.BigRegion
import Derived.ChangeKeysEq
import Derived.Test.YtoanladhikdcaaaGreatRExtD
import Derived.Test.YtoanladhikdcaaaGreatRInoGet
import Derived.Test.YtoanladhikdcaaaGreatLaw18
namespace Go.Proofs.YtoanladhikdcaaaGreat
open Go.RowKit
set_option linter.unusedVariables false
set_option linter.unusedSimpArgs false
set_option maxRecDepth 100000
set_option maxHeartbeats 8000000 in
theorem rmay_any (s : ByteArray) (w : World) (hs : s.size ≤ 140737488355328) : Calls Tryz.prog 18 #[.string s] w fun e w' => e = .returned (.bool (mayB s.data.toList)) ∧ w = w' := by
  have hl : s.data.toList.length = s.size := by rw [Array.length_toList]; rfl
  obtain ⟨r, hr⟩ : ∃ r, mayB s.data.toList = r := ⟨_, rfl⟩
  rw [hr]
  by_cases h1 : s.size < 1
  · have e1 : (s.size : Int) < 1 := by omega
    have e2 : decide ((s.size : Int) < 1) = true := decide_eq_true e1
    have HW := Lib.hid (hr.symm.trans <| may_out (.inl (List.eq_nil_of_length_eq_zero (by omega))))
    clear hr
    go_enter Tryz.func18, Tryz.ntmps18
    go_wp2
    go_ret
    exact ⟨ret_bool HW.out.symm, rfl⟩
  have e1 : ¬ (s.size : Int) < 1 := by omega
  have e2 : decide ((s.size : Int) < 1) = false := decide_eq_false e1
  by_cases h24 : 24 < s.size
  · have e3 : (24 : Int) < (s.size : Int) := by omega
    have e4 : decide ((24 : Int) < (s.size : Int)) = true := decide_eq_true e3
    have HW := Lib.hid (hr.symm.trans <| may_out (.inr (.inl (by omega : 24 < s.data.toList.length))))
    clear hr
    go_enter Tryz.func18, Tryz.ntmps18
    go_wp2
    go_ret
    exact ⟨ret_bool HW.out.symm, rfl⟩
  have e3 : ¬ (24 : Int) < (s.size : Int) := by omega
  have e4 : decide ((24 : Int) < (s.size : Int)) = false := decide_eq_false e3
  by_cases hd : s.data.toList = [46]
  · have HW := Lib.hid (hr.symm.trans <| may_out (.inr (.inr (.inl hd))))
    have q3 : s.toList = [46] := (str_data s).trans hd
    have q4 : (s.toList == [46]) = true := by rw [q3]; rfl
    clear hr
    go_enter Tryz.func18, Tryz.ntmps18
    go_wp2
    go_ret
    exact ⟨ret_bool HW.out.symm, rfl⟩
  have q3 : ¬ s.toList = [46] := by rw [str_data]; exact hd
  have q4 : (s.toList == [46]) = false := by simp [q3]
  by_cases hdd : s.data.toList = [46, 46]
  · have HW := Lib.hid (hr.symm.trans <| may_out (.inr (.inr (.inr hdd))))
    have q5 : s.toList = [46, 46] := (str_data s).trans hdd
    have q6 : (s.toList == [46, 46]) = true := by rw [q5]; rfl
    clear hr
    go_enter Tryz.func18, Tryz.ntmps18
    go_wp2
    go_ret
    exact ⟨ret_bool HW.out.symm, rfl⟩
  have q5 : ¬ s.toList = [46, 46] := by rw [str_data]; exact hdd
  have q6 : (s.toList == [46, 46]) = false := by simp [q5]
  have HW := Lib.hid (hr.symm.trans (may_in (by intro e; rw [e] at hl; simp at hl; omega) (by omega) hd hdd))
  have HL := Lib.hid hl
  clear hd hdd hl hr
  go_enter Tryz.func18, Tryz.ntmps18
  go_wp2
  clear q3 q4 q5 q6 e1 e2 e3 e4
  go_loop [3] (fun j => ∃ k : Nat, k ≤ s.size ∧ j = .int .i64 (k : Int) ∧ Hid ((s.data.toList.take k).all mayC = true)) (fun j => s.size - (intOf j).toNat)
  case atStart => exact ⟨0, Nat.zero_le _, rfl, rfl⟩
  case round =>
    obtain ⟨k, hk, rfl, HA⟩ := hrel
    by_cases hlt : k < s.size
    · have i1 : (k : Int) < (s.size : Int) := by omega
      have i2 : (0 : Int) ≤ (k : Int) := by omega
      have HO := Lib.hid (fun h => all_out (l := s.data.toList) (k := k) (by rw [HL.out]; exact hlt) h)
      have HI := Lib.hid (fun h => all_step (l := s.data.toList) (k := k) (by rw [HL.out]; exact hlt) HA.out h)
      have hc : (s.data.toList.getD k 0).toNat < 256 := UInt8.toNat_lt _
      have hx : ∀ h : k < s.size, (s[k]'h).toNat = (s.data.toList.getD k 0).toNat := fun h => by
        rw [List.getD_eq_getElem?_getD, List.getElem?_eq_getElem (by rw [HL.out]; exact h)]
        rfl
      have HM : Hid (mayC (s.data.toList.getD k 0) = decide _) := rfl
      generalize mayC (s.data.toList.getD k 0) = mc at *
      generalize (s.data.toList.getD k 0).toNat = c at *
      clear HA
      go_wp2
      all_goals (try simp only [beq_eq_false_iff_ne, beq_iff_eq, ne_eq, bne_iff_ne, Bool.not_eq_true', Bool.not_eq_false', Bool.not_eq_true, Bool.not_eq_false, decide_eq_false_iff_not, decide_eq_true_eq, bne_eq_false_iff_eq, Decidable.not_not] at *)
      all_goals first
        | (go_ret
           refine ⟨ret_bool (HW.out.trans (HO.out (HM.out.trans (decide_eq_false (by omega))))).symm, rfl⟩)
        | (refine ⟨⟨k + 1, by omega, rfl, HI.out (HM.out.trans (decide_eq_true (by omega)))⟩, ?_⟩
           simp [intOf]; omega)
    · obtain rfl : k = s.size := by omega
      go_wp2
      go_ret
      refine ⟨ret_bool ?_, rfl⟩
      have := HA.out
      rw [← HL.out, List.take_length] at this
      exact this.symm.trans HW.out.symm
end Go.Proofs.YtoanladhikdcaaaGreat

namespace Go.Proofs.YtoanladhikdcaaaGreat
open Go.RowKit
set_option linter.unusedVariables false
set_option linter.unusedSimpArgs false
set_option maxRecDepth 100000
/-- so many zeros -/
def zB (j : Nat) : ByteArray := ⟨(List.replicate j 0).toArray⟩
theorem zB_size (j : Nat) : (zB j).size = j := by show (List.replicate j (0 : UInt8)).toArray.size = j; simp
theorem zB_snoc (q : ByteArray) (j : Nat) : q ++ zB j ++ ⟨#[0]⟩ = q ++ zB (j + 1) := by
  apply WideShapes.bytes_inj
  simp [zB, List.replicate_succ']
theorem zB_zero (q : ByteArray) : q ++ zB 0 = q := by
  apply WideShapes.bytes_inj
  simp [zB]
def strSz2 : Value → Nat
  | .string s => s.size
  | _ => 0
set_option maxHeartbeats 1000000 in
theorem rone_any (x : EntV) (w : World) (hn : x.name.size ≤ 28) (hi : 0 ≤ x.ino ∧ x.ino < 65536) : Calls Tryz.prog 48 #[.agg #[.string x.name, .int .i64 x.ino]] w fun e w' => e = .returned (.string ⟨(entB x).toArray⟩) ∧ Below w.heap.size w w' := by
  obtain ⟨s, ino⟩ := x
  dsimp only at *
  obtain ⟨i, rfl⟩ : ∃ i : Nat, ino = (i : Int) := ⟨ino.toNat, by omega⟩
  obtain ⟨p1, hp1, sp1⟩ : ∃ p, putB2 i 2 = p ∧ p.size = 2 := ⟨_, rfl, putB2_size _ _⟩
  obtain ⟨p2, hp2, sp2⟩ : ∃ p, putB2 s.size 1 = p ∧ p.size = 1 := ⟨_, rfl, putB2_size _ _⟩
  have HJ : Hid ((p1 ++ p2 ++ ⟨#[0]⟩ ++ s ++ zB (28 - s.size) : ByteArray) = ⟨(entB ⟨s, (i : Int)⟩).toArray⟩) := by
    show _ = _
    rw [← hp1, ← hp2]
    unfold entB putB2 zB
    apply WideShapes.bytes_inj
    simp only [ByteArray.data_append, Array.toList_append, List.append_assoc, List.toList_toArray, Int.toNat_natCast]
  obtain ⟨q, hq⟩ : ∃ q, (p1 ++ p2 ++ ⟨#[0]⟩ ++ s : ByteArray) = q := ⟨_, rfl⟩
  have k0 : (⟨#[0]⟩ : ByteArray).size = 1 := rfl
  have HQ : Hid (q.size = s.size + 4) := by show _ = _; rw [← hq, ByteArray.size_append, ByteArray.size_append, ByteArray.size_append]; omega
  have ad1 := fun (w : World) => run_string_add_sum (P := Tryz.prog) (w := w) p1 p2 (by omega)
  have ad2 := fun (w : World) => run_string_add_sum (P := Tryz.prog) (w := w) (p1 ++ p2) ⟨#[0]⟩ (by rw [ByteArray.size_append]; omega)
  have ad3 := fun (w : World) => run_string_add_sum (P := Tryz.prog) (w := w) (p1 ++ p2 ++ ⟨#[0]⟩) s (by rw [ByteArray.size_append, ByteArray.size_append]; omega)
  have e1 : IntKind.u64.wrap (i : Int) = (i : Int) := IntWalk.u64_in _ (by omega)
  have e2 : IntKind.u64.wrap (s.size : Int) = (s.size : Int) := IntWalk.u64_in _ (by omega)
  have C1 : Hid (∀ w, Calls Tryz.prog 80 #[.int .u64 i, .int .i64 2] w fun e w' => e = .returned (.string p1) ∧ Below w.heap.size w w') := fun w => by rw [← hp1]; exact rput_any i 2 w (by omega) (by omega)
  have C2 : Hid (∀ w, Calls Tryz.prog 80 #[.int .u64 (s.size : Int), .int .i64 1] w fun e w' => e = .returned (.string p2) ∧ Below w.heap.size w w') := fun w => by rw [← hp2]; exact rput_any s.size 1 w (by omega) (by omega)
  have HQ2 := Lib.hid hq
  have HN := Lib.hid hn
  obtain ⟨z, hz⟩ : ∃ z, 28 - s.size = z := ⟨_, rfl⟩
  rw [hq, hz] at HJ
  have HZ := Lib.hid hz
  rw [← HJ.out]
  clear HJ hp1 hp2 hn hi sp1 sp2 k0 hq hz
  go_enter Tryz.func48, Tryz.ntmps48
  go_wp2
  generalize hw1 : w.alloc _ = w1
  have G : Hid (Blk w1 w.heap.size 49 #[.string s, .int .i64 i]) := hw1 ▸ Blk.new _ _ _
  have B : Hid (Below w.heap.size w w1) := hw1 ▸ (Below.refl _ _).alloc (Nat.le_refl _) _
  clear hw1
  have u0 : ∀ u : Ext w1, u.val.cell? ⟨w.heap.size, 0, none⟩ = some (.string s) := fun u => u.cell (G.out.cell 0 rfl)
  have u1 : ∀ u : Ext w1, u.val.cell? ⟨w.heap.size, 1, none⟩ = some (.int .i64 i) := fun u => u.cell (G.out.cell 1 rfl)
  refine wp_region_ext (by kernel_rfl) (by kernel_rfl) ?_
  repeat (go_big_quiet_step (first
    | (go_at_call 80; with_reducible exact Ext.call (C1.out _))
    | (go_at_call 80; with_reducible exact Ext.call (C2.out _))))
  refine wpQuiet_nil ?_
  rintro _ ⟨u, rfl⟩
  have B := Lib.hid (B.out.trans (u.below.mono B.out.size))
  generalize u.val = w2 at B
  rw [HQ2.out]
  clear u0 u1 G C1 C2 ad1 ad2 ad3 e1 e2
  rw [show (Value.string q : Value) = .string (q ++ zB 0) by rw [zB_zero]]
  go_wp2
  go_loop [3] (fun t => ∃ j : Nat, j ≤ z ∧ t = .string (q ++ zB j)) (fun t => z + q.size - strSz2 t)
  case atStart => exact ⟨0, Nat.zero_le _, rfl⟩
  case round =>
    obtain ⟨j, hj, rfl⟩ := hrel
    have hsz : (q ++ zB j).size = q.size + j := by rw [ByteArray.size_append, zB_size]
    obtain ⟨b, hb⟩ : ∃ b, q ++ zB j = b := ⟨_, rfl⟩
    rw [hb] at hsz
    by_cases hlt : j < z
    · have c1 : (b.size : Int) < 32 := by have := HQ.out; have := HN.out; have := HZ.out; omega
      have HB : Hid (b ++ ⟨#[0]⟩ = q ++ zB (j + 1)) := by show _ = _; rw [← hb, zB_snoc]
      have ad := fun (w : World) => run_string_add_sum (P := Tryz.prog) (w := w) b ⟨#[0]⟩ (by show b.size + 1 ≤ _; omega)
      have HM : Hid (z + q.size - strSz2 (.string (b ++ ⟨#[0]⟩)) < z + q.size - strSz2 (.string b)) := by
        show _ - (b ++ ⟨#[0]⟩ : ByteArray).size < _ - b.size
        rw [ByteArray.size_append]
        show _ - (b.size + 1) < _
        omega
      rw [hb]
      clear hsz hb
      go_wp2
      go_round
      case rel => exact ⟨j + 1, by omega, by rw [HB.out]⟩
      case measure => exact HM.out
    · obtain rfl : j = z := by omega
      have c1 : ¬ (b.size : Int) < 32 := by have := HQ.out; have := HN.out; have := HZ.out; omega
      rw [hb]
      have HBQ := Lib.hid hb
      clear hsz hb
      go_wp2
      go_ret
      exact ⟨by rw [HBQ.out]; rfl, B.out⟩
theorem bytesE_snoc (l : List EntV) (k : Nat) (hk : k < l.length) : bytesE (l.take (k + 1)) = bytesE (l.take k) ++ entB l[k] := by
  rw [List.take_succ_eq_append_getElem hk, bytesE_app]
  congr 1
  show entB l[k] ++ [] = entB l[k]
  rw [List.append_nil]
set_option maxHeartbeats 4000000 in
theorem rbytesE_any (A : Option Addr) (c : Nat) (l : List EntV) (w : World) (hl : l.length ≤ 1000) (hn : ∀ x ∈ l, x.name.size ≤ 28 ∧ 0 ≤ x.ino ∧ x.ino < 65536) (h : EntsAt w w.heap.size A l) :
    Calls Tryz.prog 22 #[.slice A l.length c] w fun e w' => e = .returned (.string ⟨(bytesE l).toArray⟩) ∧ Below w.heap.size w w' := by
  have HN := Lib.hid hn
  have HB : Hid (∀ k, (bytesE (l.take k)).length ≤ 32 * 1000) := fun k => by
    rw [bytes_le _ (fun x hx => (hn x (List.mem_of_mem_take hx)).1), List.length_take]
    omega
  have R0 := Lib.hid h
  have B0 := Lib.hid (Below.refl w.heap.size w)
  clear h hn
  go_enter Tryz.func22, Tryz.ntmps22
  go_wp2
  go_loopw [3, 7] (fun t i wr => ∃ k : Nat, k ≤ l.length ∧ i = .int .i64 (k : Int) ∧ t = .string ⟨(bytesE (l.take k)).toArray⟩ ∧ Hid (EntsAt wr w.heap.size A l) ∧ Hid (Below w.heap.size w wr)) (fun _ i _ => l.length - (intOf i).toNat)
  case atStart => exact ⟨0, Nat.zero_le _, rfl, rfl, R0, B0⟩
  case round =>
    clear R0 B0
    obtain ⟨k, hk, rfl, rfl, R, B⟩ := hrel
    by_cases hlt : k < l.length
    · obtain ⟨bA, oA, rfl, hbA, hrA⟩ := R.out.get hlt
      obtain ⟨n1, n2, n3⟩ := HN.out _ (List.getElem_mem hlt)
      have HE := entB_len n1
      have hbk := HB.out k
      have HS : Hid ((⟨(bytesE (l.take k)).toArray⟩ ++ ⟨(entB l[k]).toArray⟩ : ByteArray) = ⟨(bytesE (l.take (k + 1))).toArray⟩) := by
        show _ = _
        rw [bytesE_snoc l k hlt]
        apply WideShapes.bytes_inj
        simp
      have ad := fun (w : World) => run_string_add_sum (P := Tryz.prog) (w := w) ⟨(bytesE (l.take k)).toArray⟩ ⟨(entB l[k]).toArray⟩ (by
        show (bytesE (l.take k)).toArray.size + (entB l[k]).toArray.size ≤ _
        rw [List.size_toArray, List.size_toArray]
        omega)
      generalize (⟨(bytesE (l.take k)).toArray⟩ : ByteArray) = bk at *
      generalize l[k] = x at *
      have CE := Lib.hid (fun w => rone_any x w n1 ⟨n2, n3⟩)
      generalize (⟨(entB x).toArray⟩ : ByteArray) = eb at *
      obtain ⟨nm, ino⟩ := x
      dsimp only at *
      have HR : Hid (wr.rangeAt bA (oA + k * 2) [.string nm, .int .i64 ino]) := hrA
      have i2 : (k : Int) < (l.length : Int) := by omega
      have i3 : (0 : Int) ≤ (k : Int) := by omega
      clear hrA hbk HE
      go_wp2_with (first
        | (refine wpList_load_mid rfl 49 (.tmp 13) rfl bA (oA + k * 2) rfl _ _ HR.out Tryz.underlying49 rfl (by kernel_rfl) ?_; go_frame)
        | (go_at_call 48; refine (CE.out _).mono ?_; rintro e w5 ⟨rfl, hb5⟩; have R5 := Lib.hid (R.out.below (hb5.mono B.out.size)); have B5 := Lib.hid (B.out.trans (hb5.mono B.out.size)); clear hb5 R B HR))
      go_roundw
      case rel => exact ⟨k + 1, by omega, by go_num, by rw [HS.out], R5, B5⟩
      case measure => simp [intOf]; omega
    · obtain rfl : k = l.length := by omega
      go_wp2
      go_ret
      exact ⟨by rw [List.take_length]; rfl, B.out⟩
theorem getE_at {l : List EntV} {nm : ByteArray} {k : Nat} (hk : k < l.length) (h : ∀ j (hj : j < k), l[j].name ≠ nm) (e : l[k].name = nm) : getE l nm = l[k].ino := by
  have hs : l = l.take k ++ l[k] :: l.drop (k + 1) := by rw [List.getElem_cons_drop, List.take_append_drop]
  unfold getE
  have hf : (l.take k).find? (fun x => decide (x.name = nm)) = none := by
    rw [List.find?_eq_none]
    intro x hx
    obtain ⟨j, hj, rfl⟩ := List.mem_iff_getElem.1 hx
    rw [List.length_take] at hj
    rw [List.getElem_take]
    simpa using h j (by omega)
  generalize hz : l[k] = z at *
  rw [hs, List.find?_append, hf, List.find?_cons_of_pos (by simp [e])]
  rfl
theorem getE_none {l : List EntV} {nm : ByteArray} (h : ∀ j (hj : j < l.length), l[j].name ≠ nm) : getE l nm = 0 := by
  unfold getE
  have : l.find? (fun x => decide (x.name = nm)) = none := by
    rw [List.find?_eq_none]
    intro x hx
    obtain ⟨j, hj, rfl⟩ := List.mem_iff_getElem.1 hx
    simpa using h j hj
  rw [this]
  rfl
set_option maxHeartbeats 4000000 in
theorem rfind_any (A : Option Addr) (c : Nat) (l : List EntV) (nm : ByteArray) (w : World) (hl : l.length ≤ 1000) (h : EntsAt w w.heap.size A l) :
    Calls Tryz.prog 20 #[.slice A l.length c, .string nm] w fun e w' => e = .returned (.int .i64 (getE l nm)) ∧ w = w' := by
  have HR := Lib.hid h
  clear h
  go_enter Tryz.func20, Tryz.ntmps20
  go_wp2
  go_loop [8] (fun i => ∃ k : Nat, k ≤ l.length ∧ i = .int .i64 (k : Int) ∧ Hid (∀ j (hj : j < k) (hl : j < l.length), l[j].name ≠ nm)) (fun i => l.length - (intOf i).toNat)
  case atStart => exact ⟨0, Nat.zero_le _, rfl, fun j hj => absurd hj (Nat.not_lt_zero _)⟩
  case round =>
    obtain ⟨k, hk, rfl, HA⟩ := hrel
    by_cases hlt : k < l.length
    · obtain ⟨bA, oA, rfl, hbA, hrA⟩ := HR.out.get hlt
      have c0 := hrA 0 _ rfl
      have c1 := hrA 1 _ rfl
      rw [Nat.add_zero] at c0
      have i2 : (k : Int) < (l.length : Int) := by omega
      have i3 : (0 : Int) ≤ (k : Int) := by omega
      by_cases he : l[k].name = nm
      · have HG := Lib.hid (getE_at hlt (fun j hj => HA.out j hj (by omega)) he)
        rw [he] at c0
        have s1 : (nm.toList == nm.toList) = true := by simp
        generalize l[k] = x at *
        clear hrA HA he
        go_wp2
        go_ret
        exact ⟨by rw [HG.out]; rfl, rfl⟩
      · have HE := Lib.hid he
        have s1 : (l[k].name.toList == nm.toList) = false := by simpa using str_ne he
        have HS : Hid (∀ j (hj : j < k + 1) (hl : j < l.length), l[j].name ≠ nm) := fun j hj hl => by
          by_cases e : j = k
          · subst e; exact he
          · exact HA.out j (by omega) hl
        generalize l[k] = x at *
        obtain ⟨xn, xi⟩ := x
        dsimp only at *
        clear hrA HA he HE
        go_wp2
        go_round
        case rel => exact ⟨k + 1, by omega, by go_num, HS⟩
        case measure => simp [intOf]; omega
    · obtain rfl : k = l.length := by omega
      have HG := Lib.hid (getE_none (l := l) (nm := nm) (fun j hj => HA.out j hj hj))
      go_wp2
      go_ret
      exact ⟨by rw [HG.out]; rfl, rfl⟩
/-! ### Same -/
theorem entTy : Tryz.prog.underlying 49 = some (.struct (Tryz.prog.fieldsOf 49)) := by kernel_rfl
theorem entH : Tryz.prog.stoodInHeld 49 = false := by kernel_rfl
theorem ent_neq (nm : ByteArray) (ino : Int) (w : World) : (binOp .neq 49 (.agg #[.string nm, .int .i64 ino]) (.agg #[.string nm, .int .i64 ino])).run Tryz.prog w = .ok (.bool false) w := by
  rw [run_neq_struct]
  have : (Op.equalIn 10000 49 (.agg #[.string nm, .int .i64 ino]) (.agg #[.string nm, .int .i64 ino])).run Tryz.prog w = .ok true w := by
    rw [run_equalIn_agg _ _ _ _ _ entTy entH]
    simp [go_sem]
  rw [this]; rfl
end Go.Proofs.YtoanladhikdcaaaGreat

namespace Go.Proofs.YtoanladhikdcaaaGreat
open Go.RowKit
set_option linter.unusedVariables false
set_option linter.unusedSimpArgs false
set_option maxRecDepth 100000
def ROfPost (o : Option (List EntV)) (w : World) (e : Ending) (w' : World) : Prop := (∃ v, e = .returned (.tuple #[v, .bool o.isSome]) ∧ ∀ l, o = some l → OwnEnts l w v w') ∧ Below w.heap.size w w'
theorem rof_none {w w' : World} {v : Value} (h : Below w.heap.size w w') : ROfPost none w (.returned (.tuple #[v, .bool false])) w' := ⟨⟨v, rfl, fun _ h => by cases h⟩, h⟩
theorem made_ents (w : World) : (w.alloc (.cells #[] 49)).ownsRow w.heap.size 49 2 (.slice (some ⟨w.heap.size, 0, none⟩) 0 0) 0 (entC []) :=
  ⟨rfl, .inr ⟨w.heap.size, 0, #[], rfl, Nat.le_refl _, by show (w.heap.push _)[w.heap.size]? = _; rw [Array.getElem?_push, if_pos rfl], Nat.le_refl _, Nat.zero_le _, rfl, rfl⟩⟩
/-- the parts of an entry in the midst of the bytes -/
theorem two_parts {b : ByteArray} {L : List UInt8} {N k : Nat} (h : b.data.toList = L) (hl : L.length = 32 * N) (hk : k < N) :
    ∃ c : Nat, ((piece L k).getD 2 0).toNat = c ∧ c < 256 ∧ (∀ h2 : 32 * k + 2 < b.size, (b[32 * k + 2].toNat) = c) ∧ (b.extract (32 * k) (32 * k + 32)).data.toList = piece L k ∧
      (c ≤ 24 → entK (piece L k) = ⟨b.extract (32 * k + 4) (32 * k + 4 + c), (leN (b.extract (32 * k) (32 * k + 2)).data.toList : Nat)⟩) := by
  have hb : b.size = 32 * N := by rw [← hl, ← h, Array.length_toList]; rfl
  have hp : (b.extract (32 * k) (32 * k + 32)).data.toList = piece L k := by
    rw [ext_list, h]
    unfold piece
    rw [show 32 * k + 32 - 32 * k = 32 by omega]
  have hg : ∀ h2 : 32 * k + 2 < b.size, (b[32 * k + 2].toNat) = ((piece L k).getD 2 0).toNat := fun h2 => by
    unfold piece
    rw [List.getD_eq_getElem?_getD, List.getElem?_take, if_pos (by omega), List.getElem?_drop, ← h, List.getElem?_eq_getElem (by rw [Array.length_toList]; exact h2)]
    rfl
  refine ⟨_, rfl, UInt8.toNat_lt _, hg, hp, fun hc => ?_⟩
  unfold entK
  congr 1
  · apply WideShapes.bytes_inj
    rw [ext_list, h]
    unfold piece
    show ((List.take 32 (List.drop (32 * k) L)).drop 4).take _ = _
    rw [List.drop_take, List.drop_drop, List.take_take]
    congr 1
    unfold piece at hc
    omega
  · rw [ext_list, h]
    unfold piece
    rw [List.take_take, show 32 * k + 2 - 32 * k = 2 by omega]
    rfl
set_option maxHeartbeats 8000000 in
theorem rents_any (b : ByteArray) (w : World) (hb : b.size ≤ 8960) : Calls Tryz.prog 43 #[.string b] w (ROfPost (entsO b.data.toList) w) := by
  have hl : b.data.toList.length = b.size := by rw [Array.length_toList]; rfl
  have et : (b.size : Int).tmod 32 = ((b.size % 32 : Nat) : Int) := by rw [Int.tmod_eq_emod_of_nonneg (by omega)]; omega
  obtain ⟨i0, q1, q2, q3, q4⟩ := info_parts ent_info
  have I0 := Lib.hid (And.intro q1 (And.intro q2 (And.intro q3 q4)))
  have OM := Lib.hid (made_ents w)
  have BM := Lib.hid ((Below.refl w.heap.size w).alloc (Nat.le_refl _) (.cells #[] 49))
  clear q1 q2 q3 q4
  by_cases hm : b.size % 32 = 0
  · obtain ⟨N, hN⟩ : ∃ N, b.size = 32 * N := ⟨b.size / 32, by omega⟩
    have e0 : (((b.size % 32 : Nat) : Int) != 0) = false := by rw [hm]; rfl
    obtain ⟨L, hL⟩ : ∃ L, b.data.toList = L := ⟨_, rfl⟩
    rw [hL] at hl ⊢
    have HLN : Hid (L.length = 32 * N) := hl.trans hN
    have HN : Hid (N ≤ 280) := by show _ ≤ _; omega
    have HL := Lib.hid hL
    have HBN := Lib.hid hN
    have HG := Lib.hid (fun (i : Nat) (h : i < 0) => (absurd h (Nat.not_lt_zero _) : stepK L i = true))
    clear hl hL hb hN
    go_enter Tryz.func43, Tryz.ntmps43
    go_wp2
    generalize World.alloc _ _ = w0 at *
    go_loopw [4, 5] (fun v t wr => ∃ (k : Nat), k ≤ N ∧ t = .int .i64 ((32 * k : Nat) : Int) ∧ Hid (wr.ownsRow w.heap.size 49 2 v k (entC (entsN L k))) ∧ Hid (Below w.heap.size w wr) ∧ Hid (∀ i, i < k → stepK L i = true)) (fun _ t _ => b.size - (intOf t).toNat)
    case atStart => exact ⟨0, Nat.zero_le _, rfl, OM, BM, HG⟩
    case round =>
      clear HG et e0 hm OM BM
      obtain ⟨k, hk, rfl, O, B, HA⟩ := hrel
      obtain ⟨p, hp⟩ : ∃ p, 32 * k = p := ⟨_, rfl⟩
      rw [hp]
      have HP := Lib.hid hp
      by_cases hlt : k < N
      · have hbn := HBN.out
        have hn280 := HN.out
        have c1 : (p : Int) < (b.size : Int) := by omega
        obtain ⟨c, hc, hc256, hc2, hop, hx⟩ := two_parts HL.out HLN.out hlt
        rw [hp] at hc2 hop hx
        have HBAD := Lib.hid (fun h => entsO_bad HLN.out hlt (step_bad (good_bad h)))
        rw [hc] at HBAD
        have p1 : IntKind.i64.wrap ((p : Int) + 2) = ((p + 2 : Nat) : Int) := by rw [show (p : Int) + 2 = ((p + 2 : Nat) : Int) by omega]; exact IntWalk.i64_in _ (by omega)
        have p2 : ((p + 2 : Nat) : Int) < (b.size : Int) := by omega
        have p3 : (0 : Int) ≤ ((p + 2 : Nat) : Int) := by omega
        have p4 : p + 2 < b.size := by omega
        have p5 := hc2 p4
        have hwp1 : IntKind.i64.wrap ((p : Int) + 4) = ((p + 4 : Nat) : Int) := by rw [show (p : Int) + 4 = ((p + 4 : Nat) : Int) by omega]; exact IntWalk.i64_in _ (by omega)
        have hwp3 : IntKind.i64.wrap ((p : Int) + 32) = ((p + 32 : Nat) : Int) := by rw [show (p : Int) + 32 = ((p + 32 : Nat) : Int) by omega]; exact IntWalk.i64_in _ (by omega)
        clear hc2 hbn
        by_cases hc24 : c ≤ 24
        · have o4 : ¬ (24 : Int) < (c : Int) := by omega
          have hwp2 : IntKind.i64.wrap (((p + 4 : Nat) : Int) + (c : Int)) = ((p + 4 + c : Nat) : Int) := by rw [show ((p + 4 : Nat) : Int) + (c : Int) = ((p + 4 + c : Nat) : Int) by omega]; exact IntWalk.i64_in _ (by omega)
          have b1 : (0 : Int) ≤ (p : Int) := by omega
          have b2 : (p : Int) ≤ ((p + 2 : Nat) : Int) := by omega
          have b3 : ((p + 2 : Nat) : Int) ≤ (b.size : Int) := by have := HBN.out; omega
          have b4 : (0 : Int) ≤ ((p + 4 : Nat) : Int) := by omega
          have b5 : ((p + 4 : Nat) : Int) ≤ ((p + 4 + c : Nat) : Int) := by omega
          have b6 : ((p + 4 + c : Nat) : Int) ≤ (b.size : Int) := by have := HBN.out; omega
          have b7 : (p : Int) ≤ ((p + 32 : Nat) : Int) := by omega
          have b8 : ((p + 32 : Nat) : Int) ≤ (b.size : Int) := by have := HBN.out; omega
          have HX := Lib.hid (hx hc24)
          obtain ⟨nm, hnm⟩ : ∃ nm, b.extract (p + 4) (p + 4 + c) = nm := ⟨_, rfl⟩
          have hns : nm.size = c := by rw [← hnm, ByteArray.size_extract]; have := HBN.out; omega
          obtain ⟨t, ht⟩ : ∃ t, b.extract p (p + 2) = t := ⟨_, rfl⟩
          have hts : t.size = 2 := by rw [← ht, ByteArray.size_extract]; have := HBN.out; omega
          obtain ⟨o, ho⟩ : ∃ o, b.extract p (p + 32) = o := ⟨_, rfl⟩
          obtain ⟨q, hq⟩ : ∃ q, leN t.data.toList = q := ⟨_, rfl⟩
          have hq16 : q < 65536 := by
            have := leN_lt t.data.toList
            rw [hq, Array.length_toList] at this
            have h2 : t.data.size = 2 := hts
            rw [h2] at this
            exact this
          rw [hnm, ht, hq] at HX
          rw [ho] at hop
          have CG : Hid (∀ w, Calls Tryz.prog 75 #[.string t] w fun e w' => e = .returned (.int .u64 (q : Nat)) ∧ w = w') := fun w => by rw [← hq]; exact rget_any t w (by omega)
          have q4 : IntKind.i64.wrap (q : Int) = (q : Int) := IntWalk.i64_in _ (by omega)
          have HNS := Lib.hid hns
          clear hx hq hts hns hc256
          go_wp2_with fail
          apply wp_region_free 16 0 0 7 _ (fun X w' => ∃ p, X = .pointer (some ⟨p, 0, none⟩) ∧ wr.heap.size ≤ p ∧ Blk w' p 49 #[.string ⟨#[]⟩, .int .i64 0]) (by kernel_rfl) (by kernel_rfl) rfl
          case hΦ =>
            rintro X u u' ⟨p, rfl, hp, hb⟩ hu
            exact ⟨p, rfl, hp, hb.below hu hb.lt⟩
          case W1 =>
            intro wb hwb
            unfold ExtC
            simp only [List.take_succ_cons, List.take_zero, List.drop_succ_cons, List.drop_zero]
            repeat (go_big_quiet_step (first
              | (go_at_call 75; with_reducible exact Ext.call_same (CG.out _))))
            exact wpQuiet_nil rfl
          case MK =>
            intro wb hwb
            exact ⟨.pointer (some ⟨wb.heap.size, 0, none⟩), wb.alloc (.cells #[.string ⟨#[]⟩, .int .i64 0] 49), rfl, ⟨_, rfl, hwb.size, Blk.new wb _ _⟩, (Below.refl _ _).alloc (Nat.le_refl _) _⟩
          case UM =>
            intro X wb hwb hX
            exact wpQuiet_nil rfl
          case W2 =>
            intro X wb hwb
            exact wpQuiet_nil rfl
          rintro X w2 hb2 ⟨gx, rfl, hgx, hbx⟩
          have HB2 := Lib.hid hb2
          have GZ := Lib.hid hbx
          clear hb2 hbx CG
          simp only [List.take_succ_cons, List.take_zero, List.drop_succ_cons, List.drop_zero]
          go_wp2_with (refine store_blk 49 (.tmp 7) (.tmp 43) gx 49 #[.string ⟨#[]⟩, .int .i64 0] #[.string nm, .int .i64 (q : Int)] rfl rfl rfl rfl GZ.out rfl (by kernel_rfl) (by simp [Value.oneCell']) ?_; intro w3 hr3 hg3; have GX := Lib.hid hr3; have HB3 := Lib.hid (HB2.out.grown hg3 HB2.out.size (fun j e => by cases e; exact hgx)); have B3 := Lib.hid (B.out.trans (HB3.out.mono B.out.size)); clear hr3 hg3 HB2)
          have m1 : mayB nm.data.toList = true ∨ mayB nm.data.toList = false := by cases mayB nm.data.toList <;> simp
          have CM := Lib.hid (fun w => rmay_any nm w (by have := HNS.out; omega))
          have CE := Lib.hid (fun w => rone_any ⟨nm, (q : Int)⟩ w (by show nm.size ≤ 28; have := HNS.out; omega) (by show (0 : Int) ≤ q ∧ (q : Int) < 65536; omega))
          have HEQ : Hid ((⟨(entB ⟨nm, (q : Int)⟩).toArray⟩ : ByteArray) = o ↔ entB (entK (piece L k)) = piece L k) := by
            show _ ↔ _
            rw [HX.out, ← hop]
            constructor
            · intro h; rw [← h]
            · intro h; rw [h]
          dsimp only at CE
          generalize (⟨(entB ⟨nm, (q : Int)⟩).toArray⟩ : ByteArray) = es at *
          have d0 : ∀ u : Ext w3, u.val.cell? ⟨gx, 0, none⟩ = some (.string nm) := fun u => u.cell (GX.out.cell 0 rfl)
          have d1 : ∀ u : Ext w3, u.val.cell? ⟨gx, 1, none⟩ = some (.int .i64 (q : Int)) := fun u => u.cell (GX.out.cell 1 rfl)
          go_frame
          by_cases hbad : mayB nm.data.toList = false ∨ (q : Int) < 1 ∨ (64 : Int) < (q : Int) ∨ es ≠ o
          · have HE : Hid (entsO L = none) := by
              refine HBAD.out (.inr ?_)
              rcases hbad with h | h | h | h
              · left; rw [HX.out]; exact okE_bad (.inr (.inr h))
              · left; rw [HX.out]; exact okE_bad (.inl h)
              · left; rw [HX.out]; exact okE_bad (.inr (.inl h))
              · right; exact fun e => h (HEQ.out.2 e)
            clear HBAD HEQ HX hop HA
            by_cases a3 : mayB nm.data.toList = false
            · rw [a3] at CM
              refine wp_region_ext (by kernel_rfl) (by kernel_rfl) ?_
              repeat (go_big_quiet_step (first
                | (go_at_call 18; with_reducible exact Ext.call_same (CM.out _))
                | (go_at_call 48; with_reducible exact Ext.call (CE.out _))))
              refine wpQuiet_nil ?_
              rintro _ ⟨u, rfl⟩
              have B6 := Lib.hid (B3.out.trans (u.below.mono B3.out.size))
              generalize u.val = w6 at B6
              clear d0 d1
              go_wp2
              go_ret2
              rw [HE.out]
              exact rof_none B6.out
            have a3 : mayB nm.data.toList = true := by simpa using a3
            rw [a3] at CM
            by_cases a1 : (q : Int) < 1
            · have a1' : decide ((q : Int) < 1) = true := decide_eq_true a1
              refine wp_region_ext (by kernel_rfl) (by kernel_rfl) ?_
              repeat (go_big_quiet_step (first
                | (go_at_call 18; with_reducible exact Ext.call_same (CM.out _))
                | (go_at_call 48; with_reducible exact Ext.call (CE.out _))))
              refine wpQuiet_nil ?_
              rintro _ ⟨u, rfl⟩
              have B6 := Lib.hid (B3.out.trans (u.below.mono B3.out.size))
              generalize u.val = w6 at B6
              clear d0 d1
              go_wp2
              go_ret2
              rw [HE.out]
              exact rof_none B6.out
            have a1' : decide ((q : Int) < 1) = false := decide_eq_false a1
            by_cases a2 : (64 : Int) < (q : Int)
            · have a2' : decide ((64 : Int) < (q : Int)) = true := decide_eq_true a2
              refine wp_region_ext (by kernel_rfl) (by kernel_rfl) ?_
              repeat (go_big_quiet_step (first
                | (go_at_call 18; with_reducible exact Ext.call_same (CM.out _))
                | (go_at_call 48; with_reducible exact Ext.call (CE.out _))))
              refine wpQuiet_nil ?_
              rintro _ ⟨u, rfl⟩
              have B6 := Lib.hid (B3.out.trans (u.below.mono B3.out.size))
              generalize u.val = w6 at B6
              clear d0 d1
              go_wp2
              go_ret2
              rw [HE.out]
              exact rof_none B6.out
            have a2' : decide ((64 : Int) < (q : Int)) = false := decide_eq_false a2
            have a4 : es ≠ o := by
              rcases hbad with h | h | h | h
              · rw [a3] at h; cases h
              · exact absurd h a1
              · exact absurd h a2
              · exact h
            have a5 := str_ne a4
            refine wp_region_ext (by kernel_rfl) (by kernel_rfl) ?_
            repeat (go_big_quiet_step (first
              | (go_at_call 18; with_reducible exact Ext.call_same (CM.out _))
              | (go_at_call 48; with_reducible exact Ext.call (CE.out _))))
            refine wpQuiet_nil ?_
            rintro _ ⟨u, rfl⟩
            have B6 := Lib.hid (B3.out.trans (u.below.mono B3.out.size))
            generalize u.val = w6 at B6
            clear d0 d1
            go_wp2
            go_ret2
            rw [HE.out]
            exact rof_none B6.out
          have a3 : mayB nm.data.toList = true := by cases h : mayB nm.data.toList with
            | true => rfl
            | false => exact absurd (.inl h) hbad
          have a1 : ¬ (q : Int) < 1 := fun h => hbad (.inr (.inl h))
          have a2 : ¬ (64 : Int) < (q : Int) := fun h => hbad (.inr (.inr (.inl h)))
          obtain rfl : es = o := Classical.not_not.1 (fun h => hbad (.inr (.inr (.inr h))))
          have HGD : Hid (goodK (piece L k) = true) := by
            show _ = _
            unfold goodK
            rw [HEQ.out.1 rfl, hc, HX.out]
            simp only [okE, a3, Bool.true_and, Bool.and_true, Bool.and_eq_true, decide_eq_true_eq, and_true]
            omega
          have a5 := str_eq es
          have a1' : decide ((q : Int) < 1) = false := decide_eq_false a1
          have a2' : decide ((64 : Int) < (q : Int)) = false := decide_eq_false a2
          rw [a3] at CM
          obtain ⟨A, cp, rfl, HR⟩ := own_ents O.out (entsN_len L k)
          have HR := Lib.hid HR
          clear hbad HEQ hop
          refine wp_region_ext (by kernel_rfl) (by kernel_rfl) ?_
          repeat (go_big_quiet_step (first
            | (go_at_call 18; with_reducible exact Ext.call_same (CM.out _))
            | (go_at_call 48; with_reducible exact Ext.call (CE.out _))))
          refine wpQuiet_nil ?_
          rintro _ ⟨u, rfl⟩
          have HB4 : Hid (Below wr.heap.size wr u.val) := HB3.out.trans (u.below.mono HB3.out.size)
          have GX4 : Hid (Blk u.val gx 49 #[.string nm, .int .i64 (q : Int)]) := GX.out.below u.below GX.out.lt
          have B4 := Lib.hid (B3.out.trans (u.below.mono B3.out.size))
          generalize u.val = w4 at *
          clear d0 d1 GX HB3 B3 a1 a2 a1' a2' a3 a5 CM CE
          have d0 : ∀ u : Ext w4, u.val.cell? ⟨gx, 0, none⟩ = some (.string nm) := fun u => u.cell (GX4.out.cell 0 rfl)
          have d1 : ∀ u : Ext w4, u.val.cell? ⟨gx, 1, none⟩ = some (.int .i64 (q : Int)) := fun u => u.cell (GX4.out.cell 1 rfl)
          by_cases hk0 : k = 0
          · have k5 : decide (0 < k) = false := decide_eq_false (by omega)
            have HOK : Hid (stepK L k = true) := by
              show _ = _
              unfold stepK
              rw [HGD.out, hk0]; rfl
            have HK0 := Lib.hid hk0
            clear HGD hk0
            go_wp2_with fail
            refine wp_region_ext (by kernel_rfl) (by kernel_rfl) ?_
            repeat (go_big_quiet_step (fail))
            refine wpQuiet_nil ?_
            rintro _ ⟨u, rfl⟩
            clear k5
            have HB6 : Hid (Below wr.heap.size wr u.val) := HB4.out.trans (u.below.mono HB4.out.size)
            have GX6 : Hid (Blk u.val gx 49 #[.string nm, .int .i64 (q : Int)]) := GX4.out.below u.below GX4.out.lt
            generalize u.val = w6 at *
            clear GX4 HB4 B4 d0 d1 GZ
            have O7 : Hid ((w6.alloc (.cells #[.string nm, .int .i64 (q : Int)] 49)).ownsRow w.heap.size 49 2 _ k (entC (entsN L k))) := World.ownsRow.alloc (own_below O.out HB6.out) _
            have B7 := Lib.hid ((B.out.trans (HB6.out.mono B.out.size)).alloc (B.out.trans (HB6.out.mono B.out.size)).size (.cells #[.string nm, .int .i64 (q : Int)] 49))
            have HC7 : Hid (∀ j u, [Value.string nm, Value.int .i64 (q : Int)][j]? = some u → (w6.alloc (.cells #[.string nm, .int .i64 (q : Int)] 49)).cell? ((⟨w6.heap.size, 0, none⟩ : Addr).add j) = some u) := fun j u hu => by
              have hB := Blk.new w6 49 #[.string nm, .int .i64 (q : Int)]
              rw [add_zero_addr, Nat.zero_add]
              exact hB.cell j (by simpa using hu)
            have H17 : Hid (∀ u ∈ [Value.string nm, Value.int .i64 (q : Int)], u.oneCell' = true) := fun u hu => by
              rcases List.mem_cons.1 hu with rfl | hu
              · rfl
              · rcases List.mem_cons.1 hu with rfl | hu
                · rfl
                · cases hu
            have HM7 : Hid (k + 1 ≤ maxLen) := by show _ ≤ _; have := HN.out; unfold maxLen; omega
            have HY7 : Hid ((k + 1) * 24 ≤ 140737488355328) := by show _ ≤ _; have := HN.out; omega
            have e0 := GX6.out.cell 0 rfl
            have e1 := GX6.out.cell 1 rfl
            have HA2 : Hid (∀ i, i < k + 1 → stepK L i = true) := fun i hi => by
              by_cases e : i = k
              · rw [e]; exact HOK.out
              · exact HA.out i (by omega)
            have HEN : Hid (entC (entsN L k) ++ [Value.string nm, Value.int .i64 (q : Int)] = entC (entsN L (k + 1))) := by
              show _ = _
              rw [entsN_succ, entC_app, HX.out]
              rfl
            have HP2 : Hid (p + 32 = 32 * (k + 1)) := by show _ = _; have := HP.out; omega
            go_wp2_with (at_builtin; refine wpList_append_own _ rfl (.tmp 85) (.tmp 87) 39 rfl w.heap.size 49 i0 (.agg #[.string ⟨#[]⟩, .int .i64 0]) 2 24 Tryz.underlying39 I0.out.1 I0.out.2.1 I0.out.2.2.1 I0.out.2.2.2 rfl (by decide) _ k (entC (entsN L k)) rfl O7.out ⟨w6.heap.size, 0, none⟩ 1 1 [.string nm, .int .i64 (q : Int)] rfl rfl HC7.out H17.out HM7.out HY7.out B7.out.size ?_; intro v9 w9 own hg hv; have O9 : Hid (w9.ownsRow w.heap.size 49 2 v9 (k + 1) (entC (entsN L (k + 1)))) := HEN.out ▸ own; have B9 := Lib.hid (B7.out.grown hg B7.out.size (fun j e => (O7.out.lt j e).1)); clear own hg hv)
            go_roundw
            case rel => exact ⟨k + 1, by omega, by rw [← HP2.out]; first | rfl | go_num, O9, B9, HA2⟩
            case measure => simp [intOf]; omega
          · obtain ⟨j, hj⟩ : ∃ j, k = j + 1 := ⟨k - 1, by omega⟩
            have k1 : (0 : Int) < (k : Int) := by omega
            have k2 : IntKind.i64.wrap ((k : Int) - 1) = (j : Int) := by rw [show (k : Int) - 1 = (j : Int) by omega]; exact IntWalk.i64_in _ (by have := HN.out; omega)
            have k3 : (j : Int) < (k : Int) := by omega
            have k5 : decide (0 < k) = true := decide_eq_true (by omega)
            have k4 : (0 : Int) ≤ (j : Int) := by omega
            obtain ⟨bA, oA, rfl, hbA, hrA⟩ := HR.out.get (k := j) (by rw [entsN_len]; omega)
            obtain ⟨pn, hpn⟩ : ∃ pn, (entK (piece L j)).name = pn := ⟨_, rfl⟩
            have hg : ∀ h, ((entsN L k)[j]'h).name = pn := fun h => by rw [← hpn]; simp [entsN]
            have HC : Hid (∀ w', Below wr.heap.size wr w' → w'.cell? ⟨bA, oA + j * 2, none⟩ = some (.string pn)) := fun w' h => by
              have := hrA 0 (.string pn) (by rw [← hg]; rfl)
              exact (h.cell (p := ⟨bA, oA + j * 2, none⟩) hbA).trans this
            have HST : Hid (stepK L k = ltB pn nm) := by
              show _ = _
              unfold stepK
              rw [HGD.out, Bool.true_and, hj, show (j + 1 == 0) = false from rfl, Bool.false_or, show j + 1 - 1 = j by omega, hpn, ← hj, HX.out]
            have HBD := Lib.hid (fun h => entsO_bad (L := L) HLN.out hlt h)
            have HJ := Lib.hid hj
            have p9 : ∀ u : Ext w4, u.val.cell? ⟨bA, oA + j * 2, none⟩ = some (.string pn) := fun u => HC.out _ (HB4.out.trans (u.below.mono HB4.out.size))
            clear hrA hpn hj hg
            cases hlt2 : ltB pn nm with
            | false =>
              have HE := Lib.hid (HBD.out (HST.out.trans hlt2))
              have l1 : Op.bytesLess pn.toList nm.toList = false := (less_walk pn nm).trans hlt2
              clear HBD HST HGD
              go_wp2_with fail
              refine wp_region_ext (by kernel_rfl) (by kernel_rfl) ?_
              repeat (go_big_quiet_step (fail))
              refine wpQuiet_nil ?_
              rintro _ ⟨u, rfl⟩
              have B6 := Lib.hid (B4.out.trans (u.below.mono B4.out.size))
              generalize u.val = w6 at B6
              clear p9 d0 d1
              go_wp2
              go_ret2
              rw [HE.out]
              exact rof_none B6.out
            | true =>
              have HOK : Hid (stepK L k = true) := HST.out.trans hlt2
              have l1 : Op.bytesLess pn.toList nm.toList = true := (less_walk pn nm).trans hlt2
              clear HBD HST HGD hlt2
              go_wp2_with fail
              refine wp_region_ext (by kernel_rfl) (by kernel_rfl) ?_
              repeat (go_big_quiet_step (fail))
              refine wpQuiet_nil ?_
              rintro _ ⟨u, rfl⟩
              clear p9 l1 k2
              have HB6 : Hid (Below wr.heap.size wr u.val) := HB4.out.trans (u.below.mono HB4.out.size)
              have GX6 : Hid (Blk u.val gx 49 #[.string nm, .int .i64 (q : Int)]) := GX4.out.below u.below GX4.out.lt
              generalize u.val = w6 at *
              clear GX4 HB4 B4 d0 d1 GZ
              have O7 : Hid ((w6.alloc (.cells #[.string nm, .int .i64 (q : Int)] 49)).ownsRow w.heap.size 49 2 _ k (entC (entsN L k))) := World.ownsRow.alloc (own_below O.out HB6.out) _
              have B7 := Lib.hid ((B.out.trans (HB6.out.mono B.out.size)).alloc (B.out.trans (HB6.out.mono B.out.size)).size (.cells #[.string nm, .int .i64 (q : Int)] 49))
              have HC7 : Hid (∀ j u, [Value.string nm, Value.int .i64 (q : Int)][j]? = some u → (w6.alloc (.cells #[.string nm, .int .i64 (q : Int)] 49)).cell? ((⟨w6.heap.size, 0, none⟩ : Addr).add j) = some u) := fun j u hu => by
                have hB := Blk.new w6 49 #[.string nm, .int .i64 (q : Int)]
                rw [add_zero_addr, Nat.zero_add]
                exact hB.cell j (by simpa using hu)
              have H17 : Hid (∀ u ∈ [Value.string nm, Value.int .i64 (q : Int)], u.oneCell' = true) := fun u hu => by
                rcases List.mem_cons.1 hu with rfl | hu
                · rfl
                · rcases List.mem_cons.1 hu with rfl | hu
                  · rfl
                  · cases hu
              have HM7 : Hid (k + 1 ≤ maxLen) := by show _ ≤ _; have := HN.out; unfold maxLen; omega
              have HY7 : Hid ((k + 1) * 24 ≤ 140737488355328) := by show _ ≤ _; have := HN.out; omega
              have e0 := GX6.out.cell 0 rfl
              have e1 := GX6.out.cell 1 rfl
              have HA2 : Hid (∀ i, i < k + 1 → stepK L i = true) := fun i hi => by
                by_cases e : i = k
                · rw [e]; exact HOK.out
                · exact HA.out i (by omega)
              have HEN : Hid (entC (entsN L k) ++ [Value.string nm, Value.int .i64 (q : Int)] = entC (entsN L (k + 1))) := by
                show _ = _
                rw [entsN_succ, entC_app, HX.out]
                rfl
              have HP2 : Hid (p + 32 = 32 * (k + 1)) := by show _ = _; have := HP.out; omega
              go_wp2_with (at_builtin; refine wpList_append_own _ rfl (.tmp 85) (.tmp 87) 39 rfl w.heap.size 49 i0 (.agg #[.string ⟨#[]⟩, .int .i64 0]) 2 24 Tryz.underlying39 I0.out.1 I0.out.2.1 I0.out.2.2.1 I0.out.2.2.2 rfl (by decide) _ k (entC (entsN L k)) rfl O7.out ⟨w6.heap.size, 0, none⟩ 1 1 [.string nm, .int .i64 (q : Int)] rfl rfl HC7.out H17.out HM7.out HY7.out B7.out.size ?_; intro v9 w9 own hg hv; have O9 : Hid (w9.ownsRow w.heap.size 49 2 v9 (k + 1) (entC (entsN L (k + 1)))) := HEN.out ▸ own; have B9 := Lib.hid (B7.out.grown hg B7.out.size (fun j e => (O7.out.lt j e).1)); clear own hg hv)
              go_roundw
              case rel => exact ⟨k + 1, by omega, by rw [← HP2.out]; first | rfl | go_num, O9, B9, HA2⟩
              case measure => simp [intOf]; omega
        · have o4 : (24 : Int) < (c : Int) := by omega
          have HE := Lib.hid (HBAD.out (.inl (by omega)))
          clear hwp1 hwp3 hp hop hx
          go_wp2
          go_ret2
          rw [HE.out]
          exact rof_none B.out
      · obtain rfl : k = N := by omega
        have c1 : ¬ (p : Int) < (b.size : Int) := by have := HBN.out; omega
        have HE := Lib.hid (entsO_all HLN.out HA.out)
        go_wp2
        go_ret2
        rw [HE.out]
        exact ⟨⟨_, rfl, fun l hl => by obtain rfl := Option.some.inj hl; unfold OwnEnts; rw [entsN_len]; exact O.out⟩, B.out⟩
  · have e0 : (((b.size % 32 : Nat) : Int) != 0) = true := by
      simp; omega
    have HO := Lib.hid (entsO_odd (L := b.data.toList) (by rw [hl]; exact hm))
    rw [HO.out]
    go_enter Tryz.func43, Tryz.ntmps43
    go_wp2
    go_ret2
    exact rof_none BM.out
end Go.Proofs.YtoanladhikdcaaaGreat

namespace Go.Proofs.YtoanladhikdcaaaGreat
open Go.RowKit
set_option linter.unusedVariables false
set_option linter.unusedSimpArgs false
set_option maxRecDepth 100000
theorem ListPost.made {w w0 w' : World} {v : Value} {c : Int} (h : w'.ownsRow w.heap.size 49 2 v 0 (entC [])) (hb : Below w.heap.size w w') : ListPost ([], c) w (.returned (.tuple #[v, .int .i64 c])) w' := ⟨⟨_, rfl, h⟩, hb⟩
set_option maxHeartbeats 4000000 in
theorem rlist_any (A : Option Addr) (c : Nat) (xs : List ByteArray) (n : Int) (w : World) (hx : xs.length ≤ 1000000) (h : RowAt w w.heap.size A (xs.map .string)) :
    Calls Tryz.prog 19 #[.slice A xs.length c, .int .i64 n] w (ListPost (listO xs n) w) := by
  have CG := Lib.hid (fun w h => rget_ino A c xs n w hx h)
  have HR := Lib.hid h
  obtain ⟨a0, a1, a2, a3, a4, a5, a6, a7, a8, a9, a10, a11, hg⟩ := len12 (getR_len xs n)
  have HO : Hid (listO xs n = if inoE xs n ≠ 0 then ([], inoE xs n) else if a0 ≠ 2 then ([], 11) else match entsO (readO xs n 0 8960).1 with | none => ([], 3) | some l => (l, 0)) := by show _ = _; unfold listO; rw [hg]; rfl
  have CR := Lib.hid (fun w h => rread_any A c xs n 0 ((a3 : Nat) : Int) w hx h)
  have hD := fun h => readO_dir (xs := xs) (n := n) h
  rw [hg] at CG hD
  have HD := Lib.hid hD
  unfold inoC at CG
  simp only [List.map_cons, List.map_nil] at CG
  have OM := Lib.hid (made_ents w)
  have BM := Lib.hid ((Below.refl w.heap.size w).alloc (Nat.le_refl _) (.cells #[] 49))
  clear hg h hD
  generalize listO xs n = o at *
  by_cases h0 : inoE xs n = 0
  · obtain ⟨d, hd, hd2, hd3⟩ := HD.out h0
    have hd3 : readO xs n 0 ((a3 : Nat) : Int) = (d, 0) := hd3
    rw [hd] at HO
    rw [hd3] at CR
    rw [h0] at CG HO
    unfold ReadPost at CR
    dsimp only at CR HO
    clear HD h0 hd hd3
    by_cases hk : a0 = 2
    · subst hk
      have CE := Lib.hid (fun w => rents_any ⟨d.toArray⟩ w (by show d.toArray.size ≤ _; rw [List.size_toArray]; exact hd2))
      dsimp only at CE
      have HO2 : Hid (o = match entsO d with | none => ([], 3) | some l => (l, 0)) := HO.out
      generalize entsO d = eo at *
      unfold ROfPost at CE
      cases eo with
      | none =>
        have HO3 : Hid (o = ([], 3)) := HO2.out
        clear HO HO2
        simp only [Option.isSome_none] at CE
        go_enter Tryz.func19, Tryz.ntmps19
        go_wp2_with fail
        generalize World.alloc w _ = w0 at *
        refine (CG.out _ ((HR.out.below BM.out).mono BM.out.size)).mono ?_
        rintro e w1 ⟨rfl, hb1⟩
        have O1 := Lib.hid (own_below OM.out hb1)
        have B1 := Lib.hid (BM.out.trans (hb1.mono BM.out.size))
        clear hb1 CG OM BM
        go_wp2_with fail
        generalize hw2 : World.alloc w1 _ = w2
        have O2 := Lib.hid (hw2 ▸ World.ownsRow.alloc O1.out _ : w2.ownsRow w.heap.size 49 2 _ 0 (entC []))
        have B2 := Lib.hid (hw2 ▸ B1.out.alloc B1.out.size _ : Below w.heap.size w w2)
        clear hw2 B1 O1
        refine (CR.out _ ((HR.out.below B2.out).mono B2.out.size)).mono ?_
        rintro e w3 ⟨rfl, hb3⟩
        have O3 := Lib.hid (own_below O2.out hb3)
        have B3 := Lib.hid (B2.out.trans (hb3.mono B2.out.size))
        clear hb3 CR HR B2 O2
        go_wp2_with fail
        refine (CE.out _).mono ?_
        rintro e w4 ⟨⟨v, rfl, hv⟩, hb4⟩
        have O4 := Lib.hid (own_below O3.out hb4)
        have B4 := Lib.hid (B3.out.trans (hb4.mono B3.out.size))
        clear hb4 CE hv
        go_wp2
        go_ret2
        rw [HO3.out]
        exact ListPost.made (w0 := w) O4.out B4.out
      | some l =>
        have HO3 : Hid (o = (l, 0)) := HO2.out
        clear HO HO2
        simp only [Option.isSome_some] at CE
        go_enter Tryz.func19, Tryz.ntmps19
        go_wp2_with fail
        generalize World.alloc w _ = w0 at *
        refine (CG.out _ ((HR.out.below BM.out).mono BM.out.size)).mono ?_
        rintro e w1 ⟨rfl, hb1⟩
        have B1 := Lib.hid (BM.out.trans (hb1.mono BM.out.size))
        clear hb1 CG OM BM
        go_wp2_with fail
        generalize hw2 : World.alloc w1 _ = w2
        have B2 := Lib.hid (hw2 ▸ B1.out.alloc B1.out.size _ : Below w.heap.size w w2)
        clear hw2 B1
        refine (CR.out _ ((HR.out.below B2.out).mono B2.out.size)).mono ?_
        rintro e w3 ⟨rfl, hb3⟩
        have B3 := Lib.hid (B2.out.trans (hb3.mono B2.out.size))
        clear hb3 CR HR B2
        go_wp2_with fail
        refine (CE.out _).mono ?_
        rintro e w4 ⟨⟨v, rfl, hv⟩, hb4⟩
        have B4 := Lib.hid (B3.out.trans (hb4.mono B3.out.size))
        have HV : Hid (OwnEnts l w v w4) := own_low (hv l rfl) B3.out.size
        clear hb4 CE hv
        go_wp2
        go_ret2
        rw [HO3.out]
        exact ⟨⟨_, rfl, HV.out⟩, B4.out⟩
    · have HO3 : Hid (o = ([], 11)) := by
        show _ = _
        rw [HO.out, if_neg (by simp), if_pos hk]
      have hk1 : (((a0 : Nat) : Int) != 2) = true := by simp; omega
      clear HO CR
      go_enter Tryz.func19, Tryz.ntmps19
      go_wp2_with fail
      generalize World.alloc w _ = w0 at *
      refine (CG.out _ ((HR.out.below BM.out).mono BM.out.size)).mono ?_
      rintro e w1 ⟨rfl, hb1⟩
      have O1 := Lib.hid (own_below OM.out hb1)
      have B1 := Lib.hid (BM.out.trans (hb1.mono BM.out.size))
      clear hb1 CG
      go_wp2
      go_ret2
      rw [HO3.out]
      exact ListPost.made (w0 := w) (World.ownsRow.alloc O1.out _) (B1.out.alloc B1.out.size _)
  · have HO3 : Hid (o = ([], inoE xs n)) := by
      show _ = _
      rw [HO.out, if_pos h0]
    have hk1 : (inoE xs n != 0) = true := by simpa using h0
    generalize inoE xs n = ie at *
    clear HO CR HD h0
    go_enter Tryz.func19, Tryz.ntmps19
    go_wp2_with fail
    generalize World.alloc w _ = w0 at *
    refine (CG.out _ ((HR.out.below BM.out).mono BM.out.size)).mono ?_
    rintro e w1 ⟨rfl, hb1⟩
    have O1 := Lib.hid (own_below OM.out hb1)
    have B1 := Lib.hid (BM.out.trans (hb1.mono BM.out.size))
    clear hb1 CG
    go_wp2
    go_ret2
    rw [HO3.out]
    exact ListPost.made (w0 := w) (World.ownsRow.alloc O1.out _) (B1.out.alloc B1.out.size _)
theorem get_has {l : List EntV} {nm : ByteArray} (h : ValidE l) : (hasE l nm = true → 1 ≤ getE l nm ∧ ¬ getE l nm = 0) ∧ (hasE l nm = false → getE l nm = 0) := by
  constructor
  · intro hh
    obtain ⟨hk, e⟩ := (at_has h.rise).1 hh
    have := okE_ok (h.ok _ (List.getElem_mem hk))
    rw [at_get h.rise hk e]
    omega
  · intro hh
    refine getE_none fun j hj e => ?_
    unfold hasE at hh
    rw [List.any_eq_false] at hh
    have := hh _ (List.getElem_mem hj)
    simp [e] at this
end Go.Proofs.YtoanladhikdcaaaGreat

namespace Go.Proofs.YtoanladhikdcaaaGreat
open Go.RowKit
set_option linter.unusedVariables false
set_option linter.unusedSimpArgs false
set_option maxRecDepth 100000
set_option maxHeartbeats 1000000 in
theorem great20_any (A : Option Addr) (c : Nat) (xs : List ByteArray) (w : World) (hx : xs.length ≤ maxLen) (hs : ∀ s ∈ xs, s.size ≤ 9223372036854775807) (h : RowAt w w.heap.size A (xs.map .string)) :
    Calls Tryz.prog 4 #[.slice A xs.length c] w (GreatPost xs.length w) := by
  unfold maxLen at hx
  have HR := Lib.hid h
  have HS : Hid (∀ j (hj : j < xs.length), xs[j].size ≤ 9223372036854775807) := fun j hj => hs _ (List.getElem_mem hj)
  clear h hs
  go_enter Tryz.func4, Tryz.ntmps4
  go_wp2
  go_loop [6] (fun i => ∃ k : Nat, k ≤ xs.length ∧ i = .int .i64 k) (fun i => xs.length - (intOf i).toNat)
  case atStart => exact ⟨0, Nat.zero_le _, rfl⟩
  case round =>
    obtain ⟨k, hk, rfl⟩ := hrel
    by_cases hlt : k < xs.length
    · obtain ⟨b, o, rfl, hb, hc⟩ := row_get HR.out k hlt
      rw [getD_eq xs k hlt] at hc
      have hsz := HS.out k hlt
      generalize xs[k] = s at *
      by_cases h300 : 200 < s.size
      · have h2 : (200 : Int) < (s.size : Int) := by omega
        go_wp2
        go_ret
        exact ⟨⟨1, rfl, .inl rfl⟩, rfl⟩
      · have h2 : ¬ (200 : Int) < (s.size : Int) := by omega
        go_wp2
        go_round
        case rel => exact ⟨k + 1, by omega, by go_num⟩
        case measure => simp [intOf]; omega
    · by_cases h64 : 80 < xs.length
      · have g1 : (80 : Int) < (xs.length : Int) := by omega
        go_wp2
        go_ret
        exact ⟨⟨1, rfl, .inl rfl⟩, rfl⟩
      · have g1 : ¬ (80 : Int) < (xs.length : Int) := by omega
        go_wp2
        go_ret
        exact ⟨⟨0, rfl, .inr ⟨rfl, by omega⟩⟩, rfl⟩
end Go.Proofs.YtoanladhikdcaaaGreat

namespace Go.Proofs.YtoanladhikdcaaaGreat
open Go.RowKit
set_option linter.unusedVariables false
set_option linter.unusedSimpArgs false
set_option maxRecDepth 100000
set_option maxHeartbeats 1000000 in
theorem samevol_any (A B : Option Addr) (c d : Nat) (xs ys : List ByteArray) (w : World) (hx : xs.length ≤ maxLen) (hy : ys.length ≤ maxLen)
   (ha : RowAt w w.heap.size A (xs.map .string)) (hb : RowAt w w.heap.size B (ys.map .string)) :
    Calls Tryz.prog 8 #[.slice A xs.length c, .slice B ys.length d] w fun e w' => e = .returned (.bool (eqL xs ys)) ∧ ∃ k, w' = w.drewN k := by
  unfold maxLen at hx hy
  have HA := Lib.hid ha
  have HB := Lib.hid hb
  clear ha hb
  by_cases hl : xs.length = ys.length
  · have hl1 : (((xs.length : Nat) : Int) != ((ys.length : Nat) : Int)) = false := by simp [hl]
    have HL := Lib.hid hl
    clear hl
    go_enter Tryz.func8, Tryz.ntmps8
    go_wp2
    go_loopw [4, 13] (fun r i wr => ∃ k : Nat, k ≤ xs.length ∧ i = .int .i64 k ∧ r = .bool false ∧ (∀ j < k, xs[j]? = ys[j]?) ∧ ∃ q, wr = w.drewN q) (fun _ i _ => xs.length - (intOf i).toNat)
    case atStart => exact ⟨0, Nat.zero_le _, rfl, rfl, fun j hj => by omega, 0, rfl⟩
    case round =>
      obtain ⟨k, hk, rfl, rfl, hE, q, rfl⟩ := hrel
      have HE := Lib.hid hE
      clear hE
      by_cases hlt : k < xs.length
      · have hlt2 : k < ys.length := by have := HL.out; omega
        obtain ⟨b1, o1, rfl, hb1, hc1⟩ := HA.out.at_ (by simpa using (by omega))
        obtain ⟨b2, o2, rfl, hb2, hc2⟩ := HB.out.at_ (by simpa using (by omega))
        have g1 : w.cell? ⟨b1, o1 + k, none⟩ = some (.string xs[k]) := hc1 k _ (by simp [hlt])
        have g2 : w.cell? ⟨b2, o2 + k, none⟩ = some (.string ys[k]) := hc2 k _ (by simp [hlt2])
        clear hc1 hc2
        by_cases he : xs[k] = ys[k]
        · have HX := Lib.hid he
          have h1 : (!xs[k].toList == ys[k].toList) = false := by rw [he]; exact str_eq _
          clear he
          go_wp2
          go_quiet (fail)
          go_wp2
          go_roundw
          case rel => exact ⟨k + 1, by omega, by go_num, rfl, fun j hj => by
            rcases Nat.lt_succ_iff_lt_or_eq.1 hj with h | rfl
            · exact HE.out j h
            · rw [List.getElem?_eq_getElem hlt, List.getElem?_eq_getElem hlt2, HX.out], _, rfl⟩
          case measure => simp [intOf]; omega
        · have HX := Lib.hid he
          have h1 : (!xs[k].toList == ys[k].toList) = true := str_ne he
          clear he
          go_wp2
          go_quiet (fail)
          go_wp2
          go_ret
          exact ⟨ret_bool (by unfold eqL; symm; rw [decide_eq_false_iff_not]; intro h; subst h; exact HX.out rfl), q + nq, by rw [World.drewN_drewN]⟩
      · go_wp2
        go_ret
        exact ⟨ret_bool (by
          unfold eqL; symm; rw [decide_eq_true_iff]
          refine List.ext_getElem? fun j => ?_
          by_cases hj : j < k
          · exact HE.out j hj
          · rw [List.getElem?_eq_none (by omega), List.getElem?_eq_none (by have := HL.out; omega)]), _, rfl⟩
  · have hl1 : (((xs.length : Nat) : Int) != ((ys.length : Nat) : Int)) = true := by simp; omega
    have HL := Lib.hid hl
    clear hl
    go_enter Tryz.func8, Tryz.ntmps8
    go_wp2
    go_ret
    exact ⟨ret_bool (by unfold eqL; symm; rw [decide_eq_false_iff_not]; intro h; exact HL.out (by rw [h])), 0, rfl⟩
theorem samevol_below (A B : Option Addr) (c d : Nat) (xs ys : List ByteArray) (w : World) (hx : xs.length ≤ maxLen) (hy : ys.length ≤ maxLen)
   (ha : RowAt w w.heap.size A (xs.map .string)) (hb : RowAt w w.heap.size B (ys.map .string)) :
    Calls Tryz.prog 8 #[.slice A xs.length c, .slice B ys.length d] w fun e w' => e = .returned (.bool (eqL xs ys)) ∧ Below w.heap.size w w' :=
  (samevol_any A B c d xs ys w hx hy ha hb).mono fun e w' ⟨h, k, hk⟩ => ⟨h, hk ▸ below_drewN (Below.refl _ _) k⟩
end Go.Proofs.YtoanladhikdcaaaGreat
