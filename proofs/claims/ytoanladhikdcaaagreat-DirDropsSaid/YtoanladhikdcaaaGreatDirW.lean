/-
  Joined in one text: DirA, Ents, DirB, DirC, DirD, DirE, DirF.
-/
import Derived.Test.YtoanladhikdcaaaGreatDirPl
import Derived.Test.YtoanladhikdcaaaGreatBytesRow
import Derived.Deep.MidRow
import Derived.Test.YtoanladhikdcaaaGreatExtM
import Derived.BigQuiet
import Derived.BigRegion
import Derived.Test.YtoanladhikdcaaaGreatSearch
import Derived.Test.YtoanladhikdcaaaGreatExtW
import Derived.Laws.AppendOwnNone
namespace Go.Proofs.YtoanladhikdcaaaGreat
open Go.RowKit
set_option linter.unusedVariables false
set_option linter.unusedSimpArgs false
set_option maxRecDepth 100000
theorem str_data (s : ByteArray) : s.toList = s.data.toList := Lib.toList_data s
theorem may_out {l : List UInt8} (h : l = [] ∨ 24 < l.length ∨ l = [46] ∨ l = [46, 46]) : mayB l = false := by
  unfold mayB
  rw [decide_eq_false, Bool.false_and]
  rintro ⟨h1, h2, h3, h4⟩
  rcases h with h | h | h | h
  · exact h1 h
  · omega
  · exact h3 h
  · exact h4 h
theorem may_in {l : List UInt8} (h1 : ¬ l = []) (h2 : l.length ≤ 24) (h3 : ¬ l = [46]) (h4 : ¬ l = [46, 46]) : mayB l = l.all mayC := by
  unfold mayB
  rw [decide_eq_true ⟨h1, h2, h3, h4⟩, Bool.true_and]
theorem all_out {l : List UInt8} {k : Nat} (hk : k < l.length) (h : mayC (l.getD k 0) = false) : l.all mayC = false := by
  rw [List.all_eq_false]
  refine ⟨l[k], List.getElem_mem hk, ?_⟩
  rw [List.getD_eq_getElem?_getD, List.getElem?_eq_getElem hk] at h
  simpa using h
theorem all_step {l : List UInt8} {k : Nat} (hk : k < l.length) (h : (l.take k).all mayC = true) (hc : mayC (l.getD k 0) = true) : (l.take (k + 1)).all mayC = true := by
  rw [List.getD_eq_getElem?_getD, List.getElem?_eq_getElem hk] at hc
  rw [List.take_succ_eq_append_getElem hk, List.all_append, h]
  simpa using hc
set_option maxHeartbeats 8000000 in
theorem may_any (s : ByteArray) (w : World) (hs : s.size ≤ 140737488355328) : Calls Tryz.prog 12 #[.string s] w fun e w' => e = .returned (.bool (mayB s.data.toList)) ∧ Below w.heap.size w w' := by
  have hl : s.data.toList.length = s.size := by rw [Array.length_toList]; rfl
  obtain ⟨r, hr⟩ : ∃ r, mayB s.data.toList = r := ⟨_, rfl⟩
  rw [hr]
  by_cases h24 : s.size ≤ 24
  · have e24 : ¬ (24 : Int) < (s.size : Int) := by omega
    by_cases h0 : s.data.toList = []
    · have HW := Lib.hid (hr.symm.trans <| may_out (.inl h0))
      have q1 : s.toList = [] := (str_data s).trans h0
      have q2 : s.toList.isEmpty = true := by rw [q1]; rfl
      clear hr
      go_enter Tryz.func12, Tryz.ntmps12
      go_wp2
      go_ret
      exact ⟨ret_bool HW.out.symm, Below.refl _ _⟩
    have q1 : ¬ s.toList = [] := by rw [str_data]; exact h0
    have q2 : s.toList.isEmpty = false := by cases h : s.toList <;> simp_all
    by_cases h1 : s.data.toList = [46]
    · have HW := Lib.hid (hr.symm.trans <| may_out (.inr (.inr (.inl h1))))
      have q3 : s.toList = [46] := (str_data s).trans h1
      have q4 : (s.toList == [46]) = true := by rw [q3]; rfl
      clear hr
      go_enter Tryz.func12, Tryz.ntmps12
      go_wp2
      go_ret
      exact ⟨ret_bool HW.out.symm, Below.refl _ _⟩
    have q3 : ¬ s.toList = [46] := by rw [str_data]; exact h1
    have q4 : (s.toList == [46]) = false := by simp [q3]
    by_cases h2 : s.data.toList = [46, 46]
    · have HW := Lib.hid (hr.symm.trans <| may_out (.inr (.inr (.inr h2))))
      have q5 : s.toList = [46, 46] := (str_data s).trans h2
      have q6 : (s.toList == [46, 46]) = true := by rw [q5]; rfl
      clear hr
      go_enter Tryz.func12, Tryz.ntmps12
      go_wp2
      go_ret
      exact ⟨ret_bool HW.out.symm, Below.refl _ _⟩
    have q5 : ¬ s.toList = [46, 46] := by rw [str_data]; exact h2
    have q6 : (s.toList == [46, 46]) = false := by simp [q5]
    have HW := Lib.hid (hr.symm.trans (may_in h0 (by omega) h1 h2))
    have HL := Lib.hid hl
    clear h0 h1 h2 hl hr
    go_enter Tryz.func12, Tryz.ntmps12
    go_wp2_with (refine bytes_of_str 9 58 (.tmp 20) 5 s rfl rfl rfl Tryz.underlying9 Tryz.underlying58 Tryz.underlying5 ?_; intro w2 cp hcl hb2; have HCL := Lib.hid hcl; have B2 := Lib.hid hb2; clear hcl hb2)
    clear q1 q2 q3 q4 q5 q6
    go_loopw [23] (fun j wr => ∃ k : Nat, k ≤ s.size ∧ j = .int .i64 (k : Int) ∧ wr = w2 ∧ Hid ((s.data.toList.take k).all mayC = true)) (fun j _ => s.size - (intOf j).toNat)
    case atStart => exact ⟨0, Nat.zero_le _, rfl, rfl, rfl⟩
    case round =>
      obtain ⟨k, hk, rfl, rfl, HA⟩ := hrel
      by_cases hlt : k < s.size
      · have i1 : (k : Int) < (s.size : Int) := by omega
        have i2 : (0 : Int) ≤ (k : Int) := by omega
        have cb := HCL.out k hlt
        have HO := Lib.hid (fun h => all_out (l := s.data.toList) (k := k) (by rw [HL.out]; exact hlt) h)
        have HI := Lib.hid (fun h => all_step (l := s.data.toList) (k := k) (by rw [HL.out]; exact hlt) HA.out h)
        have hc : (s.data.toList.getD k 0).toNat < 256 := UInt8.toNat_lt _
        have HM : Hid (mayC (s.data.toList.getD k 0) = decide _) := rfl
        generalize mayC (s.data.toList.getD k 0) = mc at *
        generalize (s.data.toList.getD k 0).toNat = c at *
        clear HA
        go_wp2
        all_goals (try simp only [beq_eq_false_iff_ne, beq_iff_eq, ne_eq] at *)
        all_goals first
          | (go_ret
             refine ⟨ret_bool (HW.out.trans (HO.out (HM.out.trans (decide_eq_false (by omega))))).symm, B2.out⟩)
          | (refine ⟨⟨k + 1, by omega, rfl, trivial, HI.out (HM.out.trans (decide_eq_true (by omega)))⟩, ?_⟩
             simp [intOf]; omega)
      · obtain rfl : k = s.size := by omega
        go_wp2
        go_ret
        refine ⟨ret_bool ?_, B2.out⟩
        have := HA.out
        rw [← HL.out, List.take_length] at this
        exact this.symm.trans HW.out.symm
  · have e24 : (24 : Int) < (s.size : Int) := by omega
    have HW := Lib.hid (hr.symm.trans <| may_out (.inr (.inl (by omega : 24 < s.data.toList.length))))
    by_cases h0 : s.data.toList = []
    · rw [h0] at hl; simp at hl; omega
    have q1 : ¬ s.toList = [] := by rw [str_data]; exact h0
    have q2 : s.toList.isEmpty = false := by cases h : s.toList <;> simp_all
    go_enter Tryz.func12, Tryz.ntmps12
    go_wp2
    go_ret
    exact ⟨ret_bool HW.out.symm, Below.refl _ _⟩
end Go.Proofs.YtoanladhikdcaaaGreat

namespace Go.Proofs.YtoanladhikdcaaaGreat
open Go.RowKit
set_option linter.unusedVariables false
set_option linter.unusedSimpArgs false
set_option maxRecDepth 100000
theorem RowAt.of_own_k {w : World} {base k : Nat} {e : TypeId} {A : Option Addr} {n c : Nat} {xs : List Value} (h : w.ownsRow base e k (.slice A n c) n xs) : RowAt w w.heap.size A xs := by
  obtain ⟨h1, h2⟩ := h
  rcases h2 with ⟨_, rfl⟩ | ⟨g, cap, cur, hv, hg, hh, hnc, hm, hsz, ht⟩
  · exact .inl (List.eq_nil_of_length_eq_zero (by simpa using h1))
  · injection hv with hA
    refine .inr ⟨g, 0, hA, ?_, fun j u hu => ?_⟩
    · rcases Nat.lt_or_ge g w.heap.size with hlt | hge
      · exact hlt
      · rw [Array.getElem?_eq_none hge] at hh; cases hh
    · have : cur[j]? = some u := by
        rw [← ht, List.getElem?_take] at hu
        split at hu
        · simpa using hu
        · cases hu
      simp [World.cell?, hh, this]
theorem entC_app (k l : List EntV) : entC (k ++ l) = entC k ++ entC l := by unfold entC; simp
theorem entC_get : ∀ {l : List EntV} {k : Nat} (hk : k < l.length), (entC l)[k * 2]? = some (.string l[k].name) ∧ (entC l)[k * 2 + 1]? = some (.int .i64 l[k].ino)
  | [], k, hk => absurd hk (Nat.not_lt_zero _)
  | x :: l, 0, _ => ⟨rfl, rfl⟩
  | x :: l, k + 1, hk => by
    have e : entC (x :: l) = .string x.name :: .int .i64 x.ino :: entC l := rfl
    have := entC_get (l := l) (k := k) (by simpa using hk)
    rw [e, show (k + 1) * 2 = k * 2 + 1 + 1 by omega]
    exact this
theorem entC_take : ∀ (l : List EntV) (k : Nat), (entC l).take (k * 2) = entC (l.take k)
  | _, 0 => by simp [entC]
  | [], k + 1 => by simp [entC]
  | x :: l, k + 1 => by
    show (Value.string x.name :: Value.int .i64 x.ino :: entC l).take ((k + 1) * 2) = Value.string x.name :: Value.int .i64 x.ino :: entC (l.take k)
    rw [show (k + 1) * 2 = k * 2 + 1 + 1 by omega, List.take_succ_cons, List.take_succ_cons, entC_take l k]
theorem entC_drop : ∀ (l : List EntV) (k : Nat), (entC l).drop (k * 2) = entC (l.drop k)
  | _, 0 => by simp
  | [], k + 1 => by simp [entC]
  | x :: l, k + 1 => by
    show (Value.string x.name :: Value.int .i64 x.ino :: entC l).drop ((k + 1) * 2) = entC (l.drop k)
    rw [show (k + 1) * 2 = k * 2 + 1 + 1 by omega, List.drop_succ_cons, List.drop_succ_cons, entC_drop l k]
theorem entC_one (l : List EntV) : ∀ u ∈ entC l, u.oneCell' = true := fun u hu => by
  unfold entC at hu
  obtain ⟨x, _, hx⟩ := List.mem_flatMap.1 hu
  rcases List.mem_cons.1 hx with rfl | hx
  · rfl
  · rcases List.mem_cons.1 hx with rfl | hx
    · rfl
    · cases hx
/-- entries stand from the address on -/
def EntsAt (w : World) (B : Nat) (A : Option Addr) (l : List EntV) : Prop := RowAt w B A (entC l)
theorem EntsAt.below {w w' : World} {B : Nat} {A : Option Addr} {l : List EntV} (h : EntsAt w B A l) (hb : Below B w w') : EntsAt w' B A l := RowAt.below h hb
theorem EntsAt.mono {w : World} {B B' : Nat} {A : Option Addr} {l : List EntV} (h : EntsAt w B A l) (hB : B ≤ B') : EntsAt w B' A l := RowAt.mono h hB
theorem EntsAt.get {w : World} {B : Nat} {A : Option Addr} {l : List EntV} (h : EntsAt w B A l) {k : Nat} (hk : k < l.length) :
    ∃ b o, A = some ⟨b, o, none⟩ ∧ b < B ∧ w.rangeAt b (o + k * 2) [.string l[k].name, .int .i64 l[k].ino] := by
  obtain ⟨b, o, hA, hb, hc⟩ := RowAt.at_ h (by rw [entC_len]; omega)
  have g := entC_get hk
  refine ⟨b, o, hA, hb, fun j u hu => ?_⟩
  match j, hu with
  | 0, hu => cases hu; rw [Nat.add_zero]; exact hc _ _ g.1
  | 1, hu => cases hu; rw [Nat.add_assoc]; exact hc _ _ g.2
  | j + 2, hu => simp at hu
/-- the whole row, if there is one -/
theorem EntsAt.some {w : World} {B : Nat} {A : Option Addr} {l : List EntV} (h : EntsAt w B A l) (h0 : 0 < l.length) :
    ∃ b o, A = some ⟨b, o, none⟩ ∧ b < B ∧ ∀ j u, (entC l)[j]? = some u → w.cell? ⟨b, o + j, none⟩ = some u := RowAt.at_ h (by rw [entC_len]; omega)
/-- a row of one's own -/
def OwnEnts (l : List EntV) (w : World) (v : Value) (w' : World) : Prop := w'.ownsRow w.heap.size 49 2 v l.length (entC l)
theorem OwnEnts.read {l : List EntV} {w w' : World} {v : Value} (h : OwnEnts l w v w') : ∃ A c, v = .slice A l.length c ∧ EntsAt w' w'.heap.size A l := by
  have h2 := h
  obtain ⟨h1, h3⟩ := h2
  rcases h3 with ⟨hv, hn⟩ | ⟨g, cap, cur, hv, hg, hh, hnc, hm, hsz, ht⟩
  · refine ⟨none, 0, by rw [hv, hn], ?_⟩
    have : l = [] := List.eq_nil_of_length_eq_zero hn
    subst this
    exact RowAt.nil
  · subst hv
    exact ⟨_, _, rfl, RowAt.of_own_k h⟩
theorem ent_info : (Tryz.prog.info? 49).map (fun i => (i.zero, i.size, i.bytes)) = some (some (.agg #[.string ⟨#[]⟩, .int .i64 0]), 2, 24) := by kernel_rfl
end Go.Proofs.YtoanladhikdcaaaGreat

namespace Go.Proofs.YtoanladhikdcaaaGreat
open Go.RowKit
set_option linter.unusedVariables false
set_option linter.unusedSimpArgs false
set_option maxRecDepth 100000
theorem repeat_l0 (z : Nat) : Lib.repeatL [0] z = List.replicate z (0 : UInt8) := by
  have := congrArg (·.data.toList) (repeat_zero z)
  simpa [zerosB] using this
set_option maxHeartbeats 4000000 in
theorem entry_any (x : EntV) (w : World) (hn : x.name.size ≤ 28) (hi : 0 ≤ x.ino ∧ x.ino < 65536) : Calls Tryz.prog 33 #[.agg #[.string x.name, .int .i64 x.ino]] w fun e w' => e = .returned (.string ⟨(entB x).toArray⟩) ∧ Below w.heap.size w w' := by
  obtain ⟨s, ino⟩ := x
  dsimp only at *
  obtain ⟨i, rfl⟩ : ∃ i : Nat, ino = (i : Int) := ⟨ino.toNat, by omega⟩
  obtain ⟨p1, hp1, sp1⟩ : ∃ p, (⟨(putL i 2).toArray⟩ : ByteArray) = p ∧ p.size = 2 := ⟨_, rfl, by show (putL i 2).toArray.size = 2; rw [List.size_toArray, putL_length]⟩
  obtain ⟨p2, hp2, sp2⟩ : ∃ p, (⟨(putL s.size 1).toArray⟩ : ByteArray) = p ∧ p.size = 1 := ⟨_, rfl, by show (putL s.size 1).toArray.size = 1; rw [List.size_toArray, putL_length]⟩
  obtain ⟨z, hz⟩ : ∃ z, z = 28 - s.size := ⟨_, rfl⟩
  obtain ⟨R, hR⟩ : ∃ R : ByteArray, (⟨(Lib.repeatL (⟨#[0]⟩ : ByteArray).data.toList z).toArray⟩ : ByteArray) = R := ⟨_, rfl⟩
  have HRs : Hid (R.size = z) := by
    show _ = _
    rw [← hR]
    show (Lib.repeatL (⟨#[0]⟩ : ByteArray).data.toList z).toArray.size = z
    show (Lib.repeatL [0] z).toArray.size = z
    rw [repeat_l0, List.size_toArray, List.length_replicate]
  have HJ : Hid ((p1 ++ p2 ++ ⟨#[0]⟩ ++ s ++ R : ByteArray) = ⟨(entB ⟨s, (i : Int)⟩).toArray⟩) := by
    show _ = _
    rw [← hp1, ← hp2, ← hR]
    unfold entB
    apply WideShapes.bytes_inj
    simp only [ByteArray.data_append, Array.toList_append, List.append_assoc, List.toList_toArray, Int.toNat_natCast, repeat_l0, ← hz]
  obtain ⟨q, hq⟩ : ∃ q, (p1 ++ p2 ++ ⟨#[0]⟩ ++ s : ByteArray) = q := ⟨_, rfl⟩
  have k0 : (⟨#[0]⟩ : ByteArray).size = 1 := rfl
  have HQ : Hid (q.size + z = 32) := by show _ = _; rw [← hq, ByteArray.size_append, ByteArray.size_append, ByteArray.size_append]; omega
  have ad1 := fun (w : World) => run_string_add_sum (P := Tryz.prog) (w := w) p1 p2 (by omega)
  have ad2 := fun (w : World) => run_string_add_sum (P := Tryz.prog) (w := w) (p1 ++ p2) ⟨#[0]⟩ (by rw [ByteArray.size_append]; omega)
  have ad3 := fun (w : World) => run_string_add_sum (P := Tryz.prog) (w := w) (p1 ++ p2 ++ ⟨#[0]⟩) s (by rw [ByteArray.size_append, ByteArray.size_append]; omega)
  have ad4 := fun (w : World) => run_string_add_sum (P := Tryz.prog) (w := w) q R (by have := HQ.out; have := HRs.out; omega)
  have e1 : IntKind.u64.wrap (i : Int) = (i : Int) := IntWalk.u64_in _ (by omega)
  have e2 : IntKind.u64.wrap (s.size : Int) = (s.size : Int) := IntWalk.u64_in _ (by omega)
  have e3 : IntKind.i64.wrap (32 - (q.size : Int)) = (z : Int) := by
    have := HQ.out
    rw [show 32 - (q.size : Int) = (z : Int) by omega]
    exact IntWalk.i64_in _ (by omega)
  have C1 : Hid (∀ w, Calls Tryz.prog 66 #[.int .u64 i, .int .i64 2] w fun e w' => e = .returned (.string p1) ∧ Below w.heap.size w w') := fun w => by rw [← hp1]; exact put_any i 2 w (by omega) (by omega)
  have C2 : Hid (∀ w, Calls Tryz.prog 66 #[.int .u64 (s.size : Int), .int .i64 1] w fun e w' => e = .returned (.string p2) ∧ Below w.heap.size w w') := fun w => by rw [← hp2]; exact put_any s.size 1 w (by omega) (by omega)
  have C3 : Hid (∀ w, Calls Tryz.prog 64 #[.string ⟨#[0]⟩, .int .i64 z] w fun e w' => e = .returned (.string R) ∧ Below w.heap.size w w') := fun w => by rw [← hR]; exact Tryz.strings_Repeat ⟨#[0]⟩ z w (by omega) (by show 1 * z ≤ _; omega)
  have HQ2 := Lib.hid hq
  rw [← HJ.out]
  clear HJ HRs HQ hR hp1 hp2 hn hi hz sp1 sp2 k0 hq
  go_enter Tryz.func33, Tryz.ntmps33
  go_wp2
  generalize hw1 : w.alloc _ = w1
  have G : Hid (Blk w1 w.heap.size 49 #[.string s, .int .i64 i]) := hw1 ▸ Blk.new _ _ _
  have B : Hid (Below w.heap.size w w1) := hw1 ▸ (Below.refl _ _).alloc (Nat.le_refl _) _
  clear hw1
  have u0 : ∀ u : Ext w1, u.val.cell? ⟨w.heap.size, 0, none⟩ = some (.string s) := fun u => u.cell (G.out.cell 0 rfl)
  have u1 : ∀ u : Ext w1, u.val.cell? ⟨w.heap.size, 1, none⟩ = some (.int .i64 i) := fun u => u.cell (G.out.cell 1 rfl)
  refine wp_region_ext (by kernel_rfl) (by kernel_rfl) ?_
  repeat (go_big_quiet_step (first
    | (go_at_call 66; with_reducible exact Ext.call (C1.out _))
    | (go_at_call 66; with_reducible exact Ext.call (C2.out _))))
  refine wpQuiet_nil ?_
  rintro _ ⟨u, rfl⟩
  have B := Lib.hid (B.out.trans (u.below.mono B.out.size))
  generalize u.val = w2 at B
  rw [HQ2.out]
  clear u0 u1 G C1 C2
  go_wp2_with fail
  refine (C3.out _).mono ?_
  rintro e w3 ⟨rfl, hb3⟩
  have B := Lib.hid (B.out.trans (hb3.mono B.out.size))
  clear hb3
  go_wp2
  go_ret
  exact ⟨by rw [HQ2.out]; rfl, B.out⟩
theorem string_l (B b : Nat) (l : List UInt8) (w : World) (h : Lib.IsBuilderF 67 5 B b (Lib.byteCells l) w) (hBw : B ≤ w.heap.size) :
    Calls Tryz.prog 34 #[.pointer (some ⟨b, 0, none⟩)] w fun e w' => e = .returned (.string ⟨l.toArray⟩) ∧ Below B w w' :=
  (Tryz.Builder_String_any_f B b l w h hBw).mono fun _ _ h => ⟨h.1, h.2.2⟩
theorem cells_snoc (l : List EntV) (k : Nat) (hk : k < l.length) : Lib.byteCells (bytesE (l.take k)) ++ Lib.strCells ⟨(entB l[k]).toArray⟩ = Lib.byteCells (bytesE (l.take (k + 1))) := by
  rw [List.take_succ_eq_append_getElem hk, bytesE_app, Lib.byteCells_append]
  congr 1
  show Lib.byteCells (entB l[k]) = Lib.byteCells (entB l[k] ++ [])
  rw [List.append_nil]
theorem bytes_le : ∀ (l : List EntV), (∀ x ∈ l, x.name.size ≤ 28) → (bytesE l).length = 32 * l.length
  | [], _ => rfl
  | x :: l, h => by
    rw [bytesE_cons, List.length_append, entB_len (h x (by simp)), bytes_le l (fun y hy => h y (by simp [hy]))]
    simp; omega
set_option maxHeartbeats 4000000 in
theorem bytes_any (A : Option Addr) (c : Nat) (l : List EntV) (w : World) (hl : l.length ≤ 1000) (hn : ∀ x ∈ l, x.name.size ≤ 28 ∧ 0 ≤ x.ino ∧ x.ino < 65536) (h : EntsAt w w.heap.size A l) :
    Calls Tryz.prog 15 #[.slice A l.length c] w fun e w' => e = .returned (.string ⟨(bytesE l).toArray⟩) ∧ Below w.heap.size w w' := by
  have B0 := Lib.hid ((Below.refl w.heap.size w).alloc (Nat.le_refl _) (.cells #[.pointer none, .slice none 0 0] 67))
  have F0 := Lib.hid (builder_new w.heap.size w (Nat.le_refl _))
  have R0 := Lib.hid ((h.below B0.out))
  have HN := Lib.hid hn
  have HB : Hid (∀ k, (Lib.byteCells (bytesE (l.take k))).length ≤ 32 * 1000) := fun k => by
    rw [Lib.byteCells_length, bytes_le _ (fun x hx => (hn x (List.mem_of_mem_take hx)).1), List.length_take]
    omega
  clear h hn
  go_enter Tryz.func15, Tryz.ntmps15
  go_wp2
  generalize w.alloc _ = w0 at *
  go_loopw [5, 8] (fun _ i wr => ∃ k : Nat, k ≤ l.length ∧ i = .int .i64 (k : Int) ∧ Hid (Lib.IsBuilderF 67 5 w.heap.size w.heap.size (Lib.byteCells (bytesE (l.take k))) wr) ∧ Hid (EntsAt wr w.heap.size A l) ∧ Hid (Below w.heap.size w wr)) (fun _ i _ => l.length - (intOf i).toNat)
  case atStart => exact ⟨0, Nat.zero_le _, rfl, F0, R0, B0⟩
  case round =>
    clear F0 R0 B0
    obtain ⟨k, hk, rfl, F, R, B⟩ := hrel
    by_cases hlt : k < l.length
    · obtain ⟨bA, oA, rfl, hbA, hrA⟩ := R.out.get hlt
      obtain ⟨n1, n2, n3⟩ := HN.out _ (List.getElem_mem hlt)
      have HS := Lib.hid (cells_snoc l k hlt)
      have HL := Lib.hid (HB.out k)
      have HE := Lib.hid (entB_len n1)
      generalize l[k] = x at *
      have CE := Lib.hid (fun w => entry_any x w n1 ⟨n2, n3⟩)
      obtain ⟨nm, ino⟩ := x
      dsimp only at *
      have HR : Hid (wr.rangeAt bA (oA + k * 2) [.string nm, .int .i64 ino]) := hrA
      have GA := Lib.hid (Blk.new wr 49 #[.string nm, .int .i64 ino])
      have b4 : Below wr.heap.size wr (wr.alloc (.cells #[.string nm, .int .i64 ino] 49)) := (Below.refl _ _).alloc (Nat.le_refl _) _
      have F4 := Lib.hid (builder_below F.out b4)
      have R4 := Lib.hid (R.out.below (b4.mono B.out.size))
      have B4 := Lib.hid (B.out.trans (b4.mono B.out.size))
      have i2 : (k : Int) < (l.length : Int) := by omega
      have i3 : (0 : Int) ≤ (k : Int) := by omega
      clear hrA b4 R B F
      go_wp2_with (first
        | (refine wpList_load_mid rfl 49 (.tmp 10) rfl bA (oA + k * 2) rfl _ _ HR.out Tryz.underlying49 rfl (by kernel_rfl) ?_; go_frame)
        | (go_at_call 33; refine (CE.out _).mono ?_; rintro e w5 ⟨rfl, hb5⟩; have F5 := Lib.hid (builder_below F4.out hb5); have R5 := Lib.hid (R4.out.below (hb5.mono B4.out.size)); have B5 := Lib.hid (B4.out.trans (hb5.mono B4.out.size)); clear hb5 F4 R4 B4)
        | (go_at_call 32; refine (Tryz.Builder_WriteString_k w.heap.size w.heap.size _ _ _ F5.out (by have := HL.out; have := HE.out; show _ + (entB ⟨nm, ino⟩).toArray.size ≤ _; rw [List.size_toArray]; omega) B5.out.size).mono ?_; rintro e w6 ⟨rfl, hba, hb6, hok⟩; have F6 : Hid (Lib.IsBuilderF 67 5 w.heap.size w.heap.size (Lib.byteCells (bytesE (l.take (k + 1)))) w6) := .inr (HS.out ▸ hba); have R6 := Lib.hid (R5.out.below hb6); have B6 := Lib.hid (B5.out.trans hb6); clear hba hb6 hok F5 R5 B5))
      go_roundw
      case rel => exact ⟨k + 1, by omega, by go_num, F6, R6, B6⟩
      case measure => simp [intOf]; omega
    · obtain rfl : k = l.length := by omega
      have HT : Hid (l.take l.length = l) := List.take_length
      rw [HT.out] at F
      go_wp2_with fail
      refine (string_l w.heap.size w.heap.size _ _ F.out B.out.size).mono ?_
      rintro e w7 ⟨rfl, hb7⟩
      have B7 := Lib.hid (B.out.trans hb7)
      clear hb7
      go_wp2
      go_ret
      exact ⟨rfl, B7.out⟩
end Go.Proofs.YtoanladhikdcaaaGreat

namespace Go.Proofs.YtoanladhikdcaaaGreat
open Go.RowKit
set_option linter.unusedVariables false
set_option linter.unusedSimpArgs false
set_option maxRecDepth 100000
def entsN (L : List UInt8) (k : Nat) : List EntV := (List.range k).map fun i => entK (piece L i)
theorem entsN_len (L : List UInt8) (k : Nat) : (entsN L k).length = k := by simp [entsN]
theorem entsN_succ (L : List UInt8) (k : Nat) : entsN L (k + 1) = entsN L k ++ [entK (piece L k)] := by unfold entsN; rw [List.range_succ, List.map_append]; rfl
theorem entsO_all {L : List UInt8} {N : Nat} (hl : L.length = 32 * N) (h : ∀ i, i < N → stepK L i = true) : entsO L = some (entsN L N) := by
  have : L.length / 32 = N := by omega
  unfold entsO entsN
  rw [this, if_pos ⟨by omega, List.all_eq_true.2 fun i hi => h i (List.mem_range.1 hi)⟩]
theorem entsO_bad {L : List UInt8} {N k : Nat} (hl : L.length = 32 * N) (hk : k < N) (h : stepK L k = false) : entsO L = none := by
  have : L.length / 32 = N := by omega
  unfold entsO
  rw [this, if_neg]
  rintro ⟨_, ha⟩
  rw [List.all_eq_true] at ha
  rw [ha k (List.mem_range.2 hk)] at h
  cases h
theorem entsO_odd {L : List UInt8} (hl : L.length % 32 ≠ 0) : entsO L = none := by
  unfold entsO
  rw [if_neg (fun h => hl h.1)]
/-- what is told of bytes -/
def EntsPost (o : Option (List EntV)) (w : World) (e : Ending) (w' : World) : Prop := (∃ v, e = .returned (.tuple #[v, .bool o.isSome]) ∧ OwnEnts (o.getD []) w v w') ∧ Below w.heap.size w w'
theorem ents_none {w w' : World} (h : Below w.heap.size w w') : EntsPost none w (.returned (.tuple #[.slice none 0 0, .bool false])) w' := ⟨⟨_, rfl, World.ownsRow_nil _ _ _ _⟩, h⟩
theorem pieceL {L : List UInt8} {N k : Nat} (hl : L.length = 32 * N) (hk : k < N) : (piece L k).length = 32 := by
  unfold piece
  rw [List.length_take, List.length_drop]
  omega
theorem ext_list (s : ByteArray) (a b : Nat) : (s.extract a b).data.toList = (s.data.toList.drop a).take (b - a) := by simp [ByteArray.data_extract]
/-- the parts of an entry's bytes -/
theorem one_parts {o : ByteArray} {P : List UInt8} (h : o.data.toList = P) (hp : P.length = 32) : ∃ c : Nat, (P.getD 2 0).toNat = c ∧ c < 256 ∧ (∀ h2 : 2 < o.size, (o[2].toNat) = c) ∧ o.size = 32 ∧
    (c ≤ 24 → (⟨(entK P).name, (entK P).ino⟩ : EntV) = ⟨o.extract 4 (4 + c), (leN ((o.extract 0 2).data.toList.take 8) : Nat)⟩) := by
  have hs : o.size = 32 := by rw [← hp, ← h, Array.length_toList]; rfl
  refine ⟨_, rfl, UInt8.toNat_lt _, fun h2 => ?_, hs, fun hc => ?_⟩
  · rw [← h, List.getD_eq_getElem?_getD, List.getElem?_eq_getElem (by rw [Array.length_toList]; exact h2)]
    rfl
  · unfold entK
    dsimp only
    have e1 : (⟨((P.drop 4).take (P.getD 2 0).toNat).toArray⟩ : ByteArray) = o.extract 4 (4 + (P.getD 2 0).toNat) := by
      apply WideShapes.bytes_inj
      rw [ext_list, h, show 4 + (P.getD 2 0).toNat - 4 = (P.getD 2 0).toNat by omega]
    rw [e1, ext_list, h, List.drop_zero, List.take_take]
    congr 2
theorem less_lists : ∀ x y : List UInt8, Op.bytesLess x y = decide (x < y)
  | [], [] => by simp [Op.bytesLess]
  | [], _ :: _ => by simp [Op.bytesLess]
  | _ :: _, [] => by simp [Op.bytesLess]
  | a :: x, b :: y => by
    have ih := less_lists x y
    unfold Op.bytesLess
    rw [ih, Bool.eq_iff_iff]
    simp [List.cons_lt_cons_iff]
theorem less_walk (a b : ByteArray) : Op.bytesLess a.toList b.toList = ltB a b := by
  rw [less_lists, str_data, str_data]; rfl
def strSz : Value → Nat
  | .string s => s.size
  | _ => 0
theorem own_ents {w' : World} {base n : Nat} {v : Value} {l : List EntV} (h : w'.ownsRow base 49 2 v n (entC l)) (hn : l.length = n) : ∃ A c, v = .slice A n c ∧ EntsAt w' w'.heap.size A l := by
  have h2 := h
  obtain ⟨h1, h3⟩ := h2
  rcases h3 with ⟨hv, h0⟩ | ⟨g, cap, cur, hv, hg, hh, hnc, hm, hsz, ht⟩
  · refine ⟨none, 0, by rw [hv, h0], ?_⟩
    have : l = [] := List.eq_nil_of_length_eq_zero (hn.trans h0)
    subst this
    exact RowAt.nil
  · subst hv
    exact ⟨_, _, rfl, RowAt.of_own_k h⟩
theorem good_bad {P : List UInt8} (h : 24 < (P.getD 2 0).toNat ∨ okE (entK P) = false ∨ entB (entK P) ≠ P) : goodK P = false := by
  cases hh : goodK P with
  | false => rfl
  | true =>
    unfold goodK at hh
    simp only [Bool.and_eq_true, decide_eq_true_eq] at hh
    rcases h with h | h | h
    · omega
    · rw [h] at hh; exact absurd hh.1.2 (by simp)
    · exact absurd hh.2 h
theorem okE_bad {nm : ByteArray} {z : Int} (h : z < 1 ∨ 64 < z ∨ mayB nm.data.toList = false) : okE ⟨nm, z⟩ = false := by
  unfold okE
  dsimp only
  rcases h with h | h | h
  · rw [decide_eq_false (by omega), Bool.and_false]
  · rw [decide_eq_false (by omega), Bool.and_false]
  · rw [h, Bool.false_and]
theorem step_bad {L : List UInt8} {k : Nat} (h : goodK (piece L k) = false) : stepK L k = false := by unfold stepK; rw [h]; rfl
set_option maxHeartbeats 8000000 in
theorem entries_any (b : ByteArray) (w : World) (hb : b.size ≤ 8960) : Calls Tryz.prog 29 #[.string b] w (EntsPost (entsO b.data.toList) w) := by
  have hl : b.data.toList.length = b.size := by rw [Array.length_toList]; rfl
  have et : (b.size : Int).tmod 32 = ((b.size % 32 : Nat) : Int) := by rw [Int.tmod_eq_emod_of_nonneg (by omega)]; omega
  obtain ⟨i0, q1, q2, q3, q4⟩ := info_parts ent_info
  have I0 := Lib.hid (And.intro q1 (And.intro q2 (And.intro q3 q4)))
  clear q1 q2 q3 q4
  by_cases hm : b.size % 32 = 0
  · obtain ⟨N, hN⟩ : ∃ N, b.size = 32 * N := ⟨b.size / 32, by omega⟩
    have e0 : (((b.size % 32 : Nat) : Int) != 0) = false := by rw [hm]; rfl
    obtain ⟨L, hL⟩ : ∃ L, b.data.toList = L := ⟨_, rfl⟩
    rw [hL] at hl ⊢
    have HLN : Hid (L.length = 32 * N) := hl.trans hN
    have HN : Hid (N ≤ 280) := by show _ ≤ _; omega
    have HB0 : Hid (b.data.toList = L.drop (32 * 0)) := by show _ = _; rw [hL]; rfl
    have HBL := Lib.hid (Below.refl w.heap.size w)
    have O0 : Hid (w.ownsRow w.heap.size 49 2 (.slice none 0 0) 0 (entC (entsN L 0))) := World.ownsRow_nil _ _ _ _
    have HG := Lib.hid (fun (i : Nat) (h : i < 0) => (absurd h (Nat.not_lt_zero _) : stepK L i = true))
    clear hl hL hb hN
    go_enter Tryz.func29, Tryz.ntmps29
    go_wp2
    go_loopw [0, 4] (fun t v wr => ∃ (k : Nat) (s : ByteArray), k ≤ N ∧ t = .string s ∧ Hid (s.data.toList = L.drop (32 * k)) ∧ Hid (wr.ownsRow w.heap.size 49 2 v k (entC (entsN L k))) ∧ Hid (Below w.heap.size w wr) ∧ Hid (∀ i, i < k → stepK L i = true)) (fun t _ _ => strSz t)
    case atStart => exact ⟨0, b, Nat.zero_le _, rfl, HB0, O0, HBL, HG⟩
    case round =>
      clear HB0 O0 HBL HG et e0 hm
      obtain ⟨k, s, hk, rfl, HS, O, B, HA⟩ := hrel
      have hsz : s.size = 32 * (N - k) := by
        have := congrArg List.length HS.out
        rw [List.length_drop, HLN.out, Array.length_toList] at this
        have h2 : s.size = 32 * N - 32 * k := this
        omega
      by_cases hlt : k < N
      · have q1 : s.toList.isEmpty = false := by
          rw [str_data]
          cases h : s.data.toList with
          | nil => have := congrArg List.length h; rw [Array.length_toList] at this; have h2 : s.size = 0 := this; omega
          | cons _ _ => rfl
        have q2 : ¬ s.toList = [] := fun h => by rw [h] at q1; cases q1
        have c1 : (32 : Int) ≤ (s.size : Int) := by omega
        obtain ⟨o, ho⟩ : ∃ o, s.extract 0 32 = o := ⟨_, rfl⟩
        have hop : o.data.toList = piece L k := by rw [← ho, ext_list, HS.out]; rfl
        obtain ⟨c, hc, hc256, hc2, ho32, hx⟩ := one_parts hop (pieceL HLN.out hlt)
        have o1 : (2 : Nat) < o.size := by omega
        have o2 : (2 : Int) < (o.size : Int) := by omega
        have o3 := hc2 o1
        have HBAD := Lib.hid (fun h => entsO_bad HLN.out hlt (step_bad (good_bad h)))
        rw [hc] at HBAD
        by_cases hc24 : c ≤ 24
        · have o4 : ¬ (24 : Int) < (c : Int) := by omega
          have o5 : (4 : Int) + (c : Int) ≤ (o.size : Int) := by omega
          have o6 : (2 : Int) ≤ (o.size : Int) := by omega
          have o7 : (4 : Int) ≤ (4 : Int) + (c : Int) := by omega
          have o8 : ((4 : Int) + (c : Int)).toNat = 4 + c := by omega
          have o9 : IntKind.i64.wrap ((4 : Int) + (c : Int)) = (4 : Int) + (c : Int) := IntWalk.i64_in _ (by omega)
          have hx := hx hc24
          have HX : Hid (entK (piece L k) = ⟨o.extract 4 (4 + c), (leN ((o.extract 0 2).data.toList.take 8) : Nat)⟩) := hx
          obtain ⟨nm, hnm⟩ : ∃ nm, o.extract 4 (4 + c) = nm := ⟨_, rfl⟩
          have hns : nm.size = c := by rw [← hnm, ByteArray.size_extract]; omega
          obtain ⟨t, ht⟩ : ∃ t, o.extract 0 2 = t := ⟨_, rfl⟩
          obtain ⟨q, hq⟩ : ∃ q, leN (t.data.toList.take 8) = q := ⟨_, rfl⟩
          have hq16 : q < 65536 := by
            have := leN_lt (t.data.toList.take 8)
            rw [hq, List.length_take, Array.length_toList] at this
            have hts : t.data.size = 2 := by show t.size = 2; rw [← ht, ByteArray.size_extract]; omega
            rw [hts] at this
            exact this
          rw [hnm, ht, hq] at HX
          have CG : Hid (∀ w, Calls Tryz.prog 62 #[.string t] w fun e w' => e = .returned (.int .u64 (q : Nat)) ∧ w = w') := fun w => by rw [← hq]; exact get_any t w (by rw [← ht, ByteArray.size_extract]; omega)
          have q4 : IntKind.i64.wrap (q : Int) = (q : Int) := IntWalk.i64_in _ (by omega)
          clear hx hc256 hc2 hq
          go_wp2_with fail
          apply wp_region_free 9 0 0 7 _ (fun X w' => ∃ p, X = .pointer (some ⟨p, 0, none⟩) ∧ wr.heap.size ≤ p ∧ Blk w' p 49 #[.string ⟨#[]⟩, .int .i64 0]) (by kernel_rfl) (by kernel_rfl) rfl
          case hΦ =>
            rintro X u u' ⟨p, rfl, hp, hb⟩ hu
            exact ⟨p, rfl, hp, hb.below hu hb.lt⟩
          case W1 =>
            intro wb hwb
            unfold ExtC
            simp only [List.take_succ_cons, List.take_zero, List.drop_succ_cons, List.drop_zero]
            repeat (go_big_quiet_step (first
              | (go_at_call 62; with_reducible exact Ext.call_same (CG.out _))))
            exact wpQuiet_nil rfl
          case MK =>
            intro wb hwb
            exact ⟨.pointer (some ⟨wb.heap.size, 0, none⟩), wb.alloc (.cells #[.string ⟨#[]⟩, .int .i64 0] 49), rfl, ⟨_, rfl, hwb.size, Blk.new wb _ _⟩, (Below.refl _ _).alloc (Nat.le_refl _) _⟩
          case UM =>
            intro X wb hwb hX
            exact wpQuiet_nil rfl
          case W2 =>
            intro X wb hwb
            exact wpQuiet_nil rfl
          rintro X w2 hb2 ⟨gx, rfl, hgx, hbx⟩
          have HB2 := Lib.hid hb2
          have GZ := Lib.hid hbx
          clear hb2 hbx CG
          simp only [List.take_succ_cons, List.take_zero, List.drop_succ_cons, List.drop_zero]
          have m1 : mayB nm.data.toList = true ∨ mayB nm.data.toList = false := by cases mayB nm.data.toList <;> simp
          have CM := Lib.hid (fun w => may_any nm w (by omega))
          have CE := Lib.hid (fun w => entry_any ⟨nm, (q : Int)⟩ w (by show nm.size ≤ 28; omega) (by show (0 : Int) ≤ q ∧ (q : Int) < 65536; omega))
          have HEQ : Hid ((⟨(entB ⟨nm, (q : Int)⟩).toArray⟩ : ByteArray) = o ↔ entB (entK (piece L k)) = piece L k) := by
            show _ ↔ _
            rw [HX.out, ← hop]
            constructor
            · intro h; rw [← h]
            · intro h; rw [h]
          dsimp only at CE
          generalize (⟨(entB ⟨nm, (q : Int)⟩).toArray⟩ : ByteArray) = es at *
          by_cases hbad : (q : Int) < 1 ∨ (64 : Int) < (q : Int) ∨ mayB nm.data.toList = false ∨ es ≠ o
          · have HE : Hid (entsO L = none) := by
              refine HBAD.out (.inr ?_)
              rcases hbad with h | h | h | h
              · left; rw [HX.out]; exact okE_bad (.inl h)
              · left; rw [HX.out]; exact okE_bad (.inr (.inl h))
              · left; rw [HX.out]; exact okE_bad (.inr (.inr h))
              · right; exact fun e => h (HEQ.out.2 e)
            clear HBAD HEQ HX hop HA HS
            by_cases a1 : (q : Int) < 1
            · go_wp2_with (first
                | (refine store_blk 49 (.tmp 7) (.tmp 31) gx 49 #[.string ⟨#[]⟩, .int .i64 0] #[.string nm, .int .i64 (q : Int)] rfl rfl rfl rfl GZ.out rfl (by kernel_rfl) (by simp [Value.oneCell']) ?_; intro w3 hr3 hg3; have d0 := hr3.cell 0 rfl; have d1 := hr3.cell 1 rfl; have GX := Lib.hid hr3; have HB3 := Lib.hid (HB2.out.grown hg3 HB2.out.size (fun j e => by cases e; exact hgx)); have B3 := Lib.hid (B.out.trans (HB3.out.mono B.out.size)); clear hr3 hg3 HB2))
              go_ret2
              rw [HE.out]
              exact ents_none B3.out
            · by_cases a2 : (64 : Int) < (q : Int)
              · go_wp2_with (first
                  | (refine store_blk 49 (.tmp 7) (.tmp 31) gx 49 #[.string ⟨#[]⟩, .int .i64 0] #[.string nm, .int .i64 (q : Int)] rfl rfl rfl rfl GZ.out rfl (by kernel_rfl) (by simp [Value.oneCell']) ?_; intro w3 hr3 hg3; have d0 := hr3.cell 0 rfl; have d1 := hr3.cell 1 rfl; have GX := Lib.hid hr3; have HB3 := Lib.hid (HB2.out.grown hg3 HB2.out.size (fun j e => by cases e; exact hgx)); have B3 := Lib.hid (B.out.trans (HB3.out.mono B.out.size)); clear hr3 hg3 HB2))
                go_ret2
                rw [HE.out]
                exact ents_none B3.out
              · by_cases a3 : mayB nm.data.toList = false
                · rw [a3] at CM
                  go_wp2_with (first
                    | (refine store_blk 49 (.tmp 7) (.tmp 31) gx 49 #[.string ⟨#[]⟩, .int .i64 0] #[.string nm, .int .i64 (q : Int)] rfl rfl rfl rfl GZ.out rfl (by kernel_rfl) (by simp [Value.oneCell']) ?_; intro w3 hr3 hg3; have d0 := hr3.cell 0 rfl; have d1 := hr3.cell 1 rfl; have GX := Lib.hid hr3; have HB3 := Lib.hid (HB2.out.grown hg3 HB2.out.size (fun j e => by cases e; exact hgx)); have B3 := Lib.hid (B.out.trans (HB3.out.mono B.out.size)); clear hr3 hg3 HB2)
                    | (go_at_call 12; refine (CM.out _).mono ?_; rintro e w4 ⟨rfl, hb4⟩; have GX4 := Lib.hid (GX.out.below hb4 GX.out.lt); have HB4 := Lib.hid (HB3.out.trans (hb4.mono HB3.out.size)); have B4 := Lib.hid (B.out.trans (HB4.out.mono B.out.size)); have d4 := GX4.out.cell 0 rfl; have d5 := GX4.out.cell 1 rfl; clear hb4 HB3 B3))
                  go_ret2
                  rw [HE.out]
                  exact ents_none B4.out
                · have a4 : es ≠ o := by
                    rcases hbad with h | h | h | h
                    · exact absurd h a1
                    · exact absurd h a2
                    · exact absurd h a3
                    · exact h
                  have a3 : mayB nm.data.toList = true := by simpa using a3
                  rw [a3] at CM
                  have a5 := str_ne a4
                  go_wp2_with (first
                    | (refine store_blk 49 (.tmp 7) (.tmp 31) gx 49 #[.string ⟨#[]⟩, .int .i64 0] #[.string nm, .int .i64 (q : Int)] rfl rfl rfl rfl GZ.out rfl (by kernel_rfl) (by simp [Value.oneCell']) ?_; intro w3 hr3 hg3; have d0 := hr3.cell 0 rfl; have d1 := hr3.cell 1 rfl; have GX := Lib.hid hr3; have HB3 := Lib.hid (HB2.out.grown hg3 HB2.out.size (fun j e => by cases e; exact hgx)); have B3 := Lib.hid (B.out.trans (HB3.out.mono B.out.size)); clear hr3 hg3 HB2)
                    | (go_at_call 12; refine (CM.out _).mono ?_; rintro e w4 ⟨rfl, hb4⟩; have GX4 := Lib.hid (GX.out.below hb4 GX.out.lt); have HB4 := Lib.hid (HB3.out.trans (hb4.mono HB3.out.size)); have B4 := Lib.hid (B.out.trans (HB4.out.mono B.out.size)); have d4 := GX4.out.cell 0 rfl; have d5 := GX4.out.cell 1 rfl; clear hb4 HB3 B3)
                    | (go_at_call 33; refine (CE.out _).mono ?_; rintro e w5 ⟨rfl, hb5⟩; have GX5 := Lib.hid (GX4.out.below hb5 GX4.out.lt); have HB5 := Lib.hid (HB4.out.trans (hb5.mono HB4.out.size)); have B5 := Lib.hid (B.out.trans (HB5.out.mono B.out.size)); clear hb5 HB4 B4))
                  go_ret2
                  rw [HE.out]
                  exact ents_none B5.out
          · have a1 : ¬ (q : Int) < 1 := fun h => hbad (.inl h)
            have a2 : ¬ (64 : Int) < (q : Int) := fun h => hbad (.inr (.inl h))
            have a3 : mayB nm.data.toList = true := by cases h : mayB nm.data.toList with
              | true => rfl
              | false => exact absurd (.inr (.inr (.inl h))) hbad
            obtain rfl : es = o := Classical.not_not.1 (fun h => hbad (.inr (.inr (.inr h))))
            have HGD : Hid (goodK (piece L k) = true) := by
              show _ = _
              unfold goodK
              rw [HEQ.out.1 rfl, hc, HX.out]
              simp only [okE, a3, Bool.true_and, Bool.and_true, Bool.and_eq_true, decide_eq_true_eq, and_true]
              omega
            have a5 := str_eq es
            rw [a3] at CM
            obtain ⟨A, cp, rfl, HR⟩ := own_ents O.out (entsN_len L k)
            have HR := Lib.hid HR
            clear hbad HEQ hop hx
            by_cases hk0 : k = 0
            · have k1 : ¬ (0 : Int) < (k : Int) := by omega
              have k5 : decide (0 < k) = false := decide_eq_false (by omega)
              have HOK : Hid (stepK L k = true) := by
                show _ = _
                unfold stepK
                rw [HGD.out, hk0]; rfl
              have HK := Lib.hid hk0
              clear hk0
              go_wp2_with (first
                | (refine store_blk 49 (.tmp 7) (.tmp 31) gx 49 #[.string ⟨#[]⟩, .int .i64 0] #[.string nm, .int .i64 (q : Int)] rfl rfl rfl rfl GZ.out rfl (by kernel_rfl) (by simp [Value.oneCell']) ?_; intro w3 hr3 hg3; have d0 := hr3.cell 0 rfl; have d1 := hr3.cell 1 rfl; have GX := Lib.hid hr3; have HB3 := Lib.hid (HB2.out.grown hg3 HB2.out.size (fun j e => by cases e; exact hgx)); have B3 := Lib.hid (B.out.trans (HB3.out.mono B.out.size)); clear hr3 hg3 HB2)
                | (go_at_call 12; refine (CM.out _).mono ?_; rintro e w4 ⟨rfl, hb4⟩; have GX4 := Lib.hid (GX.out.below hb4 GX.out.lt); have HB4 := Lib.hid (HB3.out.trans (hb4.mono HB3.out.size)); have B4 := Lib.hid (B.out.trans (HB4.out.mono B.out.size)); have d4 := GX4.out.cell 0 rfl; have d5 := GX4.out.cell 1 rfl; clear hb4 HB3 B3)
                | (go_at_call 33; refine (CE.out _).mono ?_; rintro e w5 ⟨rfl, hb5⟩; have GX5 := Lib.hid (GX4.out.below hb5 GX4.out.lt); have HB5 := Lib.hid (HB4.out.trans (hb5.mono HB4.out.size)); have B5 := Lib.hid (B.out.trans (HB5.out.mono B.out.size)); clear hb5 HB4 B4))
              have p2 : ∀ u : Ext w5, u.val.cell? ⟨gx, 0, none⟩ = some (.string nm) := fun u => u.cell (GX5.out.cell 0 rfl)
              refine wp_region_ext (by kernel_rfl) (by kernel_rfl) ?_
              repeat (go_big_quiet_step (fail))
              refine wpQuiet_nil ?_
              rintro _ ⟨u, rfl⟩
              have HB6 : Hid (Below wr.heap.size wr u.val) := HB5.out.trans (u.below.mono HB5.out.size)
              have GX6 : Hid (Blk u.val gx 49 #[.string nm, .int .i64 (q : Int)]) := GX5.out.below u.below GX5.out.lt
              generalize u.val = w6 at *
              clear GX5 HB5 B5 GX4 d0 d1 d4 d5 GX GZ p2
              have O7 : Hid ((w6.alloc (.cells #[.string nm, .int .i64 (q : Int)] 49)).ownsRow w.heap.size 49 2 _ k (entC (entsN L k))) := World.ownsRow.alloc (own_below O.out HB6.out) _
              have B7 := Lib.hid ((B.out.trans (HB6.out.mono B.out.size)).alloc (B.out.trans (HB6.out.mono B.out.size)).size (.cells #[.string nm, .int .i64 (q : Int)] 49))
              have HC7 : Hid (∀ j u, [Value.string nm, Value.int .i64 (q : Int)][j]? = some u → (w6.alloc (.cells #[.string nm, .int .i64 (q : Int)] 49)).cell? ((⟨w6.heap.size, 0, none⟩ : Addr).add j) = some u) := fun j u hu => by
                have hB := Blk.new w6 49 #[.string nm, .int .i64 (q : Int)]
                rw [add_zero_addr, Nat.zero_add]
                exact hB.cell j (by simpa using hu)
              have H17 : Hid (∀ u ∈ [Value.string nm, Value.int .i64 (q : Int)], u.oneCell' = true) := fun u hu => by
                rcases List.mem_cons.1 hu with rfl | hu
                · rfl
                · rcases List.mem_cons.1 hu with rfl | hu
                  · rfl
                  · cases hu
              have HM7 : Hid (k + 1 ≤ maxLen) := by show _ ≤ _; have := HN.out; unfold maxLen; omega
              have HY7 : Hid ((k + 1) * 24 ≤ 140737488355328) := by show _ ≤ _; have := HN.out; omega
              have e0 := GX6.out.cell 0 rfl
              have e1 := GX6.out.cell 1 rfl
              have HS2 : Hid ((s.extract 32 (32 * (N - k))).data.toList = L.drop (32 * (k + 1))) := by
                show _ = _
                rw [← hsz, ext_list, HS.out, List.drop_drop, List.take_of_length_le (by rw [List.length_drop, HLN.out]; omega)]
                congr 1
              have HZ2 : Hid ((s.extract 32 (32 * (N - k))).size < s.size) := by show _ < _; rw [ByteArray.size_extract]; omega
              have HA2 : Hid (∀ i, i < k + 1 → stepK L i = true) := fun i hi => by
                by_cases e : i = k
                · rw [e]; exact HOK.out
                · exact HA.out i (by omega)
              have HEN : Hid (entC (entsN L k) ++ [Value.string nm, Value.int .i64 (q : Int)] = entC (entsN L (k + 1))) := by
                show _ = _
                rw [entsN_succ, entC_app, HX.out]
                rfl
              go_wp2_with (at_builtin; refine wpList_append_own _ rfl (.tmp 67) (.tmp 69) 39 rfl w.heap.size 49 i0 (.agg #[.string ⟨#[]⟩, .int .i64 0]) 2 24 Tryz.underlying39 I0.out.1 I0.out.2.1 I0.out.2.2.1 I0.out.2.2.2 rfl (by decide) _ k (entC (entsN L k)) rfl O7.out ⟨w6.heap.size, 0, none⟩ 1 1 [.string nm, .int .i64 (q : Int)] rfl rfl HC7.out H17.out HM7.out HY7.out B7.out.size ?_; intro v9 w9 own hg hv; have O9 : Hid (w9.ownsRow w.heap.size 49 2 v9 (k + 1) (entC (entsN L (k + 1)))) := HEN.out ▸ own; have B9 := Lib.hid (B7.out.grown hg B7.out.size (fun j e => (O7.out.lt j e).1)); clear own hg hv)
              go_roundw
              case rel => exact ⟨k + 1, _, by omega, rfl, HS2, O9, B9, HA2⟩
              case measure => exact HZ2.out
            · obtain ⟨j, hj⟩ : ∃ j, k = j + 1 := ⟨k - 1, by omega⟩
              have k1 : (0 : Int) < (k : Int) := by omega
              have k2 : IntKind.i64.wrap ((k : Int) - 1) = (j : Int) := by rw [show (k : Int) - 1 = (j : Int) by omega]; exact IntWalk.i64_in _ (by have := HN.out; omega)
              have k3 : (j : Int) < (k : Int) := by omega
              have k5 : decide (0 < k) = true := decide_eq_true (by omega)
              have k4 : (0 : Int) ≤ (j : Int) := by omega
              obtain ⟨bA, oA, rfl, hbA, hrA⟩ := HR.out.get (k := j) (by rw [entsN_len]; omega)
              obtain ⟨pn, hpn⟩ : ∃ pn, (entK (piece L j)).name = pn := ⟨_, rfl⟩
              have hg : ∀ h, ((entsN L k)[j]'h).name = pn := fun h => by rw [← hpn]; simp [entsN]
              have HC : Hid (∀ w', Below wr.heap.size wr w' → w'.cell? ⟨bA, oA + j * 2, none⟩ = some (.string pn)) := fun w' h => by
                have := hrA 0 (.string pn) (by rw [← hg]; rfl)
                exact (h.cell (p := ⟨bA, oA + j * 2, none⟩) hbA).trans this
              have HST : Hid (stepK L k = ltB pn nm) := by
                show _ = _
                unfold stepK
                rw [HGD.out, Bool.true_and, hj, show (j + 1 == 0) = false from rfl, Bool.false_or, show j + 1 - 1 = j by omega, hpn, ← hj, HX.out]
              have HBD := Lib.hid (fun h => entsO_bad (L := L) HLN.out hlt h)
              have HJ := Lib.hid hj
              clear hrA hpn hj hg
              cases hlt2 : ltB pn nm with
              | false =>
                have HE := Lib.hid (HBD.out (HST.out.trans hlt2))
                have l1 : Op.bytesLess pn.toList nm.toList = false := (less_walk pn nm).trans hlt2
                clear HBD HST HGD
                go_wp2_with (first
                  | (refine store_blk 49 (.tmp 7) (.tmp 31) gx 49 #[.string ⟨#[]⟩, .int .i64 0] #[.string nm, .int .i64 (q : Int)] rfl rfl rfl rfl GZ.out rfl (by kernel_rfl) (by simp [Value.oneCell']) ?_; intro w3 hr3 hg3; have d0 := hr3.cell 0 rfl; have d1 := hr3.cell 1 rfl; have GX := Lib.hid hr3; have HB3 := Lib.hid (HB2.out.grown hg3 HB2.out.size (fun j e => by cases e; exact hgx)); have B3 := Lib.hid (B.out.trans (HB3.out.mono B.out.size)); clear hr3 hg3 HB2)
                  | (go_at_call 12; refine (CM.out _).mono ?_; rintro e w4 ⟨rfl, hb4⟩; have GX4 := Lib.hid (GX.out.below hb4 GX.out.lt); have HB4 := Lib.hid (HB3.out.trans (hb4.mono HB3.out.size)); have B4 := Lib.hid (B.out.trans (HB4.out.mono B.out.size)); have d4 := GX4.out.cell 0 rfl; have d5 := GX4.out.cell 1 rfl; clear hb4 HB3 B3)
                  | (go_at_call 33; refine (CE.out _).mono ?_; rintro e w5 ⟨rfl, hb5⟩; have GX5 := Lib.hid (GX4.out.below hb5 GX4.out.lt); have HB5 := Lib.hid (HB4.out.trans (hb5.mono HB4.out.size)); have B5 := Lib.hid (B.out.trans (HB5.out.mono B.out.size)); clear hb5 HB4 B4))
                have p1 : ∀ u : Ext w5, u.val.cell? ⟨bA, oA + j * 2, none⟩ = some (.string pn) := fun u => HC.out _ (HB5.out.trans (u.below.mono HB5.out.size))
                have p2 : ∀ u : Ext w5, u.val.cell? ⟨gx, 0, none⟩ = some (.string nm) := fun u => u.cell (GX5.out.cell 0 rfl)
                refine wp_region_ext (by kernel_rfl) (by kernel_rfl) ?_
                repeat (go_big_quiet_step (fail))
                refine wpQuiet_nil ?_
                rintro _ ⟨u, rfl⟩
                have B6 := Lib.hid (B5.out.trans (u.below.mono B5.out.size))
                generalize u.val = w6 at B6
                go_wp2
                go_ret2
                rw [HE.out]
                exact ents_none B6.out
              | true =>
              have HOK : Hid (stepK L k = true) := HST.out.trans hlt2
              have l1 : Op.bytesLess pn.toList nm.toList = true := (less_walk pn nm).trans hlt2
              clear HBD HST HGD hlt2
              go_wp2_with (first
                | (refine store_blk 49 (.tmp 7) (.tmp 31) gx 49 #[.string ⟨#[]⟩, .int .i64 0] #[.string nm, .int .i64 (q : Int)] rfl rfl rfl rfl GZ.out rfl (by kernel_rfl) (by simp [Value.oneCell']) ?_; intro w3 hr3 hg3; have d0 := hr3.cell 0 rfl; have d1 := hr3.cell 1 rfl; have GX := Lib.hid hr3; have HB3 := Lib.hid (HB2.out.grown hg3 HB2.out.size (fun j e => by cases e; exact hgx)); have B3 := Lib.hid (B.out.trans (HB3.out.mono B.out.size)); clear hr3 hg3 HB2)
                | (go_at_call 12; refine (CM.out _).mono ?_; rintro e w4 ⟨rfl, hb4⟩; have GX4 := Lib.hid (GX.out.below hb4 GX.out.lt); have HB4 := Lib.hid (HB3.out.trans (hb4.mono HB3.out.size)); have B4 := Lib.hid (B.out.trans (HB4.out.mono B.out.size)); have d4 := GX4.out.cell 0 rfl; have d5 := GX4.out.cell 1 rfl; clear hb4 HB3 B3)
                | (go_at_call 33; refine (CE.out _).mono ?_; rintro e w5 ⟨rfl, hb5⟩; have GX5 := Lib.hid (GX4.out.below hb5 GX4.out.lt); have HB5 := Lib.hid (HB4.out.trans (hb5.mono HB4.out.size)); have B5 := Lib.hid (B.out.trans (HB5.out.mono B.out.size)); clear hb5 HB4 B4))
              have p1 : ∀ u : Ext w5, u.val.cell? ⟨bA, oA + j * 2, none⟩ = some (.string pn) := fun u => HC.out _ (HB5.out.trans (u.below.mono HB5.out.size))
              have p2 : ∀ u : Ext w5, u.val.cell? ⟨gx, 0, none⟩ = some (.string nm) := fun u => u.cell (GX5.out.cell 0 rfl)
              refine wp_region_ext (by kernel_rfl) (by kernel_rfl) ?_
              repeat (go_big_quiet_step (fail))
              refine wpQuiet_nil ?_
              rintro _ ⟨u, rfl⟩
              clear p1 l1 k2
              have HB6 : Hid (Below wr.heap.size wr u.val) := HB5.out.trans (u.below.mono HB5.out.size)
              have GX6 : Hid (Blk u.val gx 49 #[.string nm, .int .i64 (q : Int)]) := GX5.out.below u.below GX5.out.lt
              generalize u.val = w6 at *
              clear GX5 HB5 B5 GX4 d0 d1 d4 d5 GX GZ p2
              have O7 : Hid ((w6.alloc (.cells #[.string nm, .int .i64 (q : Int)] 49)).ownsRow w.heap.size 49 2 _ k (entC (entsN L k))) := World.ownsRow.alloc (own_below O.out HB6.out) _
              have B7 := Lib.hid ((B.out.trans (HB6.out.mono B.out.size)).alloc (B.out.trans (HB6.out.mono B.out.size)).size (.cells #[.string nm, .int .i64 (q : Int)] 49))
              have HC7 : Hid (∀ j u, [Value.string nm, Value.int .i64 (q : Int)][j]? = some u → (w6.alloc (.cells #[.string nm, .int .i64 (q : Int)] 49)).cell? ((⟨w6.heap.size, 0, none⟩ : Addr).add j) = some u) := fun j u hu => by
                have hB := Blk.new w6 49 #[.string nm, .int .i64 (q : Int)]
                rw [add_zero_addr, Nat.zero_add]
                exact hB.cell j (by simpa using hu)
              have H17 : Hid (∀ u ∈ [Value.string nm, Value.int .i64 (q : Int)], u.oneCell' = true) := fun u hu => by
                rcases List.mem_cons.1 hu with rfl | hu
                · rfl
                · rcases List.mem_cons.1 hu with rfl | hu
                  · rfl
                  · cases hu
              have HM7 : Hid (k + 1 ≤ maxLen) := by show _ ≤ _; have := HN.out; unfold maxLen; omega
              have HY7 : Hid ((k + 1) * 24 ≤ 140737488355328) := by show _ ≤ _; have := HN.out; omega
              have e0 := GX6.out.cell 0 rfl
              have e1 := GX6.out.cell 1 rfl
              have HS2 : Hid ((s.extract 32 (32 * (N - k))).data.toList = L.drop (32 * (k + 1))) := by
                show _ = _
                rw [← hsz, ext_list, HS.out, List.drop_drop, List.take_of_length_le (by rw [List.length_drop, HLN.out]; omega)]
                congr 1
              have HZ2 : Hid ((s.extract 32 (32 * (N - k))).size < s.size) := by show _ < _; rw [ByteArray.size_extract]; omega
              have HA2 : Hid (∀ i, i < k + 1 → stepK L i = true) := fun i hi => by
                by_cases e : i = k
                · rw [e]; exact HOK.out
                · exact HA.out i (by omega)
              have HEN : Hid (entC (entsN L k) ++ [Value.string nm, Value.int .i64 (q : Int)] = entC (entsN L (k + 1))) := by
                show _ = _
                rw [entsN_succ, entC_app, HX.out]
                rfl
              go_wp2_with (at_builtin; refine wpList_append_own _ rfl (.tmp 67) (.tmp 69) 39 rfl w.heap.size 49 i0 (.agg #[.string ⟨#[]⟩, .int .i64 0]) 2 24 Tryz.underlying39 I0.out.1 I0.out.2.1 I0.out.2.2.1 I0.out.2.2.2 rfl (by decide) _ k (entC (entsN L k)) rfl O7.out ⟨w6.heap.size, 0, none⟩ 1 1 [.string nm, .int .i64 (q : Int)] rfl rfl HC7.out H17.out HM7.out HY7.out B7.out.size ?_; intro v9 w9 own hg hv; have O9 : Hid (w9.ownsRow w.heap.size 49 2 v9 (k + 1) (entC (entsN L (k + 1)))) := HEN.out ▸ own; have B9 := Lib.hid (B7.out.grown hg B7.out.size (fun j e => (O7.out.lt j e).1)); clear own hg hv)
              go_roundw
              case rel => exact ⟨k + 1, _, by omega, rfl, HS2, O9, B9, HA2⟩
              case measure => exact HZ2.out
        · have o4 : (24 : Int) < (c : Int) := by omega
          have HE := Lib.hid (HBAD.out (.inl (by omega)))
          go_wp2
          go_ret2
          rw [HE.out]
          exact ents_none B.out
      · obtain rfl : k = N := by omega
        have q1 : s.toList.isEmpty = true := by
          rw [str_data]
          cases h : s.data.toList with
          | nil => rfl
          | cons a t => have := congrArg List.length h; rw [Array.length_toList] at this; have h2 : s.size = (a :: t).length := this; simp at h2; omega
        have q2 : s.toList = [] := by simpa using q1
        have HE := Lib.hid (entsO_all HLN.out HA.out)
        go_wp2
        go_ret2
        rw [HE.out]
        exact ⟨⟨_, rfl, by unfold OwnEnts; rw [Option.getD_some, entsN_len]; exact O.out⟩, B.out⟩
  · have e0 : (((b.size % 32 : Nat) : Int) != 0) = true := by
      simp; omega
    have HO := Lib.hid (entsO_odd (L := b.data.toList) (by rw [hl]; exact hm))
    rw [HO.out]
    go_enter Tryz.func29, Tryz.ntmps29
    go_wp2
    go_ret2
    exact ents_none (Below.refl _ _)
end Go.Proofs.YtoanladhikdcaaaGreat

namespace Go.Proofs.YtoanladhikdcaaaGreat
open Go.RowKit Go.Sort Go.Shelf
set_option linter.unusedVariables false
set_option linter.unusedSimpArgs false
set_option maxRecDepth 100000
theorem below_grow {B : Nat} {w : World} (q : Nat) (os : Array Obj) (h : B ≤ w.heap.size) : Below B w (grow (w.drewN q) os) :=
  ⟨rfl, rfl, rfl, by simp [grow, World.drewN], fun k hk => by
    have : k < (w.drewN q).heap.size := Nat.lt_of_lt_of_le hk h
    exact heap_grow_old _ _ this⟩
theorem count_at (l : List EntV) (nm : ByteArray) : ((List.range l.length).countP fun i => ltB (l.getD i ⟨⟨#[]⟩, 0⟩).name nm) = atE l nm := by
  have e : l = (List.range l.length).map fun i => l.getD i ⟨⟨#[]⟩, 0⟩ := by
    apply List.ext_getElem?
    intro i
    by_cases hi : i < l.length
    · rw [List.getElem?_map, List.getElem?_range hi, Option.map_some, List.getD_eq_getElem?_getD, List.getElem?_eq_getElem hi]; rfl
    · rw [List.getElem?_eq_none (by omega), List.getElem?_eq_none (by simp; omega)]
  unfold atE
  conv => rhs; rw [e, List.countP_map]
  rfl
set_option maxHeartbeats 2000000 in
theorem closure_any (ba bx b o n c : Nat) (s nm : ByteArray) (i : Nat) (w : World) (hi : i < n) (h1 : w.cell? ⟨ba, 0, none⟩ = some (.slice (some ⟨b, o, none⟩) n c)) (h2 : w.cell? ⟨bx, 0, none⟩ = some (.string nm)) (h3 : w.cell? ⟨b, o + i * 2, none⟩ = some (.string s)) :
    Calls Tryz.prog 31 (#[.int .i64 i] ++ #[.pointer (some ⟨ba, 0, none⟩), .pointer (some ⟨bx, 0, none⟩)]) w fun e w' => e = .returned (.bool (!ltB s nm)) ∧ ∃ q, w' = w.drewN q := by
  have i1 : (i : Int) < (n : Int) := by omega
  have i2 : (0 : Int) ≤ (i : Int) := by omega
  cases hl : ltB s nm with
  | false =>
    have l1 : Op.bytesLess s.toList nm.toList = false := (less_walk s nm).trans hl
    clear hl
    go_enter Tryz.func31, Tryz.ntmps31
    go_wp2
    go_quiet (fail)
    go_wp2
    go_ret
    exact ⟨ret_bool (by simp), _, rfl⟩
  | true =>
    have l1 : Op.bytesLess s.toList nm.toList = true := (less_walk s nm).trans hl
    clear hl
    go_enter Tryz.func31, Tryz.ntmps31
    go_wp2
    go_quiet (fail)
    go_wp2
    go_ret
    exact ⟨ret_bool (by simp), _, rfl⟩
set_option maxHeartbeats 4000000 in
theorem search_any (A : Option Addr) (c : Nat) (l : List EntV) (nm : ByteArray) (w : World) (hl : l.length ≤ 280) (hr : l.Pairwise fun x y => ltB x.name y.name = true) (h : EntsAt w w.heap.size A l) :
    Calls Tryz.prog 14 #[.slice A l.length c, .string nm] w fun e w' => e = .returned (.tuple #[.int .i64 (atE l nm : Nat), .bool (hasE l nm)]) ∧ Below w.heap.size w w' := by
  obtain ⟨W0, hW0⟩ : ∃ W0, W0 = (w.alloc (.cells #[.slice A l.length c] 39)).alloc (.cells #[.string nm] 9) := ⟨_, rfl⟩
  have hsize : W0.heap.size = w.heap.size + 1 + 1 := by rw [hW0]; simp
  have hB0 : Below w.heap.size w W0 := by rw [hW0]; exact ((Below.refl _ w).alloc (Nat.le_refl _) _).alloc (by simp) _
  have ca : W0.cell? ⟨w.heap.size, 0, none⟩ = some (.slice A l.length c) := by
    rw [hW0]
    have b := Blk.new w 39 #[.slice A l.length c]
    exact (b.below ((Below.refl _ _).alloc (Nat.le_refl _) _) b.lt).cell 0 rfl
  have cx : W0.cell? ⟨w.heap.size + 1, 0, none⟩ = some (.string nm) := by
    rw [hW0]
    have := (Blk.new (w.alloc (.cells #[.slice A l.length c] 39)) 9 #[.string nm]).cell 0 rfl
    rwa [World.size_alloc] at this
  have eg : ∀ args w, (callFunc 31 args).run Tryz.prog w = .ok (.enter 31 args) w := enters_of Tryz.func31 (by kernel_rfl) rfl
  have hcell : ∀ i (hi : i < l.length), ∃ b o, A = some ⟨b, o, none⟩ ∧ b < w.heap.size ∧ w.cell? ⟨b, o + i * 2, none⟩ = some (.string (l.getD i ⟨⟨#[]⟩, 0⟩).name) := fun i hi => by
    obtain ⟨b, o, hA, hb, hc⟩ := h.get hi
    refine ⟨b, o, hA, hb, ?_⟩
    rw [List.getD_eq_getElem?_getD, List.getElem?_eq_getElem hi]
    exact hc 0 _ rfl
  have hS := Tryz.sort_Search 31 #[.pointer (some ⟨w.heap.size, 0, none⟩), .pointer (some ⟨w.heap.size + 1, 0, none⟩)] l.length (fun i => !ltB (l.getD i ⟨⟨#[]⟩, 0⟩).name nm) W0 eg (by omega)
    (fun m os i hi => by
      obtain ⟨b, o, rfl, hb, hc⟩ := hcell i hi
      have hg := below_grow m os (Nat.le_refl W0.heap.size)
      exact (closure_any w.heap.size (w.heap.size + 1) b o l.length c _ nm i _ hi (hg.cell (by simp [hsize]; omega) |>.trans ca) (hg.cell (by simp [hsize]) |>.trans cx) ((hB0.trans (hg.mono hB0.size)).cell hb |>.trans hc)).mono fun _ _ ⟨he, q, hq⟩ => ⟨he, q, #[], by rw [hq, grow_empty]⟩)
    (fun a b hab hb h => by
      have ha : a < l.length := by omega
      have ga : l.getD a ⟨⟨#[]⟩, 0⟩ = l[a] := by rw [List.getD_eq_getElem?_getD, List.getElem?_eq_getElem ha]; rfl
      have gb : l.getD b ⟨⟨#[]⟩, 0⟩ = l[b] := by rw [List.getD_eq_getElem?_getD, List.getElem?_eq_getElem hb]; rfl
      rw [ga, at_below hr a ha] at h
      rw [gb, at_below hr b hb]
      simp at h ⊢
      omega)
  simp only [Bool.not_not] at hS
  rw [count_at] at hS
  have hat := atE_le l nm
  have hhas := at_has (nm := nm) hr
  generalize hk : atE l nm = k at *
  have HS := Lib.hid hS
  have HW := Lib.hid hW0
  have HB0 := Lib.hid hB0
  have HB1 := Lib.hid (fun q os => hB0.trans ((below_grow q os (Nat.le_refl W0.heap.size)).mono hB0.size))
  have CA := Lib.hid (fun q os => ((below_grow q os (Nat.le_refl W0.heap.size)).cell (p := ⟨w.heap.size, 0, none⟩) (by simp [hsize]; omega)).trans ca)
  have CX := Lib.hid (fun q os => ((below_grow q os (Nat.le_refl W0.heap.size)).cell (p := ⟨w.heap.size + 1, 0, none⟩) (by simp [hsize])).trans cx)
  by_cases hlt : k < l.length
  · obtain ⟨b, o, rfl, hb, hc⟩ := hcell k hlt
    have gk : l.getD k ⟨⟨#[]⟩, 0⟩ = l[k] := by rw [List.getD_eq_getElem?_getD, List.getElem?_eq_getElem hlt]; rfl
    rw [gk] at hc
    have HC := Lib.hid (fun q os => ((HB1.out q os).cell (p := ⟨b, o + k * 2, none⟩) hb).trans hc)
    have HH : Hid (hasE l nm = decide (l[k].name = nm)) := by
      show _ = _
      rw [Bool.eq_iff_iff, hhas, decide_eq_true_iff]
      exact ⟨fun ⟨_, h⟩ => h, fun h => ⟨hlt, h⟩⟩
    generalize hasE l nm = r at *
    generalize l[k].name = s at *
    have k1 : (k : Int) < (l.length : Int) := by omega
    have k2 : (0 : Int) ≤ (k : Int) := by omega
    have k3 : decide ((k : Int) < (l.length : Int)) = true := decide_eq_true k1
    have k4 : decide (k < l.length) = true := decide_eq_true hlt
    clear hS hW0 hB0 ca cx hcell hk hhas hc gk h hr eg hsize
    by_cases he : s = nm
    · have e1 : (s.toList == nm.toList) = true := by rw [he]; simp
      have e2 : r = true := by rw [HH.out, he]; simp
      subst e2
      clear HH he
      go_enter Tryz.func14, Tryz.ntmps14
      go_wp2_with (go_at_call 30; rw [← HW.out]; refine HS.out.mono ?_; rintro e w' ⟨rfl, q, os, rfl⟩; have B1 := Lib.hid (HB1.out q os); have ca := CA.out q os; have cx := CX.out q os; have hc := HC.out q os; generalize grow _ _ = w1 at *)
      go_quiet (fail)
      go_wp2
      go_ret2
      exact ⟨rfl, below_drewN B1.out _⟩
    · have e1 : (s.toList == nm.toList) = false := by simpa using str_ne he
      have e2 : r = false := by rw [HH.out]; simp [he]
      subst e2
      clear HH he
      go_enter Tryz.func14, Tryz.ntmps14
      go_wp2_with (go_at_call 30; rw [← HW.out]; refine HS.out.mono ?_; rintro e w' ⟨rfl, q, os, rfl⟩; have B1 := Lib.hid (HB1.out q os); have ca := CA.out q os; have cx := CX.out q os; have hc := HC.out q os; generalize grow _ _ = w1 at *)
      go_quiet (fail)
      go_wp2
      go_ret2
      exact ⟨rfl, below_drewN B1.out _⟩
  · have HH : hasE l nm = false := by
      cases h : hasE l nm with
      | false => rfl
      | true => exact absurd (hhas.1 h).1 hlt
    rw [HH]
    have k1 : ¬ (k : Int) < (l.length : Int) := by omega
    have k3 : decide ((k : Int) < (l.length : Int)) = false := decide_eq_false k1
    have k4 : decide (k < l.length) = false := decide_eq_false hlt
    clear hS hW0 hB0 ca cx hcell hk hhas h hr eg hsize HH
    go_enter Tryz.func14, Tryz.ntmps14
    go_wp2_with (go_at_call 30; rw [← HW.out]; refine HS.out.mono ?_; rintro e w' ⟨rfl, q, os, rfl⟩; have B1 := Lib.hid (HB1.out q os); have ca := CA.out q os; have cx := CX.out q os; generalize grow _ _ = w1 at *)
    go_quiet (fail)
    go_wp2
    go_ret2
    exact ⟨rfl, below_drewN B1.out _⟩
end Go.Proofs.YtoanladhikdcaaaGreat

namespace Go.Proofs.YtoanladhikdcaaaGreat
open Go.RowKit
set_option linter.unusedVariables false
set_option linter.unusedSimpArgs false
set_option maxRecDepth 100000
/-- what is told: a row of entries of one's own, a code -/
def ListPost (o : List EntV × Int) (w : World) (e : Ending) (w' : World) : Prop := (∃ v, e = .returned (.tuple #[v, .int .i64 o.2]) ∧ OwnEnts o.1 w v w') ∧ Below w.heap.size w w'
theorem ListPost.none {w w' : World} {c : Int} (h : Below w.heap.size w w') : ListPost ([], c) w (.returned (.tuple #[.slice none 0 0, .int .i64 c])) w' := ⟨⟨_, rfl, World.ownsRow_nil _ _ _ _⟩, h⟩
theorem readO_dir {xs : List ByteArray} {n : Int} (h : inoE xs n = 0) : ∃ d, readO xs n 0 8960 = (d, 0) ∧ d.length ≤ 8960 ∧ readO xs n 0 (((getR xs n).getD 3 0 : Nat) : Int) = (d, 0) := by
  unfold readO
  rw [if_neg (by rw [h]; simp), if_neg (by omega), if_neg (by rw [h]; simp), if_neg (by omega)]
  refine ⟨_, rfl, ?_, ?_⟩
  · have := sizeX_le (getR xs n)
    unfold readX spanX
    rw [List.length_map, List.length_range']
    omega
  · have e : min (((0 : Int).toNat + ((((getR xs n).getD 3 0 : Nat) : Int)).toNat)) (sizeX (getR xs n)) = min ((0 : Int).toNat + (8960 : Int).toNat) (sizeX (getR xs n)) := by
      unfold sizeX
      rw [Int.toNat_natCast]
      show min (0 + _) _ = min (0 + 8960) _
      omega
    unfold readX
    rw [e]
theorem listO_len {xs : List ByteArray} {n : Int} : (listO xs n).1.length ≤ 280 := by
  unfold listO
  split
  · simp
  · split
    · simp
    · rename_i h0 _
      obtain ⟨d, hd, hl, _⟩ := readO_dir (Classical.not_not.1 h0)
      rw [hd]
      cases h : entsO d with
      | none => simp
      | some l =>
        have := (entsO_some h).2.2
        show l.length ≤ 280
        omega
set_option maxHeartbeats 4000000 in
theorem list_any (A : Option Addr) (c : Nat) (xs : List ByteArray) (n : Int) (w : World) (hx : xs.length ≤ 1000000) (h : RowAt w w.heap.size A (xs.map .string)) :
    Calls Tryz.prog 13 #[.slice A xs.length c, .int .i64 n] w (ListPost (listO xs n) w) := by
  have CG := Lib.hid (get_ino A c xs n w hx h)
  have HR := Lib.hid h
  obtain ⟨a0, a1, a2, a3, a4, a5, a6, a7, a8, a9, a10, a11, hg⟩ := len12 (getR_len xs n)
  have HO : Hid (listO xs n = if inoE xs n ≠ 0 then ([], inoE xs n) else if a0 ≠ 2 then ([], 11) else match entsO (readO xs n 0 8960).1 with | none => ([], 3) | some l => (l, 0)) := by show _ = _; unfold listO; rw [hg]; rfl
  have CR := Lib.hid (fun w h => read_any A c xs n 0 8960 w hx h)
  have HD : Hid (inoE xs n = 0 → _) := fun h => readO_dir (n := n) h
  rw [hg] at CG
  unfold inoC at CG
  simp only [List.map_cons, List.map_nil] at CG
  have HI := Lib.hid (Below.refl 0 w)
  clear hg h
  generalize listO xs n = o at *
  by_cases h0 : inoE xs n = 0
  · obtain ⟨d, hd, hd2, _⟩ := HD.out h0
    rw [hd] at CR HO
    rw [h0] at CG HO
    unfold ReadPost at CR
    dsimp only at CR HO
    clear HD h0 hd
    by_cases hk : a0 = 2
    · subst hk
      have CE := Lib.hid (fun w => entries_any ⟨d.toArray⟩ w (by show d.toArray.size ≤ _; rw [List.size_toArray]; exact hd2))
      dsimp only at CE
      have HO2 : Hid (o = match entsO d with | none => ([], 3) | some l => (l, 0)) := HO.out
      generalize entsO d = eo at *
      unfold EntsPost at CE
      cases eo with
      | none =>
        have HO3 : Hid (o = ([], 3)) := HO2.out
        clear HO HO2
        simp only [Option.isSome_none] at CE
        go_enter Tryz.func13, Tryz.ntmps13
        go_wp2_with fail
        refine CG.out.mono ?_
        rintro e w1 ⟨rfl, hb1⟩
        have B1 := Lib.hid hb1
        clear hb1 CG
        go_wp2_with fail
        generalize hw2 : World.alloc w1 _ = w2
        have B2 := Lib.hid (hw2 ▸ B1.out.alloc B1.out.size _ : Below w.heap.size w w2)
        clear hw2 B1
        refine (CR.out _ ((HR.out.below B2.out).mono B2.out.size)).mono ?_
        rintro e w3 ⟨rfl, hb3⟩
        have B3 := Lib.hid (B2.out.trans (hb3.mono B2.out.size))
        clear hb3 CR HR
        go_wp2_with fail
        refine (CE.out _).mono ?_
        rintro e w4 ⟨⟨v, rfl, hv⟩, hb4⟩
        have B4 := Lib.hid (B3.out.trans (hb4.mono B3.out.size))
        clear hb4 CE hv
        go_wp2
        go_ret2
        rw [HO3.out]
        exact ListPost.none B4.out
      | some l =>
        have HO3 : Hid (o = (l, 0)) := HO2.out
        clear HO HO2
        simp only [Option.isSome_some, Option.getD_some] at CE
        go_enter Tryz.func13, Tryz.ntmps13
        go_wp2_with fail
        refine CG.out.mono ?_
        rintro e w1 ⟨rfl, hb1⟩
        have B1 := Lib.hid hb1
        clear hb1 CG
        go_wp2_with fail
        generalize hw2 : World.alloc w1 _ = w2
        have B2 := Lib.hid (hw2 ▸ B1.out.alloc B1.out.size _ : Below w.heap.size w w2)
        clear hw2 B1
        refine (CR.out _ ((HR.out.below B2.out).mono B2.out.size)).mono ?_
        rintro e w3 ⟨rfl, hb3⟩
        have B3 := Lib.hid (B2.out.trans (hb3.mono B2.out.size))
        clear hb3 CR HR
        go_wp2_with fail
        refine (CE.out _).mono ?_
        rintro e w4 ⟨⟨v, rfl, hv⟩, hb4⟩
        have B4 := Lib.hid (B3.out.trans (hb4.mono B3.out.size))
        have HV : Hid (OwnEnts l w v w4) := own_low hv B3.out.size
        clear hb4 CE hv
        go_wp2
        go_ret2
        rw [HO3.out]
        exact ⟨⟨_, rfl, HV.out⟩, B4.out⟩
    · have HO3 : Hid (o = ([], 11)) := by
        show _ = _
        rw [HO.out, if_neg (by simp), if_pos hk]
      have hk1 : (((a0 : Nat) : Int) != 2) = true := by simp; omega
      clear HO CR
      go_enter Tryz.func13, Tryz.ntmps13
      go_wp2_with fail
      refine CG.out.mono ?_
      rintro e w1 ⟨rfl, hb1⟩
      have B1 := Lib.hid hb1
      clear hb1 CG
      go_wp2
      go_ret2
      rw [HO3.out]
      exact ListPost.none (B1.out.alloc B1.out.size _)
  · have HO3 : Hid (o = ([], inoE xs n)) := by
      show _ = _
      rw [HO.out, if_pos h0]
    have hk1 : (inoE xs n != 0) = true := by simpa using h0
    generalize inoE xs n = ie at *
    clear HO CR HD h0
    go_enter Tryz.func13, Tryz.ntmps13
    go_wp2_with fail
    refine CG.out.mono ?_
    rintro e w1 ⟨rfl, hb1⟩
    have B1 := Lib.hid hb1
    clear hb1 CG
    go_wp2
    go_ret2
    rw [HO3.out]
    exact ListPost.none (B1.out.alloc B1.out.size _)
theorem OwnEnts.read2 {l : List EntV} {w w' : World} {v : Value} (h : OwnEnts l w v w') : ∃ A c, v = .slice A l.length c ∧ EntsAt w' w'.heap.size A l := h.read
end Go.Proofs.YtoanladhikdcaaaGreat

namespace Go.Proofs.YtoanladhikdcaaaGreat
open Go.RowKit
set_option linter.unusedVariables false
set_option linter.unusedSimpArgs false
set_option maxRecDepth 100000
theorem OwnEnts.form {l : List EntV} {w w' : World} {v : Value} (h : OwnEnts l w v w') : v = .slice none 0 0 ∧ l = [] ∨ ∃ g c, v = .slice (some ⟨g, 0, none⟩) l.length c ∧ l.length ≤ c ∧ c ≤ maxLen ∧ w.heap.size ≤ g ∧ g < w'.heap.size ∧ ∀ j u, (entC l)[j]? = some u → w'.cell? ⟨g, j, none⟩ = some u := by
  have h2 := h
  obtain ⟨h1, h3⟩ := h2
  rcases h3 with ⟨hv, hn⟩ | ⟨g, cap, cur, hv, hg, hh, hnc, hm, hsz, ht⟩
  · exact .inl ⟨hv, List.eq_nil_of_length_eq_zero hn⟩
  · subst hv
    refine .inr ⟨g, cap, rfl, hnc, hm, hg, ?_, fun j u hu => ?_⟩
    · rcases Nat.lt_or_ge g w'.heap.size with hlt | hge
      · exact hlt
      · rw [Array.getElem?_eq_none hge] at hh; cases hh
    · have : cur[j]? = some u := by
        rw [← ht, List.getElem?_take] at hu
        split at hu
        · simpa using hu
        · cases hu
      simp [World.cell?, hh, this]
theorem one_ent (w : World) (nm : ByteArray) (ino : Int) : ∀ j u, [Value.string nm, Value.int .i64 ino][j]? = some u → (w.alloc (.cells #[.string nm, .int .i64 ino] 49)).cell? ((⟨w.heap.size, 0, none⟩ : Addr).add j) = some u := fun j u hu => by
  have hB := Blk.new w 49 #[.string nm, .int .i64 ino]
  rw [add_zero_addr, Nat.zero_add]
  exact hB.cell j (by simpa using hu)
theorem row_drop {w w' : World} {g k : Nat} {l : List EntV} (hb : Below w.heap.size w w') (hg : g < w.heap.size) (h : ∀ j u, (entC l)[j]? = some u → w.cell? ⟨g, j, none⟩ = some u) {j : Nat} {u : Value} (hu : (entC (l.drop k))[j]? = some u) :
    w'.cell? ((⟨g, k * 2, none⟩ : Addr).add j) = some u := by
  rw [Addr.add_mid]
  refine (hb.cell (p := ⟨g, k * 2 + j, none⟩) hg).trans (h _ _ ?_)
  rw [← entC_drop, List.getElem?_drop] at hu
  exact hu
theorem row_past {w : World} {g k : Nat} {l : List EntV} (h : l.length ≤ k) {j : Nat} {u : Value} (hu : (entC (l.drop k))[j]? = some u) : w.cell? ((⟨g, 0, none⟩ : Addr).add j) = some u := by
  rw [List.drop_eq_nil_of_le h] at hu
  simp [entC] at hu
theorem add_row {w : World} {base k : Nat} {v : Value} {l L2 : List EntV} {nm : ByteArray} {ino : Int} (h : w.ownsRow base 49 2 v (0 + k + 1 + (l.length - k)) ([] ++ entC (l.take k) ++ [.string nm, .int .i64 ino] ++ entC (l.drop k))) (hk : k ≤ l.length)
    (he : entC (l.take k) ++ [Value.string nm, Value.int .i64 ino] ++ entC (l.drop k) = entC L2) : w.ownsRow base 49 2 v (l.length + 1) (entC L2) := by
  rw [List.nil_append, he, show 0 + k + 1 + (l.length - k) = l.length + 1 by omega] at h
  exact h
set_option maxHeartbeats 8000000 in
theorem add_main (A : Option Addr) (c : Nat) (xs : List ByteArray) (n : Int) (nm : ByteArray) (ino : Int) (w : World) (hx : xs.length ≤ 1000000) (hs : nm.size ≤ 140737488355328) (h : RowAt w w.heap.size A (xs.map .string))
    (hm : mayB nm.data.toList = true) (hi1 : 1 ≤ ino) (hi2 : ino ≤ 64) (h0 : (listO xs n).2 = 0) (hh : hasE (listO xs n).1 nm = false) :
    Calls Tryz.prog 10 #[.slice A xs.length c, .int .i64 n, .string nm, .int .i64 ino] w (RowCode (addO xs n nm ino).1 (addO xs n nm ino).2 w) := by
  have CM := Lib.hid (may_any nm w hs)
  have CL := Lib.hid (fun w h => list_any A c xs n w hx h)
  have HR := Lib.hid h
  have HV := Lib.hid (listO_valid (xs := xs) (n := n))
  have HN := Lib.hid (listO_len (xs := xs) (n := n))
  have ha : addO xs n nm ino = writeO xs n 0 (bytesE (insE (listO xs n).1 ⟨nm, ino⟩)) := by
    unfold addO
    rw [if_neg (by rw [hm]; simp), if_neg (by omega), if_neg (by rw [h0]; simp), if_neg (by rw [hh]; simp)]
  rw [ha]
  clear ha
  rw [hm] at CM
  generalize listO xs n = lo at *
  obtain ⟨l, le⟩ := lo
  dsimp only at HV HN h0 hh ⊢
  subst h0
  have CS := Lib.hid (fun A c w h => search_any A c l nm w HN.out HV.out.rise h)
  rw [hh] at CS
  have HVI := Lib.hid (insE_valid (x := ⟨nm, ino⟩) HV.out (by unfold okE; dsimp only; rw [hm, Bool.true_and, decide_eq_true_iff]; exact ⟨hi1, hi2⟩) hh)
  have hlen := insE_len l ⟨nm, ino⟩
  have hb := bytesE_len HVI.out.ok
  rw [hlen] at hb
  have CB := Lib.hid (fun A c w h => bytes_any A c (insE l ⟨nm, ino⟩) w (by rw [hlen]; have := HN.out; omega) (fun x hx => by have := okE_ok (HVI.out.ok x hx); omega) h)
  have CW := Lib.hid (fun w h => write_any A c xs n 0 ⟨(bytesE (insE l ⟨nm, ino⟩)).toArray⟩ w hx (by omega) (by show (bytesE (insE l ⟨nm, ino⟩)).toArray.size ≤ _; rw [List.size_toArray, hb]; have := HN.out; omega) h)
  rw [hlen] at CB
  dsimp only at CW
  unfold RowCode at CW
  have hat := atE_le l nm
  have HIE : Hid (entC (l.take (atE l nm)) ++ [Value.string nm, Value.int .i64 ino] ++ entC (l.drop (atE l nm)) = entC (insE l ⟨nm, ino⟩)) := by
    show _ = _
    unfold insE
    rw [entC_app, List.append_assoc]
    rfl
  generalize writeO xs n 0 (bytesE (insE l ⟨nm, ino⟩)) = wo at *
  generalize insE l ⟨nm, ino⟩ = L2 at *
  generalize (⟨(bytesE L2).toArray⟩ : ByteArray) = bt at *
  generalize atE l nm = k at *
  obtain ⟨ys, ye⟩ := wo
  dsimp only at CW ⊢
  unfold ListPost at CL
  dsimp only at CL
  obtain ⟨i0, q1, q2, q3, q4⟩ := info_parts ent_info
  have I0 := Lib.hid (And.intro q1 (And.intro q2 (And.intro q3 q4)))
  have HL2 := Lib.hid hlen
  have o1 : ¬ ino < 1 := by omega
  have o2 : ¬ (64 : Int) < ino := by omega
  have o3 : decide (ino < 1) = false := decide_eq_false o1
  clear q1 q2 q3 q4 h hm hh hlen hb HVI
  go_enter Tryz.func10, Tryz.ntmps10
  go_wp2_with fail
  refine CM.out.mono ?_
  rintro e w1 ⟨rfl, hb1⟩
  have B1 := Lib.hid hb1
  clear hb1 CM
  go_wp2_with fail
  refine (CL.out _ ((HR.out.below B1.out).mono B1.out.size)).mono ?_
  rintro e w2 ⟨⟨v, rfl, hv⟩, hb2⟩
  have B2 := Lib.hid (B1.out.trans (hb2.mono B1.out.size))
  obtain ⟨A2, c2, hA2, hr2⟩ := OwnEnts.read2 hv
  have HF := Lib.hid (hA2 ▸ hv.form)
  have R2 := Lib.hid hr2
  subst hA2
  clear hb2 hv hr2 CL
  go_wp2_with fail
  refine (CS.out _ _ _ R2.out).mono ?_
  rintro e w3 ⟨rfl, hb3⟩
  have B3 := Lib.hid (B2.out.trans (hb3.mono B2.out.size))
  have R3 := Lib.hid ((R2.out.below hb3).mono hb3.size)
  have G0 := Lib.hid (Below.refl w3.heap.size w3)
  have H17 : Hid (∀ u ∈ [Value.string nm, Value.int .i64 ino], u.oneCell' = true) := fun u hu => by
    rcases List.mem_cons.1 hu with rfl | hu
    · rfl
    · rcases List.mem_cons.1 hu with rfl | hu
      · rfl
      · cases hu
  have HN280 := HN.out
  rcases HF.out with ⟨hv, hl⟩ | ⟨g, cc, hv, hc1, hc2, hg1, hg2, hcells⟩
  · injection hv with e1 e2 e3
    subst e1
    subst e3
    subst hl
    obtain rfl : k = 0 := by simpa using hat
    have HL1 : Hid (L2.length = 1) := HL2.out
    have CB1 : Hid (∀ A c w, EntsAt w w.heap.size A L2 → Calls Tryz.prog 15 #[.slice A 1 c] w fun e w' => e = .returned (.string bt) ∧ Below w.heap.size w w') := CB.out
    have HIE1 : Hid ([] ++ [Value.string nm, Value.int .i64 ino] = entC L2) := by
      show _ = _
      have := HIE.out
      simpa [entC] using this
    have G5 := Lib.hid (G0.out.alloc G0.out.size (.cells #[.string nm, .int .i64 ino] 49))
    have HC5 := Lib.hid (one_ent w3 nm ino)
    clear hb3 CS R2 HF e2 CB HIE HL2
    go_wp2_with (first
      | (at_builtin; refine wpList_append_own_none rfl (.const (.slice none 0 0)) (.tmp 42) 39 rfl w3.heap.size 49 i0 2 Tryz.underlying39 I0.out.1 _ 0 [] rfl (World.ownsRow_nil _ _ _ _) rfl ?_)
      | (at_builtin; refine wpList_append_own _ rfl (.tmp 44) (.tmp 48) 39 rfl w3.heap.size 49 i0 (.agg #[.string ⟨#[]⟩, .int .i64 0]) 2 24 Tryz.underlying39 I0.out.1 I0.out.2.1 I0.out.2.2.1 I0.out.2.2.2 rfl (by decide) _ 0 [] rfl (World.ownsRow_nil _ _ _ _) ⟨w3.heap.size, 0, none⟩ 1 1 [.string nm, .int .i64 ino] rfl rfl HC5.out H17.out (by unfold maxLen; omega) (by omega) G5.out.size ?_; intro v6 w6 own hg hv6; have G8 := Lib.hid (G5.out.grown hg G5.out.size (fun j e => by cases e)); have O9 : Hid (w6.ownsRow w3.heap.size 49 2 v6 1 (entC L2)) := HIE1.out ▸ own; clear own hg hv6 HC5 G5)
      | (at_builtin; refine wpList_append_own_none rfl (.tmp 52) (.tmp 55) 39 rfl w3.heap.size 49 i0 2 Tryz.underlying39 I0.out.1 _ 1 (entC L2) rfl O9.out rfl ?_; obtain ⟨A8, c8, hv8, hr8⟩ := own_ents O9.out HL1.out; subst hv8; have R8 := Lib.hid hr8; clear hr8)
      | (go_at_call 15; refine (CB1.out _ _ _ R8.out).mono ?_; rintro e w9 ⟨rfl, hb9⟩; have B9 := Lib.hid (B3.out.trans ((G8.out.trans (hb9.mono G8.out.size)).mono B3.out.size)); clear hb9)
      | (go_at_call 16; refine (CW.out _ ((HR.out.below B9.out).mono B9.out.size)).mono ?_; rintro e w10 ⟨⟨v, rfl, hv⟩, hb10⟩; have O10 := Lib.hid (own_low hv B9.out.size); have B10 := Lib.hid (B9.out.trans (hb10.mono B9.out.size)); clear hv hb10))
    go_ret2
    exact ⟨⟨_, rfl, O10.out⟩, B10.out⟩
  · injection hv with e1 e2 e3
    subst e1
    subst e3
    have HC3 : Hid (∀ j u, (entC l)[j]? = some u → w3.cell? ⟨g, j, none⟩ = some u) := fun j u hu => (hb3.cell (p := ⟨g, j, none⟩) hg2).trans (hcells j u hu)
    have HG3 : Hid (g < w3.heap.size) := Nat.lt_of_lt_of_le hg2 hb3.size
    have k1 : (k : Int) ≤ (c2 : Int) := by omega
    have k2 : (0 : Int) ≤ (k : Int) := by omega
    have k3 : (k : Int) ≤ (l.length : Int) := by omega
    have hT : ∀ j u, (entC (l.take k))[j]? = some u → w3.cell? ((⟨g, 0, none⟩ : Addr).add j) = some u := fun j u hu => by
      rw [add_zero_addr, Nat.zero_add]
      refine HC3.out j u ?_
      rw [← entC_take, List.getElem?_take] at hu
      split at hu
      · exact hu
      · cases hu
    have HT := Lib.hid hT
    clear hb3 CS R2 HF hcells e2 hT
    by_cases hkc : k = c2
    · subst hkc
      have HC1 := Lib.hid hc1
      clear hc1
      go_wp2_with (first
        | (at_builtin; refine wpList_append_own _ rfl (.const (.slice none 0 0)) (.tmp 42) 39 rfl w3.heap.size 49 i0 (.agg #[.string ⟨#[]⟩, .int .i64 0]) 2 24 Tryz.underlying39 I0.out.1 I0.out.2.1 I0.out.2.2.1 I0.out.2.2.2 rfl (by decide) _ 0 [] rfl (World.ownsRow_nil _ _ _ _) ⟨g, 0, none⟩ k k (entC (l.take k)) rfl (by rw [entC_len, List.length_take]; omega) HT.out (entC_one _) (by unfold maxLen; omega) (by omega) (Nat.le_refl _) ?_; intro v4 w4 own hg hv4; have O4 : Hid (w4.ownsRow w3.heap.size 49 2 v4 (0 + k) ([] ++ entC (l.take k))) := own; have G4 := Lib.hid (G0.out.grown hg (Nat.le_refl _) (fun j e => by cases e)); have O5 := Lib.hid (World.ownsRow.alloc O4.out (.cells #[.string nm, .int .i64 ino] 49)); have G5 := Lib.hid (G4.out.alloc G4.out.size (.cells #[.string nm, .int .i64 ino] 49)); have HC5 := Lib.hid (one_ent w4 nm ino); clear own hg hv4 HT O4 G4)
        | (at_builtin; refine wpList_append_own _ rfl (.tmp 44) (.tmp 48) 39 rfl w3.heap.size 49 i0 (.agg #[.string ⟨#[]⟩, .int .i64 0]) 2 24 Tryz.underlying39 I0.out.1 I0.out.2.1 I0.out.2.2.1 I0.out.2.2.2 rfl (by decide) _ (0 + k) ([] ++ entC (l.take k)) rfl O5.out ⟨w4.heap.size, 0, none⟩ 1 1 [.string nm, .int .i64 ino] rfl rfl HC5.out H17.out (by unfold maxLen; omega) (by omega) G5.out.size ?_; intro v6 w6 own hg hv6; have O6 : Hid (w6.ownsRow w3.heap.size 49 2 v6 (0 + k + 1) ([] ++ entC (l.take k) ++ [Value.string nm, Value.int .i64 ino])) := own; have G6 := Lib.hid (G5.out.grown hg G5.out.size (fun j e => (O5.out.lt j e).1)); have HC6 := Lib.hid (fun j u hu => row_past (w := w6) (g := g) HC1.out (j := j) (u := u) hu); clear own hg hv6 O5 G5 HC5)
        | (at_builtin; refine wpList_append_own _ rfl (.tmp 52) (.tmp 55) 39 rfl w3.heap.size 49 i0 (.agg #[.string ⟨#[]⟩, .int .i64 0]) 2 24 Tryz.underlying39 I0.out.1 I0.out.2.1 I0.out.2.2.1 I0.out.2.2.2 rfl (by decide) _ (0 + k + 1) ([] ++ entC (l.take k) ++ [Value.string nm, Value.int .i64 ino]) rfl O6.out ⟨g, 0, none⟩ (l.length - k) 0 (entC (l.drop k)) rfl (by rw [entC_len, List.length_drop]) HC6.out (entC_one _) (by unfold maxLen; omega) (by omega) G6.out.size ?_; intro v8 w8 own hg hv8; have O8 : Hid (w8.ownsRow w3.heap.size 49 2 v8 (0 + k + 1 + (l.length - k)) ([] ++ entC (l.take k) ++ [.string nm, .int .i64 ino] ++ entC (l.drop k))) := own; have G8 := Lib.hid (G6.out.grown hg G6.out.size (fun j e => (O6.out.lt j e).1)); have O9 : Hid (w8.ownsRow w3.heap.size 49 2 v8 (l.length + 1) (entC L2)) := add_row O8.out hat HIE.out; obtain ⟨A8, c8, hv8, hr8⟩ := own_ents O9.out HL2.out; subst hv8; have R8 := Lib.hid hr8; clear own hg O6 G6 HC6 O8 hr8)
        | (go_at_call 15; refine (CB.out _ _ _ R8.out).mono ?_; rintro e w9 ⟨rfl, hb9⟩; have B9 := Lib.hid (B3.out.trans ((G8.out.trans (hb9.mono G8.out.size)).mono B3.out.size)); clear hb9)
        | (go_at_call 16; refine (CW.out _ ((HR.out.below B9.out).mono B9.out.size)).mono ?_; rintro e w10 ⟨⟨v, rfl, hv⟩, hb10⟩; have O10 := Lib.hid (own_low hv B9.out.size); have B10 := Lib.hid (B9.out.trans (hb10.mono B9.out.size)); clear hv hb10))
      go_ret2
      exact ⟨⟨_, rfl, O10.out⟩, B10.out⟩
    · have k4 : ¬ c2 = k := fun e => hkc e.symm
      have k5 : (k : Int) < (c2 : Int) := by omega
      go_wp2_with (first
        | (at_builtin; refine wpList_append_own _ rfl (.const (.slice none 0 0)) (.tmp 42) 39 rfl w3.heap.size 49 i0 (.agg #[.string ⟨#[]⟩, .int .i64 0]) 2 24 Tryz.underlying39 I0.out.1 I0.out.2.1 I0.out.2.2.1 I0.out.2.2.2 rfl (by decide) _ 0 [] rfl (World.ownsRow_nil _ _ _ _) ⟨g, 0, none⟩ k c2 (entC (l.take k)) rfl (by rw [entC_len, List.length_take]; omega) HT.out (entC_one _) (by unfold maxLen; omega) (by omega) (Nat.le_refl _) ?_; intro v4 w4 own hg hv4; have O4 : Hid (w4.ownsRow w3.heap.size 49 2 v4 (0 + k) ([] ++ entC (l.take k))) := own; have G4 := Lib.hid (G0.out.grown hg (Nat.le_refl _) (fun j e => by cases e)); have O5 := Lib.hid (World.ownsRow.alloc O4.out (.cells #[.string nm, .int .i64 ino] 49)); have G5 := Lib.hid (G4.out.alloc G4.out.size (.cells #[.string nm, .int .i64 ino] 49)); have HC5 := Lib.hid (one_ent w4 nm ino); clear own hg hv4 HT O4 G4)
        | (at_builtin; refine wpList_append_own _ rfl (.tmp 44) (.tmp 48) 39 rfl w3.heap.size 49 i0 (.agg #[.string ⟨#[]⟩, .int .i64 0]) 2 24 Tryz.underlying39 I0.out.1 I0.out.2.1 I0.out.2.2.1 I0.out.2.2.2 rfl (by decide) _ (0 + k) ([] ++ entC (l.take k)) rfl O5.out ⟨w4.heap.size, 0, none⟩ 1 1 [.string nm, .int .i64 ino] rfl rfl HC5.out H17.out (by unfold maxLen; omega) (by omega) G5.out.size ?_; intro v6 w6 own hg hv6; have O6 : Hid (w6.ownsRow w3.heap.size 49 2 v6 (0 + k + 1) ([] ++ entC (l.take k) ++ [Value.string nm, Value.int .i64 ino])) := own; have G6 := Lib.hid (G5.out.grown hg G5.out.size (fun j e => (O5.out.lt j e).1)); have HC6 := Lib.hid (fun j u hu => row_drop (G6.out) HG3.out HC3.out (k := k) (j := j) (u := u) hu); clear own hg hv6 O5 G5 HC5)
        | (at_builtin; refine wpList_append_own _ rfl (.tmp 52) (.tmp 55) 39 rfl w3.heap.size 49 i0 (.agg #[.string ⟨#[]⟩, .int .i64 0]) 2 24 Tryz.underlying39 I0.out.1 I0.out.2.1 I0.out.2.2.1 I0.out.2.2.2 rfl (by decide) _ (0 + k + 1) ([] ++ entC (l.take k) ++ [Value.string nm, Value.int .i64 ino]) rfl O6.out ⟨g, k * 2, none⟩ (l.length - k) (c2 - k) (entC (l.drop k)) rfl (by rw [entC_len, List.length_drop]) HC6.out (entC_one _) (by unfold maxLen; omega) (by omega) G6.out.size ?_; intro v8 w8 own hg hv8; have O8 : Hid (w8.ownsRow w3.heap.size 49 2 v8 (0 + k + 1 + (l.length - k)) ([] ++ entC (l.take k) ++ [.string nm, .int .i64 ino] ++ entC (l.drop k))) := own; have G8 := Lib.hid (G6.out.grown hg G6.out.size (fun j e => (O6.out.lt j e).1)); have O9 : Hid (w8.ownsRow w3.heap.size 49 2 v8 (l.length + 1) (entC L2)) := add_row O8.out hat HIE.out; obtain ⟨A8, c8, hv8, hr8⟩ := own_ents O9.out HL2.out; subst hv8; have R8 := Lib.hid hr8; clear own hg O6 G6 HC6 O8 hr8)
        | (go_at_call 15; refine (CB.out _ _ _ R8.out).mono ?_; rintro e w9 ⟨rfl, hb9⟩; have B9 := Lib.hid (B3.out.trans ((G8.out.trans (hb9.mono G8.out.size)).mono B3.out.size)); clear hb9)
        | (go_at_call 16; refine (CW.out _ ((HR.out.below B9.out).mono B9.out.size)).mono ?_; rintro e w10 ⟨⟨v, rfl, hv⟩, hb10⟩; have O10 := Lib.hid (own_low hv B9.out.size); have B10 := Lib.hid (B9.out.trans (hb10.mono B9.out.size)); clear hv hb10))
      go_ret2
      exact ⟨⟨_, rfl, O10.out⟩, B10.out⟩
theorem RowCode.none {w w' : World} {c : Int} (h : Below w.heap.size w w') : RowCode [] c w (.returned (.tuple #[.slice none 0 0, .int .i64 c])) w' := ⟨⟨_, rfl, own_nil _ _⟩, h⟩
set_option maxHeartbeats 4000000 in
theorem add_any (A : Option Addr) (c : Nat) (xs : List ByteArray) (n : Int) (nm : ByteArray) (ino : Int) (w : World) (hx : xs.length ≤ 1000000) (hs : nm.size ≤ 140737488355328) (h : RowAt w w.heap.size A (xs.map .string)) :
    Calls Tryz.prog 10 #[.slice A xs.length c, .int .i64 n, .string nm, .int .i64 ino] w (RowCode (addO xs n nm ino).1 (addO xs n nm ino).2 w) := by
  have CM := Lib.hid (may_any nm w hs)
  cases hm : mayB nm.data.toList with
  | false =>
    have HO : Hid (addO xs n nm ino = ([], 7)) := by show _ = _; unfold addO; rw [if_pos hm]
    rw [hm] at CM
    clear hm h
    go_enter Tryz.func10, Tryz.ntmps10
    go_wp2_with fail
    refine CM.out.mono ?_
    rintro e w1 ⟨rfl, hb1⟩
    have B1 := Lib.hid hb1
    go_wp2
    go_ret2
    rw [HO.out]
    exact RowCode.none B1.out
  | true =>
    by_cases hr : ino < 1 ∨ 64 < ino
    · have HO : Hid (addO xs n nm ino = ([], 2)) := by show _ = _; unfold addO; rw [if_neg (by rw [hm]; simp), if_pos hr]
      rw [hm] at CM
      clear hm h
      by_cases h1 : ino < 1
      · have o3 : decide (ino < 1) = true := decide_eq_true h1
        clear hr
        go_enter Tryz.func10, Tryz.ntmps10
        go_wp2_with fail
        refine CM.out.mono ?_
        rintro e w1 ⟨rfl, hb1⟩
        have B1 := Lib.hid hb1
        go_wp2
        go_ret2
        rw [HO.out]
        exact RowCode.none B1.out
      · have o3 : decide (ino < 1) = false := decide_eq_false h1
        have o2 : (64 : Int) < ino := by omega
        have o4 : decide ((64 : Int) < ino) = true := decide_eq_true o2
        clear hr
        go_enter Tryz.func10, Tryz.ntmps10
        go_wp2_with fail
        refine CM.out.mono ?_
        rintro e w1 ⟨rfl, hb1⟩
        have B1 := Lib.hid hb1
        go_wp2
        go_ret2
        rw [HO.out]
        exact RowCode.none B1.out
    · by_cases h0 : (listO xs n).2 = 0
      · cases hh : hasE (listO xs n).1 nm with
        | false => exact add_main A c xs n nm ino w hx hs h hm (by omega) (by omega) h0 hh
        | true =>
          have HO : Hid (addO xs n nm ino = ([], 8)) := by show _ = _; unfold addO; rw [if_neg (by rw [hm]; simp), if_neg hr, if_neg (by rw [h0]; simp), if_pos hh]
          rw [hm] at CM
          have CL := Lib.hid (fun w h => list_any A c xs n w hx h)
          have HV := Lib.hid (listO_valid (xs := xs) (n := n))
          have HN := Lib.hid (listO_len (xs := xs) (n := n))
          have HR := Lib.hid h
          generalize listO xs n = lo at *
          obtain ⟨l, le⟩ := lo
          dsimp only at HV HN h0 hh
          subst h0
          have CS := Lib.hid (fun A c w h => search_any A c l nm w HN.out HV.out.rise h)
          rw [hh] at CS
          unfold ListPost at CL
          dsimp only at CL
          have o1 : ¬ ino < 1 := by omega
          have o2 : ¬ (64 : Int) < ino := by omega
          have o3 : decide (ino < 1) = false := decide_eq_false o1
          clear hm h hr hh
          go_enter Tryz.func10, Tryz.ntmps10
          go_wp2_with fail
          refine CM.out.mono ?_
          rintro e w1 ⟨rfl, hb1⟩
          have B1 := Lib.hid hb1
          clear hb1 CM
          go_wp2_with fail
          refine (CL.out _ ((HR.out.below B1.out).mono B1.out.size)).mono ?_
          rintro e w2 ⟨⟨v, rfl, hv⟩, hb2⟩
          have B2 := Lib.hid (B1.out.trans (hb2.mono B1.out.size))
          obtain ⟨A2, c2, rfl, hr2⟩ := OwnEnts.read2 hv
          have R2 := Lib.hid hr2
          clear hb2 hv hr2 CL
          go_wp2_with fail
          refine (CS.out _ _ _ R2.out).mono ?_
          rintro e w3 ⟨rfl, hb3⟩
          have B3 := Lib.hid (B2.out.trans (hb3.mono B2.out.size))
          clear hb3 CS
          go_wp2
          go_ret2
          rw [HO.out]
          exact RowCode.none B3.out
      · have HO : Hid (addO xs n nm ino = ([], (listO xs n).2)) := by show _ = _; unfold addO; rw [if_neg (by rw [hm]; simp), if_neg hr, if_pos h0]
        rw [hm] at CM
        have CL := Lib.hid (fun w h => list_any A c xs n w hx h)
        have HR := Lib.hid h
        generalize listO xs n = lo at *
        obtain ⟨l, le⟩ := lo
        dsimp only at h0 HO
        unfold ListPost at CL
        dsimp only at CL
        have h01 : (le != 0) = true := by simpa using h0
        have o1 : ¬ ino < 1 := by omega
        have o2 : ¬ (64 : Int) < ino := by omega
        have o3 : decide (ino < 1) = false := decide_eq_false o1
        clear hm h hr h0
        go_enter Tryz.func10, Tryz.ntmps10
        go_wp2_with fail
        refine CM.out.mono ?_
        rintro e w1 ⟨rfl, hb1⟩
        have B1 := Lib.hid hb1
        clear hb1 CM
        go_wp2_with fail
        refine (CL.out _ ((HR.out.below B1.out).mono B1.out.size)).mono ?_
        rintro e w2 ⟨⟨v, rfl, hv⟩, hb2⟩
        have B2 := Lib.hid (B1.out.trans (hb2.mono B1.out.size))
        clear hb2 hv CL
        go_wp2
        go_ret2
        rw [HO.out]
        exact RowCode.none B2.out
end Go.Proofs.YtoanladhikdcaaaGreat
