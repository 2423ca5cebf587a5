/-
  Joined in one text: RDirB, Great20.
-/
import Derived.Test.YtoanladhikdcaaaDirW
import Derived.Test.YtoanladhikdcaaaExtB
import Derived.Test.YtoanladhikdcaaaRGeomA
import Derived.BigQuiet
import Derived.BigRegion
import Derived.ChangeKeysEq
import Derived.Test.YtoanladhikdcaaaLaw18
namespace Go.Proofs.Ytoanladhikdcaaa
open Go.RowKit
set_option linter.unusedVariables false
set_option linter.unusedSimpArgs false
set_option maxRecDepth 100000
/-- so many zeros -/
def zB (j : Nat) : ByteArray := ⟨(List.replicate j 0).toArray⟩
theorem zB_size (j : Nat) : (zB j).size = j := by show (List.replicate j (0 : UInt8)).toArray.size = j; simp
theorem zB_snoc (q : ByteArray) (j : Nat) : q ++ zB j ++ ⟨#[0]⟩ = q ++ zB (j + 1) := by
  apply WideShapes.bytes_inj
  simp [zB, List.replicate_succ']
theorem zB_zero (q : ByteArray) : q ++ zB 0 = q := by
  apply WideShapes.bytes_inj
  simp [zB]
def strSz2 : Value → Nat
  | .string s => s.size
  | _ => 0
set_option maxHeartbeats 1000000 in
theorem rone_any (x : EntV) (w : World) (hn : x.name.size ≤ 28) (hi : 0 ≤ x.ino ∧ x.ino < 65536) : Calls Try.prog 65 #[.agg #[.string x.name, .int .i64 x.ino]] w fun e w' => e = .returned (.string ⟨(entB x).toArray⟩) ∧ Below w.heap.size w w' := by
  obtain ⟨s, ino⟩ := x
  dsimp only at *
  obtain ⟨i, rfl⟩ : ∃ i : Nat, ino = (i : Int) := ⟨ino.toNat, by omega⟩
  obtain ⟨p1, hp1, sp1⟩ : ∃ p, putB2 i 2 = p ∧ p.size = 2 := ⟨_, rfl, putB2_size _ _⟩
  obtain ⟨p2, hp2, sp2⟩ : ∃ p, putB2 s.size 1 = p ∧ p.size = 1 := ⟨_, rfl, putB2_size _ _⟩
  have HJ : Hid ((p1 ++ p2 ++ ⟨#[0]⟩ ++ s ++ zB (28 - s.size) : ByteArray) = ⟨(entB ⟨s, (i : Int)⟩).toArray⟩) := by
    show _ = _
    rw [← hp1, ← hp2]
    unfold entB putB2 zB
    apply WideShapes.bytes_inj
    simp only [ByteArray.data_append, Array.toList_append, List.append_assoc, List.toList_toArray, Int.toNat_natCast]
  obtain ⟨q, hq⟩ : ∃ q, (p1 ++ p2 ++ ⟨#[0]⟩ ++ s : ByteArray) = q := ⟨_, rfl⟩
  have k0 : (⟨#[0]⟩ : ByteArray).size = 1 := rfl
  have HQ : Hid (q.size = s.size + 4) := by show _ = _; rw [← hq, ByteArray.size_append, ByteArray.size_append, ByteArray.size_append]; omega
  have ad1 := fun (w : World) => run_string_add_sum (P := Try.prog) (w := w) p1 p2 (by omega)
  have ad2 := fun (w : World) => run_string_add_sum (P := Try.prog) (w := w) (p1 ++ p2) ⟨#[0]⟩ (by rw [ByteArray.size_append]; omega)
  have ad3 := fun (w : World) => run_string_add_sum (P := Try.prog) (w := w) (p1 ++ p2 ++ ⟨#[0]⟩) s (by rw [ByteArray.size_append, ByteArray.size_append]; omega)
  have e1 : IntKind.u64.wrap (i : Int) = (i : Int) := IntWalk.u64_in _ (by omega)
  have e2 : IntKind.u64.wrap (s.size : Int) = (s.size : Int) := IntWalk.u64_in _ (by omega)
  have C1 : Hid (∀ w, Calls Try.prog 95 #[.int .u64 i, .int .i64 2] w fun e w' => e = .returned (.string p1) ∧ Below w.heap.size w w') := fun w => by rw [← hp1]; exact rput_any i 2 w (by omega) (by omega)
  have C2 : Hid (∀ w, Calls Try.prog 95 #[.int .u64 (s.size : Int), .int .i64 1] w fun e w' => e = .returned (.string p2) ∧ Below w.heap.size w w') := fun w => by rw [← hp2]; exact rput_any s.size 1 w (by omega) (by omega)
  have HQ2 := Lib.hid hq
  have HN := Lib.hid hn
  obtain ⟨z, hz⟩ : ∃ z, 28 - s.size = z := ⟨_, rfl⟩
  rw [hq, hz] at HJ
  have HZ := Lib.hid hz
  rw [← HJ.out]
  clear HJ hp1 hp2 hn hi sp1 sp2 k0 hq hz
  go_enter Try.func65, Try.ntmps65
  go_wp2
  generalize hw1 : w.alloc _ = w1
  have G : Hid (Blk w1 w.heap.size 35 #[.string s, .int .i64 i]) := hw1 ▸ Blk.new _ _ _
  have B : Hid (Below w.heap.size w w1) := hw1 ▸ (Below.refl _ _).alloc (Nat.le_refl _) _
  clear hw1
  have u0 : ∀ u : Ext w1, u.val.cell? ⟨w.heap.size, 0, none⟩ = some (.string s) := fun u => u.cell (G.out.cell 0 rfl)
  have u1 : ∀ u : Ext w1, u.val.cell? ⟨w.heap.size, 1, none⟩ = some (.int .i64 i) := fun u => u.cell (G.out.cell 1 rfl)
  refine wp_region_ext (by kernel_rfl) (by kernel_rfl) ?_
  repeat (go_big_quiet_step (first
    | (go_at_call 95; with_reducible exact Ext.call (C1.out _))
    | (go_at_call 95; with_reducible exact Ext.call (C2.out _))))
  refine wpQuiet_nil ?_
  rintro _ ⟨u, rfl⟩
  have B := Lib.hid (B.out.trans (u.below.mono B.out.size))
  generalize u.val = w2 at B
  rw [HQ2.out]
  clear u0 u1 G C1 C2 ad1 ad2 ad3 e1 e2
  rw [show (Value.string q : Value) = .string (q ++ zB 0) by rw [zB_zero]]
  go_wp2
  go_loop [3] (fun t => ∃ j : Nat, j ≤ z ∧ t = .string (q ++ zB j)) (fun t => z + q.size - strSz2 t)
  case atStart => exact ⟨0, Nat.zero_le _, rfl⟩
  case round =>
    obtain ⟨j, hj, rfl⟩ := hrel
    have hsz : (q ++ zB j).size = q.size + j := by rw [ByteArray.size_append, zB_size]
    obtain ⟨b, hb⟩ : ∃ b, q ++ zB j = b := ⟨_, rfl⟩
    rw [hb] at hsz
    by_cases hlt : j < z
    · have c1 : (b.size : Int) < 32 := by have := HQ.out; have := HN.out; have := HZ.out; omega
      have HB : Hid (b ++ ⟨#[0]⟩ = q ++ zB (j + 1)) := by show _ = _; rw [← hb, zB_snoc]
      have ad := fun (w : World) => run_string_add_sum (P := Try.prog) (w := w) b ⟨#[0]⟩ (by show b.size + 1 ≤ _; omega)
      have HM : Hid (z + q.size - strSz2 (.string (b ++ ⟨#[0]⟩)) < z + q.size - strSz2 (.string b)) := by
        show _ - (b ++ ⟨#[0]⟩ : ByteArray).size < _ - b.size
        rw [ByteArray.size_append]
        show _ - (b.size + 1) < _
        omega
      rw [hb]
      clear hsz hb
      go_wp2
      go_round
      case rel => exact ⟨j + 1, by omega, by rw [HB.out]⟩
      case measure => exact HM.out
    · obtain rfl : j = z := by omega
      have c1 : ¬ (b.size : Int) < 32 := by have := HQ.out; have := HN.out; have := HZ.out; omega
      rw [hb]
      have HBQ := Lib.hid hb
      clear hsz hb
      go_wp2
      go_ret
      exact ⟨by rw [HBQ.out]; rfl, B.out⟩
theorem bytesE_snoc (l : List EntV) (k : Nat) (hk : k < l.length) : bytesE (l.take (k + 1)) = bytesE (l.take k) ++ entB l[k] := by
  rw [List.take_succ_eq_append_getElem hk, bytesE_app]
  congr 1
  show entB l[k] ++ [] = entB l[k]
  rw [List.append_nil]
set_option maxHeartbeats 4000000 in
theorem rbytesE_any (A : Option Addr) (c : Nat) (l : List EntV) (w : World) (hl : l.length ≤ 1000) (hn : ∀ x ∈ l, x.name.size ≤ 28 ∧ 0 ≤ x.ino ∧ x.ino < 65536) (h : EntsAt w w.heap.size A l) :
    Calls Try.prog 34 #[.slice A l.length c] w fun e w' => e = .returned (.string ⟨(bytesE l).toArray⟩) ∧ Below w.heap.size w w' := by
  have HN := Lib.hid hn
  have HB : Hid (∀ k, (bytesE (l.take k)).length ≤ 32 * 1000) := fun k => by
    rw [bytes_le _ (fun x hx => (hn x (List.mem_of_mem_take hx)).1), List.length_take]
    omega
  have R0 := Lib.hid h
  have B0 := Lib.hid (Below.refl w.heap.size w)
  clear h hn
  go_enter Try.func34, Try.ntmps34
  go_wp2
  go_loopw [3, 7] (fun t i wr => ∃ k : Nat, k ≤ l.length ∧ i = .int .i64 (k : Int) ∧ t = .string ⟨(bytesE (l.take k)).toArray⟩ ∧ Hid (EntsAt wr w.heap.size A l) ∧ Hid (Below w.heap.size w wr)) (fun _ i _ => l.length - (intOf i).toNat)
  case atStart => exact ⟨0, Nat.zero_le _, rfl, rfl, R0, B0⟩
  case round =>
    clear R0 B0
    obtain ⟨k, hk, rfl, rfl, R, B⟩ := hrel
    by_cases hlt : k < l.length
    · obtain ⟨bA, oA, rfl, hbA, hrA⟩ := R.out.get hlt
      obtain ⟨n1, n2, n3⟩ := HN.out _ (List.getElem_mem hlt)
      have HE := entB_len n1
      have hbk := HB.out k
      have HS : Hid ((⟨(bytesE (l.take k)).toArray⟩ ++ ⟨(entB l[k]).toArray⟩ : ByteArray) = ⟨(bytesE (l.take (k + 1))).toArray⟩) := by
        show _ = _
        rw [bytesE_snoc l k hlt]
        apply WideShapes.bytes_inj
        simp
      have ad := fun (w : World) => run_string_add_sum (P := Try.prog) (w := w) ⟨(bytesE (l.take k)).toArray⟩ ⟨(entB l[k]).toArray⟩ (by
        show (bytesE (l.take k)).toArray.size + (entB l[k]).toArray.size ≤ _
        rw [List.size_toArray, List.size_toArray]
        omega)
      generalize (⟨(bytesE (l.take k)).toArray⟩ : ByteArray) = bk at *
      generalize l[k] = x at *
      have CE := Lib.hid (fun w => rone_any x w n1 ⟨n2, n3⟩)
      generalize (⟨(entB x).toArray⟩ : ByteArray) = eb at *
      obtain ⟨nm, ino⟩ := x
      dsimp only at *
      have HR : Hid (wr.rangeAt bA (oA + k * 2) [.string nm, .int .i64 ino]) := hrA
      have i2 : (k : Int) < (l.length : Int) := by omega
      have i3 : (0 : Int) ≤ (k : Int) := by omega
      clear hrA hbk HE
      go_wp2_with (first
        | (refine wpList_load_mid rfl 35 (.tmp 13) rfl bA (oA + k * 2) rfl _ _ HR.out Try.underlying35 rfl (by kernel_rfl) ?_; go_frame)
        | (go_at_call 65; refine (CE.out _).mono ?_; rintro e w5 ⟨rfl, hb5⟩; have R5 := Lib.hid (R.out.below (hb5.mono B.out.size)); have B5 := Lib.hid (B.out.trans (hb5.mono B.out.size)); clear hb5 R B HR))
      go_roundw
      case rel => exact ⟨k + 1, by omega, by go_num, by rw [HS.out], R5, B5⟩
      case measure => simp [intOf]; omega
    · obtain rfl : k = l.length := by omega
      go_wp2
      go_ret
      exact ⟨by rw [List.take_length]; rfl, B.out⟩
theorem getE_at {l : List EntV} {nm : ByteArray} {k : Nat} (hk : k < l.length) (h : ∀ j (hj : j < k), l[j].name ≠ nm) (e : l[k].name = nm) : getE l nm = l[k].ino := by
  have hs : l = l.take k ++ l[k] :: l.drop (k + 1) := by rw [List.getElem_cons_drop, List.take_append_drop]
  unfold getE
  have hf : (l.take k).find? (fun x => decide (x.name = nm)) = none := by
    rw [List.find?_eq_none]
    intro x hx
    obtain ⟨j, hj, rfl⟩ := List.mem_iff_getElem.1 hx
    rw [List.length_take] at hj
    rw [List.getElem_take]
    simpa using h j (by omega)
  generalize hz : l[k] = z at *
  rw [hs, List.find?_append, hf, List.find?_cons_of_pos (by simp [e])]
  rfl
theorem getE_none {l : List EntV} {nm : ByteArray} (h : ∀ j (hj : j < l.length), l[j].name ≠ nm) : getE l nm = 0 := by
  unfold getE
  have : l.find? (fun x => decide (x.name = nm)) = none := by
    rw [List.find?_eq_none]
    intro x hx
    obtain ⟨j, hj, rfl⟩ := List.mem_iff_getElem.1 hx
    simpa using h j hj
  rw [this]
  rfl
set_option maxHeartbeats 4000000 in
theorem rfind_any (A : Option Addr) (c : Nat) (l : List EntV) (nm : ByteArray) (w : World) (hl : l.length ≤ 1000) (h : EntsAt w w.heap.size A l) :
    Calls Try.prog 32 #[.slice A l.length c, .string nm] w fun e w' => e = .returned (.int .i64 (getE l nm)) ∧ w = w' := by
  have HR := Lib.hid h
  clear h
  go_enter Try.func32, Try.ntmps32
  go_wp2
  go_loop [8] (fun i => ∃ k : Nat, k ≤ l.length ∧ i = .int .i64 (k : Int) ∧ Hid (∀ j (hj : j < k) (hl : j < l.length), l[j].name ≠ nm)) (fun i => l.length - (intOf i).toNat)
  case atStart => exact ⟨0, Nat.zero_le _, rfl, fun j hj => absurd hj (Nat.not_lt_zero _)⟩
  case round =>
    obtain ⟨k, hk, rfl, HA⟩ := hrel
    by_cases hlt : k < l.length
    · obtain ⟨bA, oA, rfl, hbA, hrA⟩ := HR.out.get hlt
      have c0 := hrA 0 _ rfl
      have c1 := hrA 1 _ rfl
      rw [Nat.add_zero] at c0
      have i2 : (k : Int) < (l.length : Int) := by omega
      have i3 : (0 : Int) ≤ (k : Int) := by omega
      by_cases he : l[k].name = nm
      · have HG := Lib.hid (getE_at hlt (fun j hj => HA.out j hj (by omega)) he)
        rw [he] at c0
        have s1 : (nm.toList == nm.toList) = true := by simp
        generalize l[k] = x at *
        clear hrA HA he
        go_wp2
        go_ret
        exact ⟨by rw [HG.out]; rfl, rfl⟩
      · have HE := Lib.hid he
        have s1 : (l[k].name.toList == nm.toList) = false := by simpa using str_ne he
        have HS : Hid (∀ j (hj : j < k + 1) (hl : j < l.length), l[j].name ≠ nm) := fun j hj hl => by
          by_cases e : j = k
          · subst e; exact he
          · exact HA.out j (by omega) hl
        generalize l[k] = x at *
        obtain ⟨xn, xi⟩ := x
        dsimp only at *
        clear hrA HA he HE
        go_wp2
        go_round
        case rel => exact ⟨k + 1, by omega, by go_num, HS⟩
        case measure => simp [intOf]; omega
    · obtain rfl : k = l.length := by omega
      have HG := Lib.hid (getE_none (l := l) (nm := nm) (fun j hj => HA.out j hj hj))
      go_wp2
      go_ret
      exact ⟨by rw [HG.out]; rfl, rfl⟩
/-! ### Same -/
theorem entTy : Try.prog.underlying 35 = some (.struct (Try.prog.fieldsOf 35)) := by kernel_rfl
theorem entH : Try.prog.stoodInHeld 35 = false := by kernel_rfl
theorem ent_neq (nm : ByteArray) (ino : Int) (w : World) : (binOp .neq 35 (.agg #[.string nm, .int .i64 ino]) (.agg #[.string nm, .int .i64 ino])).run Try.prog w = .ok (.bool false) w := by
  rw [run_neq_struct]
  have : (Op.equalIn 10000 35 (.agg #[.string nm, .int .i64 ino]) (.agg #[.string nm, .int .i64 ino])).run Try.prog w = .ok true w := by
    rw [run_equalIn_agg _ _ _ _ _ entTy entH]
    simp [go_sem]
  rw [this]; rfl
set_option maxHeartbeats 4000000 in
theorem rsame_any (A B : Option Addr) (c d : Nat) (l : List EntV) (w : World) (hl : l.length ≤ 1000) (h : EntsAt w w.heap.size A l) (h2 : EntsAt w w.heap.size B l) :
    Calls Try.prog 20 #[.slice A l.length c, .slice B l.length d] w fun e w' => e = .returned (.bool true) ∧ Below w.heap.size w w' := by
  have HA := Lib.hid h
  have HB := Lib.hid h2
  have B0 := Lib.hid (Below.refl w.heap.size w)
  clear h h2
  go_enter Try.func20, Try.ntmps20
  go_wp2
  go_loopw [13] (fun i wr => ∃ k : Nat, k ≤ l.length ∧ i = .int .i64 (k : Int) ∧ Hid (EntsAt wr w.heap.size A l) ∧ Hid (EntsAt wr w.heap.size B l) ∧ Hid (Below w.heap.size w wr)) (fun i _ => l.length - (intOf i).toNat)
  case atStart => exact ⟨0, Nat.zero_le _, rfl, HA, HB, B0⟩
  case round =>
    clear HA HB B0
    obtain ⟨k, hk, rfl, HA, HB, BK⟩ := hrel
    by_cases hlt : k < l.length
    · obtain ⟨b1, o1, rfl, hb1, hr1⟩ := HA.out.get hlt
      obtain ⟨b2, o2, rfl, hb2, hr2⟩ := HB.out.get hlt
      have i2 : (k : Int) < (l.length : Int) := by omega
      have i3 : (0 : Int) ≤ (k : Int) := by omega
      generalize l[k] = x at *
      obtain ⟨nm, ino⟩ := x
      dsimp only at *
      have q1 : Hid (∀ u : Ext wr, u.val.rangeAt b1 (o1 + k * 2) [.string nm, .int .i64 ino]) := fun u j v hv => u.cell (hr1 j v hv)
      have q2 : Hid (∀ u : Ext wr, u.val.rangeAt b2 (o2 + k * 2) [.string nm, .int .i64 ino]) := fun u j v hv => u.cell (hr2 j v hv)
      have hq := fun w => ent_neq nm ino w
      clear hr1 hr2
      go_wp2_with fail
      refine wp_region_ext (by kernel_rfl) (by kernel_rfl) ?_
      repeat (first
        | (go_big_quiet_want; refine quiet_load_mid 35 (.tmp 18) b1 (o1 + k * 2) [.string nm, .int .i64 ino] _ rfl rfl (by rintro _ ⟨u, rfl⟩; exact q1.out u) Try.underlying35 rfl (by kernel_rfl) ?_; go_frame; go_big_quiet_on)
        | (go_big_quiet_want; refine quiet_load_mid 35 (.tmp 22) b2 (o2 + k * 2) [.string nm, .int .i64 ino] _ rfl rfl (by rintro _ ⟨u, rfl⟩; exact q2.out u) Try.underlying35 rfl (by kernel_rfl) ?_; go_frame; go_big_quiet_on)
        | (go_big_quiet_step (fail)))
      refine wpQuiet_nil ?_
      rintro _ ⟨u, rfl⟩
      have HA' := Lib.hid (HA.out.below (u.below.mono BK.out.size))
      have HB' := Lib.hid (HB.out.below (u.below.mono BK.out.size))
      have BK' := Lib.hid (BK.out.trans (u.below.mono BK.out.size))
      generalize u.val = W2 at *
      clear q1 q2 HA HB BK
      go_wp2
      go_roundw
      case rel => exact ⟨k + 1, by omega, by go_num, HA', HB', BK'⟩
      case measure => simp [intOf]; omega
    · obtain rfl : k = l.length := by omega
      go_wp2
      go_ret
      exact ⟨rfl, BK.out⟩
end Go.Proofs.Ytoanladhikdcaaa

namespace Go.Proofs.Ytoanladhikdcaaa
open Go.RowKit
set_option linter.unusedVariables false
set_option linter.unusedSimpArgs false
set_option maxRecDepth 100000
set_option maxHeartbeats 1000000 in
theorem great20_any (A : Option Addr) (c : Nat) (xs : List ByteArray) (w : World) (hx : xs.length ≤ maxLen) (hs : ∀ s ∈ xs, s.size ≤ 9223372036854775807) (h : RowAt w w.heap.size A (xs.map .string)) :
    Calls Try.prog 12 #[.slice A xs.length c] w (GreatPost xs.length w) := by
  unfold maxLen at hx
  have HR := Lib.hid h
  have HS : Hid (∀ j (hj : j < xs.length), xs[j].size ≤ 9223372036854775807) := fun j hj => hs _ (List.getElem_mem hj)
  clear h hs
  go_enter Try.func12, Try.ntmps12
  go_wp2
  go_loop [6] (fun i => ∃ k : Nat, k ≤ xs.length ∧ i = .int .i64 k) (fun i => xs.length - (intOf i).toNat)
  case atStart => exact ⟨0, Nat.zero_le _, rfl⟩
  case round =>
    obtain ⟨k, hk, rfl⟩ := hrel
    by_cases hlt : k < xs.length
    · obtain ⟨b, o, rfl, hb, hc⟩ := row_get HR.out k hlt
      rw [getD_eq xs k hlt] at hc
      have hsz := HS.out k hlt
      generalize xs[k] = s at *
      by_cases h300 : 200 < s.size
      · have h2 : (200 : Int) < (s.size : Int) := by omega
        go_wp2
        go_ret
        exact ⟨⟨1, rfl, .inl rfl⟩, rfl⟩
      · have h2 : ¬ (200 : Int) < (s.size : Int) := by omega
        go_wp2
        go_round
        case rel => exact ⟨k + 1, by omega, by go_num⟩
        case measure => simp [intOf]; omega
    · by_cases h64 : 80 < xs.length
      · have g1 : (80 : Int) < (xs.length : Int) := by omega
        go_wp2
        go_ret
        exact ⟨⟨1, rfl, .inl rfl⟩, rfl⟩
      · have g1 : ¬ (80 : Int) < (xs.length : Int) := by omega
        go_wp2
        go_ret
        exact ⟨⟨0, rfl, .inr ⟨rfl, by omega⟩⟩, rfl⟩
end Go.Proofs.Ytoanladhikdcaaa
