/-
  What the document's with, put and take of layer 19 do.
-/
import Derived.Test.YtjmafegckfijbaaRExtCnt
import Derived.RegionTactic
import Derived.BigRegion
namespace Go.Proofs.Ytjmafegckfijbaa
open Go.RowKit
set_option linter.unusedVariables false
set_option linter.unusedSimpArgs false
set_option maxRecDepth 100000
set_option maxHeartbeats 1000000 in
theorem rwith_any (A : Option Addr) (c : Nat) (xs : List ByteArray) (i : Nat) (s : ByteArray) (w : World) (hi : i < xs.length) (hx : xs.length ≤ 1000000) (h : RowAt w w.heap.size A (xs.map .string)) :
    Calls Try.prog 81 #[.slice A xs.length c, .int .i64 i, .string s] w fun e w' => ∃ v, e = .returned v ∧ OwnRow (xs.set i s) w v w' ∧ Below w.heap.size w w' := by
  obtain ⟨i0, q1, q2, q3, q4⟩ := info_parts str_info
  obtain ⟨b, o, rfl, hb, hc⟩ := h.at_ (by simp; omega)
  have I0 := Lib.hid (And.intro q1 (And.intro q2 (And.intro q3 q4)))
  have B0 : Hid (Below w.heap.size w (w.alloc (.cells #[] 9))) := (Below.refl w.heap.size w).alloc (Nat.le_refl _) _
  have HC : Hid (∀ j u, (xs.map Value.string)[j]? = some u → (w.alloc (.cells #[] 9)).cell? ((⟨b, o, none⟩ : Addr).add j) = some u) := fun j u hu => by
    have : (⟨b, o, none⟩ : Addr).add j = ⟨b, o + j, none⟩ := by unfold Addr.add; split <;> simp_all
    rw [this]; exact (B0.out.cell (p := ⟨b, o + j, none⟩) hb).trans (hc j u hu)
  have H1 := Lib.hid (str_cells xs)
  have HW : Hid ((w.alloc (.cells #[] 9)).ownsRow w.heap.size 9 1 (.slice (some ⟨w.heap.size, 0, none⟩) 0 0) 0 []) := World.ownsRow_lit w #[] 0 (Nat.le_refl _) (by decide) rfl
  have HM : Hid (0 + xs.length ≤ maxLen) := by show _ ≤ _; unfold maxLen; omega
  have HY : Hid ((0 + xs.length) * 16 ≤ 140737488355328) := by show _ ≤ _; omega
  clear h hc q1 q2 q3 q4
  go_enter Try.func81, Try.ntmps81
  go_wp2_with (at_builtin; refine wpList_append_own _ rfl (.tmp 8) (.tmp 9) 22 rfl w.heap.size 9 i0 (.string ⟨#[]⟩) 1 16 Try.underlying22 I0.out.1 I0.out.2.1 I0.out.2.2.1 I0.out.2.2.2 rfl (by decide) _ 0 [] rfl HW.out ⟨b, o, none⟩ xs.length c (xs.map .string) rfl (by rw [List.length_map, Nat.mul_one]) HC.out H1.out HM.out HY.out B0.out.size ?_; intro v w1 own hg hv)
  rw [Nat.zero_add, List.nil_append] at own
  obtain ⟨g, cap, rfl⟩ := Go.Joins.ownsRow_form own (by omega)
  have O1 := Lib.hid own
  have B1 := Lib.hid (B0.out.grown hg B0.out.size (by intro k hk; cases hk; exact Nat.le_refl _))
  have hgb : w.heap.size ≤ g := (own.lt g rfl).1
  have k1 : w1.cell? ⟨g, i, none⟩ = some (.string xs[i]) := by
    rw [own.cellAt i (by omega)]; simp [hi]
  have k2 : w1.frozen? ⟨g, i, none⟩ = false := own.frozenAt i
  have k3 : (i : Int) < (xs.length : Int) := by omega
  have k4 : (0 : Int) ≤ (i : Int) := by omega
  clear own hg hv HW B0 HC
  clear HM HY H1 I0
  go_wp2_with fail
  go_simp
  (first | assumption | go_wp2)
  go_ret
  refine ⟨_, rfl, ?_, B1.out.setCell hgb _⟩
  have := (O1.out.stored i (.string s)).1
  unfold OwnRow
  rwa [List.length_set, List.map_set]
set_option maxHeartbeats 2000000 in
theorem rput19_any (s : ByteArray) (p k : Nat) (w : World) (hs : s.size = 128) (p2 : p + 2 ≤ 128) (hkk : k ≤ 65535) :
    Calls Try.prog 112 #[.string s, .int .i64 (p : Int), .int .i64 (k : Int)] w fun e w' => e = .returned (.string (layB s p (putL k 2))) ∧ Below w.heap.size w w' := by
  obtain ⟨ra, hra⟩ : ∃ ra, k % 256 = ra := ⟨_, rfl⟩
  obtain ⟨qa, hqa⟩ : ∃ qa, k / 256 = qa := ⟨_, rfl⟩
  have ra2 : ra < 256 := by omega
  have qa2 : qa < 256 := by omega
  obtain ⟨st, hst⟩ : ∃ st : ByteArray, (⟨#[UInt8.ofNat ra, UInt8.ofNat qa]⟩ : ByteArray) = st := ⟨_, rfl⟩
  have hstl : st.data.toList = putL k 2 := by
    rw [← hst, putL_succ, putL_succ, hra, hqa, Nat.mod_eq_of_lt qa2]; rfl
  have hst2 : st.size = 2 := by rw [← hst]; rfl
  have HLAY : Hid (layB s p (putL k 2) = s.extract 0 p ++ st ++ s.extract (p + 2) s.size) := by
    show _ = _
    apply WideShapes.bytes_inj
    have e1 := Lib.extract_data s 0 p
    have e2 : (s.extract (p + 2) s.size).data.toList = s.data.toList.drop (p + 2) := by
      rw [Lib.extract_data, List.take_of_length_le]
      rw [List.length_drop, Array.length_toList]; exact Nat.le_refl _
    rw [layB_list, putL_length]
    simp only [ByteArray.data_append, Array.toList_append, e1, e2, List.drop_zero, Nat.sub_zero, hstl]
  have HCV : Hid (∀ (w : World) (g : Nat), Blk w g 5 #[.int .u8 (ra : Int), .int .u8 (qa : Int)] → (convert 62 9 (.slice (some ⟨g, 0, none⟩) 2 2)).run Try.prog w = .ok (.string st) w) := fun w g hb => by
    rw [← hst]
    refine conv_blk (P := Try.prog) (t := 5) 2 ?_ rfl 2 Try.underlying62 Try.underlying5 Try.underlying9
    have e1 : (UInt8.ofNat ra).toNat = ra := by rw [UInt8.toNat_ofNat']; exact Nat.mod_eq_of_lt (by omega)
    have e2 : (UInt8.ofNat qa).toNat = qa := by rw [UInt8.toNat_ofNat']; exact Nat.mod_eq_of_lt (by omega)
    rw [show ((⟨#[UInt8.ofNat ra, UInt8.ofNat qa]⟩ : ByteArray).data.toList.map fun x => Value.int .u8 (x.toNat : Int)).toArray = #[.int .u8 (ra : Int), .int .u8 (qa : Int)] by simp [e1, e2]]
    exact hb
  have ze : ∀ a b, a ≤ b → b ≤ 128 → (s.extract a b).size = b - a := fun a b h1 h2 => by rw [ByteArray.size_extract]; omega
  have ad1 := fun (w : World) => run_string_add_sum (P := Try.prog) (w := w) (s.extract 0 p) st (by rw [ze 0 p (by omega) (by omega)]; omega)
  have ad2 := fun (w : World) => run_string_add_sum (P := Try.prog) (w := w) (s.extract 0 p ++ st) (s.extract (p + 2) s.size) (by rw [ByteArray.size_append, ze 0 p (by omega) (by omega), ze (p + 2) s.size (by omega) (by omega)]; omega)
  have t1 : (k : Int).tmod 256 = (ra : Int) := by rw [← hra]; rfl
  have t2 : (k : Int).tdiv 256 = (qa : Int) := by rw [← hqa]; rfl
  have t3 : (k : Int) % 256 = (ra : Int) := by omega
  have t4 : (k : Int) / 256 = (qa : Int) := by omega
  have t5 : IntKind.u8.wrap (ra : Int) = (ra : Int) := IntWalk.u8_in _ (by omega)
  have t6 : IntKind.u8.wrap (qa : Int) = (qa : Int) := IntWalk.u8_in _ (by omega)
  have t7 : IntKind.i64.wrap (ra : Int) = (ra : Int) := IntWalk.i64_in _ (by omega)
  have t8 : IntKind.i64.wrap (qa : Int) = (qa : Int) := IntWalk.i64_in _ (by omega)
  have s1 : IntKind.i64.wrap ((p : Int) + 2) = (p : Int) + 2 := IntWalk.i64_in _ (by omega)
  have s2 : (0 : Int) ≤ (p : Int) + 2 := by omega
  have s3 : ((p : Int) + 2).toNat = p + 2 := by omega
  have s4 : (p : Int) ≤ (s.size : Int) := by omega
  have s5 : (p : Int) + 2 ≤ (s.size : Int) := by omega
  have s6 : (0 : Int) ≤ (p : Int) := by omega
  have hcv := HCV.out (w.alloc (.cells #[.int .u8 (ra : Int), .int .u8 (qa : Int)] 5)).drew w.heap.size (Blk.new w 5 _).drew
  clear hst ze hstl hs hra hqa
  go_enter Try.func112, Try.ntmps112
  go_wp2
  go_region
  go_wp2
  go_ret
  exact ⟨by rw [HLAY.out]; rfl, ((Below.refl _ _).alloc (Nat.le_refl _) _).drew⟩
end Go.Proofs.Ytjmafegckfijbaa
