/-
  law19's great and whole.
-/
import Derived.Test.YtjmafegckfijbaaLaidPl
import Derived.Test.YtjmafegckfijbaaFixed
import Derived.Test.YtjmafegckfijbaaExtRd
import Derived.Test.YtjmafegckfijbaaExtT
namespace Go.Proofs.Ytjmafegckfijbaa
open Go.RowKit
set_option linter.unusedVariables false
set_option linter.unusedSimpArgs false
set_option maxRecDepth 100000
/-- one act, as cells from an address on -/
theorem ActsAt.get {w : World} {B : Nat} {A : Option Addr} {l : List ActV} (h : ActsAt w B A l) {k : Nat} (hk : k < l.length) :
    ∃ b o, A = some ⟨b, o, none⟩ ∧ b < B ∧ w.rangeAt b (o + k * 4) [.int .i64 l[k].kind, .int .i64 l[k].num, .int .i64 l[k].off, .string l[k].data] := by
  rcases h with rfl | ⟨b, o, hA, hlt, hc⟩
  · simp at hk
  · exact ⟨b, o, hA, hlt, fun i u hu => by rw [Nat.add_assoc]; exact hc k l[k] (List.getElem?_eq_getElem hk) i u hu⟩
set_option maxHeartbeats 4000000 in
theorem lgreat_any (A : Option Addr) (c : Nat) (l : List ActV) (w : World) (hl : l.length ≤ maxLen) (h : ActsAt w w.heap.size A l) :
    Calls Try.prog 36 #[.slice A l.length c] w fun e w' => (∃ b : Bool, e = .returned (.bool b)) ∧ Below w.heap.size w w' := by
  have HA := Lib.hid h
  have B := Lib.hid (Below.refl w.heap.size w)
  unfold maxLen at hl
  clear h
  go_enter Try.func36, Try.ntmps36
  go_wp2
  go_loopw [3, 8] (fun s i wr => ∃ (k : Nat) (z : Int), k ≤ l.length ∧ i = .int .i64 k ∧ s = .int .i64 z ∧ Hid (Below w.heap.size w wr)) (fun _ i _ => l.length - (intOf i).toNat)
  case atStart => exact ⟨0, 0, Nat.zero_le _, rfl, rfl, B⟩
  case round =>
    clear B
    obtain ⟨k, z, hk, rfl, rfl, B⟩ := hrel
    by_cases hlt : k < l.length
    · obtain ⟨b, o, rfl, hb, hr⟩ := HA.out.get hlt
      have HR : Hid (wr.rangeAt b (o + k * 4) [.int .i64 l[k].kind, .int .i64 l[k].num, .int .i64 l[k].off, .string l[k].data]) := fun i u hu => (B.out.cell (p := ⟨b, _, none⟩) hb).trans (hr i u hu)
      have i2 : (k : Int) < (l.length : Int) := by omega
      have i3 : (0 : Int) ≤ (k : Int) := by omega
      clear hr
      go_wp2_with (refine wpList_load_mid rfl 55 (.tmp 10) rfl b (o + k * 4) rfl _ _ HR.out Try.underlying55 rfl (by kernel_rfl) ?_; go_frame)
      go_roundw
      case rel => exact ⟨k + 1, _, by omega, by go_num, rfl, B.out.alloc B.out.size _⟩
      case measure => simp [intOf]; omega
    · obtain rfl : k = l.length := by omega
      go_wp2
      go_ret
      exact ⟨⟨_, rfl⟩, B.out⟩
set_option maxHeartbeats 4000000 in
theorem whole19_any (A : Option Addr) (c : Nat) (xs : List ByteArray) (n : Nat) (w : World) (hx : xs.length ≤ 1000000) (h : RowAt w w.heap.size A (xs.map .string)) :
    Calls Try.prog 50 #[.slice A xs.length c, .int .i64 n] w fun e w' => e = .returned (.string ⟨(wholeX xs n).toArray⟩) ∧ Below w.heap.size w w' := by
  have C := Lib.hid (read_any A c xs n 0 8960 w hx h)
  unfold ReadPost at C
  have HW : Hid (wholeX xs n = (readO xs n 0 8960).1) := rfl
  generalize readO xs n 0 8960 = r at *
  obtain ⟨a, b⟩ := r
  dsimp only at *
  go_enter Try.func50, Try.ntmps50
  go_wp2_with fail
  refine C.out.mono ?_
  rintro e w1 ⟨rfl, hb1⟩
  have B1 := Lib.hid hb1
  clear hb1
  go_wp2
  go_ret
  rw [HW.out]
  exact ⟨rfl, B1.out⟩
end Go.Proofs.Ytjmafegckfijbaa
