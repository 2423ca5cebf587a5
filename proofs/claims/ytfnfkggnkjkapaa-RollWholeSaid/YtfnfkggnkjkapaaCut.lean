/-
  What roll.Cut and the document's Cut compute: lists of chunks.
-/
import Derived.Test.YtfnfkggnkjkapaaEnd
namespace Go.Proofs.Ytfnfkggnkjkapaa
open Go.RowKit
set_option linter.unusedVariables false
set_option linter.unusedSimpArgs false

theorem str_info : (Try.prog.info? 9).map (fun i => (i.zero, i.size, i.bytes)) = some (some (.string ⟨#[]⟩), 1, 16) := by kernel_rfl

/-- what Cut hands back: an error -/
def CutNo (w : World) (e : Ending) (w' : World) : Prop := e = .returned (.tuple #[.slice none 0 0, .int .i64 2]) ∧ Below w.heap.size w w'
/-- what Cut hands back: chunks -/
def CutOk (W m M : Nat) (mask : Int) (d : ByteArray) (w : World) (e : Ending) (w' : World) : Prop :=
  ∃ (v : Value) (xs : List ByteArray), e = .returned (.tuple #[v, .int .i64 0]) ∧ w'.ownsRow w.heap.size 9 1 v xs.length (xs.map .string) ∧ Below w.heap.size w w' ∧ P.Cuts W m M mask d.data.toList (xs.map fun x => x.data.toList)

def strLen : Value → Nat | .string x => x.size | _ => 0
theorem ext_pre (x : ByteArray) (n : Nat) : (x.extract 0 n).data.toList = x.data.toList.take n := by rw [Lib.extract_data]; simp
theorem ext_suf (x : ByteArray) (n : Nat) : (x.extract n x.size).data.toList = x.data.toList.drop n := by
  rw [Lib.extract_data, List.take_of_length_le]; simp

set_option maxHeartbeats 400000 in
theorem cut_no (d : ByteArray) (W m M mask : Int) (w : World) (h : ¬ (1 ≤ W ∧ W ≤ 64 ∧ W ≤ m ∧ m ≤ M ∧ M ≤ 65536)) :
    Calls Try.prog 10 #[.string d, cutsV W m M mask] w (CutNo w) := by
  have HC := Lib.hid (chk_no h)
  clear h
  go_enter Try.func10, Try.ntmps10
  go_wp2_with fail
  refine (check_any W m M mask _).mono ?_
  rintro e w' ⟨rfl, hb⟩
  rw [HC.out]
  go_wp2
  go_ret2
  exact ⟨rfl, (((Below.refl _ _).alloc (Nat.le_refl _) _).trans (hb.mono (by simp)))⟩

set_option maxHeartbeats 400000 in
theorem cut_ok (d : ByteArray) (W m M : Nat) (mask : Int) (w : World) (hs : d.size ≤ 100000) (h1 : 1 ≤ W) (hW : W ≤ 64) (hm : W ≤ m) (hM : m ≤ M) (hMM : M ≤ 65536) :
    Calls Try.prog 10 #[.string d, cutsV W m M mask] w (CutOk W m M mask d w) := by
  have HC := Lib.hid (chk_ok (W := (W : Int)) (m := (m : Int)) (M := (M : Int)) ⟨by omega, by omega, by omega, by omega, by omega⟩)
  obtain ⟨i0, hi, hz0, hz1, hz2⟩ := info_parts str_info
  go_enter Try.func10, Try.ntmps10
  go_wp2_with fail
  refine (check_any W m M mask _).mono ?_
  rintro e w' ⟨rfl, hb⟩
  rw [HC.out]
  have g0 := (Blk.new w 24 #[.int .i64 W, .int .i64 m, .int .i64 M, .int .u32 mask]).below hb (by simp)
  have HG0 := Lib.hid g0
  have HB := Lib.hid (((Below.refl _ _).alloc (Nat.le_refl _) _).trans (hb.mono (by simp)) : Below w.heap.size w w')
  clear g0 hb
  go_wp2
  go_loopw [0, 7] (fun s v wr => ∃ (x : ByteArray) (done : List ByteArray), s = .string x ∧ Hid (wr.ownsRow w.heap.size 9 1 v done.length (done.map .string)) ∧ done.length + x.size ≤ d.size ∧
      Hid (Blk wr w.heap.size 24 #[.int .i64 W, .int .i64 m, .int .i64 M, .int .u32 mask]) ∧ Hid (Below w.heap.size w wr) ∧
      Hid (∀ rest, P.Cuts W m M mask x.data.toList rest → P.Cuts W m M mask d.data.toList (done.map (fun x => x.data.toList) ++ rest)))
      (fun s _ _ => strLen s)
  case atStart => exact ⟨d, [], rfl, ⟨by simp, .inl ⟨rfl, rfl⟩⟩, by simp, HG0, HB, fun rest h => by simpa using h⟩
  case round =>
    obtain ⟨x, done, rfl, OWN, hlen, G0, GB, REL⟩ := hrel
    clear HG0 HB
    by_cases hx : 0 < x.size
    · have q : ∀ i v, #[Value.int .i64 W, .int .i64 m, .int .i64 M, .int .u32 mask][i]? = some v → wr.cell? ⟨w.heap.size, i, none⟩ = some v := fun i v h => G0.out.cell i h
      have q0 : wr.cell? ⟨w.heap.size, 0, none⟩ = some (.int .i64 W) := q 0 _ rfl
      have q1 : wr.cell? ⟨w.heap.size, 1, none⟩ = some (.int .i64 m) := q 1 _ rfl
      have q2 : wr.cell? ⟨w.heap.size, 2, none⟩ = some (.int .i64 M) := q 2 _ rfl
      have q3 : wr.cell? ⟨w.heap.size, 3, none⟩ = some (.int .u32 mask) := q 3 _ rfl
      clear q
      have hxl : x.data.toList.length = x.size := by simp
      have hne : x.data.toList ≠ [] := by intro h; rw [h] at hxl; simp at hxl; omega
      have HNE := Lib.hid hne
      have hn1 := P.endN_pos (W := W) (m := m) (M := M) (mask := mask) hne (by omega)
      have hn2 := P.endN_le W m M mask x.data.toList
      rw [hxl] at hn2
      clear hxl hne
      go_wp2_with fail
      refine (end_any x W m M mask _ (by omega) h1 hW hm hM hMM).mono ?_
      rintro e w2 ⟨rfl, hb2⟩
      generalize hgen : P.endN W m M mask x.data.toList = n at hn1 hn2 ⊢
      have HN := Lib.hid hgen
      clear hgen
      have hn3 : n ≤ x.size := by omega
      have own2 := Lib.hid (own_below OWN.out hb2)
      have g2 := Lib.hid (G0.out.below hb2 G0.out.lt)
      have b2 := Lib.hid (GB.out.trans (hb2.mono GB.out.size))
      have hz := GB.out.size
      have hz2' := hb2.size
      clear q0 q1 q2 q3 hb2
      go_wp2_with (first | (at_builtin; refine wpList_append_own _ rfl (.tmp 20) (.tmp 24) 26 rfl w.heap.size 9 i0 (.string ⟨#[]⟩) 1 16 Try.underlying26 hi hz0 hz1 hz2 rfl (by decide) _ done.length (done.map .string) rfl (own2.out.alloc _) ⟨w2.heap.size, 0, none⟩ 1 1 [.string (x.extract 0 n)] rfl rfl ?c1 ?c2 ?c3 ?c4 ?c5 ?_))
      case c1 => exact cell_one_new _ _ _
      case c2 => intro u hu; simp at hu; subst hu; rfl
      case c3 => unfold maxLen; omega
      case c4 => omega
      case c5 => simp; omega
      intro v' w3 hown' hgrow _
      have g3 := Lib.hid ((g2.out.alloc _).grown hgrow (own_ne own2.out g2.out (by decide)))
      have b3 := Lib.hid ((b2.out.alloc (by omega) _).grown hgrow (by simp; omega) (own_row own2.out))
      have own3 := Lib.hid hown'
      clear hown' hgrow
      go_wp2
      go_roundw
      case rel =>
        refine ⟨x.extract n x.size, done ++ [x.extract 0 n], rfl, ?_, ?_, g3, b3, ?_⟩
        · have := own3.out; simp only [List.length_append, List.length_cons, List.length_nil, List.map_append, List.map_cons, List.map_nil, Nat.zero_add]; exact this
        · simp [ByteArray.size_extract]; omega
        · intro rest hr
          have := REL.out _ (P.Cuts.cons HNE.out (by rw [HN.out, ← ext_suf]; exact hr))
          rw [HN.out] at this
          simpa [ext_pre] using this
      case measure => simp [strLen, ByteArray.size_extract]; omega
    · have hx0 : x.data.toList = [] := by
        have hxl : x.data.toList.length = x.size := by simp
        exact List.eq_nil_of_length_eq_zero (by omega)
      have HX := Lib.hid hx0
      clear hx0
      go_wp2
      go_ret2
      exact ⟨_, done, rfl, OWN.out, GB.out, by have := REL.out [] (by rw [HX.out]; exact .nil); simpa using this⟩
end Go.Proofs.Ytfnfkggnkjkapaa
