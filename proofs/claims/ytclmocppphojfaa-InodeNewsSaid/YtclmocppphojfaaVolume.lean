/-
  law17's Volume: some volume.
-/
import Derived.Test.YtclmocppphojfaaLawGeomReads
namespace Go.Proofs.Ytclmocppphojfaa
open Go.RowKit
set_option linter.unusedVariables false
set_option linter.unusedSimpArgs false
set_option maxRecDepth 100000
def Made (m : Nat) (w : World) (v : Value) (code : Int) (w' : World) : Prop := code = 0 → ∃ ys, OwnRow ys w v w' ∧ IsVol ys m
theorem rtake_made {xs : List ByteArray} {m : Nat} {w w' : World} {e : Ending} (hv : IsVol xs m) (h : RTakePost xs w e w') : (∃ v n code, e = .returned (.tuple #[v, .int .i64 n, .int .i64 code]) ∧ Made m w v code w') ∧ Below w.heap.size w w' := by
  obtain ⟨hb, h⟩ := h
  refine ⟨?_, hb⟩
  rw [ofR_some.2 hv] at h
  dsimp only at h
  have hl := hv.len
  cases hf : freeR xs m with
  | none => rw [hf] at h; exact ⟨_, _, _, h, fun h0 => by cases h0⟩
  | some i =>
    rw [hf] at h
    obtain ⟨v, he, hn⟩ := h
    have hi := (freeR_some (by omega)).1 hf
    exact ⟨v, _, _, he, fun _ => ⟨_, hn, hv.take hi.1 hi.2.1⟩⟩
theorem rgive_made {xs : List ByteArray} {m : Nat} {i : Int} {w w' : World} {e : Ending} (hv : IsVol xs m) (h : RGivePost xs i w e w') : (∃ v code, e = .returned (.tuple #[v, .int .i64 code]) ∧ Made m w v code w') ∧ Below w.heap.size w w' := by
  obtain ⟨hb, h⟩ := h
  refine ⟨?_, hb⟩
  rw [ofR_some.2 hv] at h
  dsimp only at h
  by_cases h1 : i < (dataN m : Int) ∨ (xs.length : Int) ≤ i
  · rw [if_pos h1] at h; exact ⟨_, _, h, fun h0 => by cases h0⟩
  · rw [if_neg h1] at h
    by_cases h2 : bitL (blkL xs 2) i.toNat = false
    · rw [if_pos h2] at h; exact ⟨_, _, h, fun h0 => by cases h0⟩
    · rw [if_neg h2] at h
      obtain ⟨v, he, hn⟩ := h
      exact ⟨v, _, he, fun _ => ⟨_, hn, hv.turn (by omega) (by omega)⟩⟩
theorem own_keep {xs : List ByteArray} {w w1 w2 : World} {v : Value} (h : OwnRow xs w v w1) (hb : Below w1.heap.size w1 w2) : OwnRow xs w v w2 := ownsRow_keep h hb
set_option maxHeartbeats 4000000 in
theorem volume_any (a b : Nat) (A : Option Addr) (c : Nat) (acts : List Int) (w : World) (ha : a < 256) (hb : b < 256) (hn : acts.length ≤ 1000000) (hr : ∀ x ∈ acts, -32768 ≤ x ∧ x < 32768) (h : RowAt w w.heap.size A (acts.map (.int .i16 ·))) :
    Calls Try.prog 31 #[.agg #[.int .u8 a, .int .u8 b], .slice A acts.length c] w fun e w' => (∃ v xs m, e = .returned v ∧ OwnRow xs w v w' ∧ IsVol xs m) ∧ Below w.heap.size w w' := by
  have HR := Lib.hid h
  have HA : Hid (∀ j (hj : j < acts.length), -32768 ≤ acts[j] ∧ acts[j] < 32768) := fun j hj => hr _ (List.getElem_mem hj)
  obtain ⟨m, hm⟩ : ∃ m, 4 + b % 12 = m := ⟨_, rfl⟩
  obtain ⟨n, hnn⟩ : ∃ n, 16 + a % 40 = n := ⟨_, rfl⟩
  have hp : planE (n : Int) (m : Int) = 0 := by
    apply planE_iff.2
    unfold dataN
    omega
  have C1 : Hid (∀ w, Calls Try.prog 18 #[.int .i64 n, .int .i64 m] w fun e w' => (∃ v, e = .returned (.tuple #[v, .int .i64 0]) ∧ OwnRow (fmtV n m) w v w') ∧ Below w.heap.size w w') := fun w => (rformat_any n m w).mono fun e w' h => by
    unfold RFmtPost at h
    rw [if_pos hp, Int.toNat_natCast, Int.toNat_natCast] at h
    exact ⟨h.2, h.1⟩
  have HV : Hid (IsVol (fmtV n m) m) := fmtV_vol hp
  have w1 : (16 : Int) + (a : Int) % 40 = (n : Int) := by omega
  have w2 : (4 : Int) + (b : Int) % 12 = (m : Int) := by omega
  have t1 : (a : Int).tmod 40 = (a : Int) % 40 := Int.tmod_eq_emod_of_nonneg (by omega)
  have t2 : (b : Int).tmod 12 = (b : Int) % 12 := Int.tmod_eq_emod_of_nonneg (by omega)
  have s1 : IntKind.i64.wrap ((a : Int) % 40) = (a : Int) % 40 := IntWalk.i64_in _ (by omega)
  have s2 : IntKind.i64.wrap ((b : Int) % 12) = (b : Int) % 12 := IntWalk.i64_in _ (by omega)
  have s3 : IntKind.i64.wrap (n : Int) = (n : Int) := IntWalk.i64_in _ (by omega)
  have s4 : IntKind.i64.wrap (m : Int) = (m : Int) := IntWalk.i64_in _ (by omega)
  clear h hr hp hm hnn
  go_enter Try.func31, Try.ntmps31
  go_wp2_with fail
  refine (C1.out _).mono ?_
  rintro e w3 ⟨⟨v, rfl, hown⟩, hb3⟩
  have B3 : Hid (Below w.heap.size w w3) := ((Below.refl w.heap.size w).alloc (Nat.le_refl _) _).trans (hb3.mono (by simp))
  have O3 : Hid (OwnRow (fmtV n m) w v w3) := hown.base (by simp)
  clear hown hb3 s1 s2 s3 s4 t1 t2 w1 w2
  go_wp2
  go_loopw [5, 28] (fun v i wr => ∃ k : Nat, k ≤ acts.length ∧ i = .int .i64 k ∧ (∃ xs, Hid (OwnRow xs w v wr) ∧ Hid (IsVol xs m)) ∧ Hid (Below w.heap.size w wr)) (fun _ i _ => acts.length - (intOf i).toNat)
  case atStart => exact ⟨0, Nat.zero_le _, rfl, ⟨_, O3, HV⟩, B3⟩
  case round =>
    obtain ⟨k, hk, rfl, ⟨xs, OW, VO⟩, Y⟩ := hrel
    by_cases hlt : k < acts.length
    · obtain ⟨bb, o, rfl, hbb, hc⟩ := HR.out.at_ (by simp; omega)
      have hck : wr.cell? ⟨bb, o + k, none⟩ = some (.int .i16 acts[k]) := (Y.out.cell (p := ⟨bb, o + k, none⟩) hbb).trans (hc k _ (by simp [hlt]))
      have hrg := HA.out k hlt
      generalize acts[k] = x at *
      have i1 : (0 : Int) ≤ (k : Int) := by omega
      have i2 : (k : Int) < (acts.length : Int) := by omega
      have hvl := VO.out.len
      obtain ⟨A1, c1, rfl, hr1⟩ := OW.out.read
      have R1 := Lib.hid hr1
      clear hc hr1
      go_wp2_with fail
      refine (rtake_any A1 c1 xs _ (by omega) R1.out).mono ?_
      intro e w4 hq
      obtain ⟨⟨v4, n4, code4, rfl, hm4⟩, hb4⟩ := rtake_made VO.out hq
      have M4 : Hid (Made m w v4 code4 w4) := fun h0 => by obtain ⟨ys, a, b⟩ := hm4 h0; exact ⟨ys, a.base Y.out.size, b⟩
      have Y4 := Lib.hid (Y.out.trans (hb4.mono Y.out.size))
      have OW4 := Lib.hid (own_keep OW.out hb4)
      have R4 := Lib.hid ((R1.out.below hb4).mono hb4.size)
      clear hq hm4 hb4 hck
      have wx : IntKind.i64.wrap x = x := IntWalk.i64_in _ (by omega)
      by_cases hx0 : 0 ≤ x
      · go_wp2_with fail
        refine (rgive_any A1 c1 xs x _ (by omega) R4.out).mono ?_
        intro e w5 hq
        obtain ⟨⟨v5, code5, rfl, hm5⟩, hb5⟩ := rgive_made VO.out hq
        have M5 : Hid (Made m w v5 code5 w5) := fun h0 => by obtain ⟨ys, a, b⟩ := hm5 h0; exact ⟨ys, a.base Y4.out.size, b⟩
        have Y5 := Lib.hid (Y4.out.trans (hb5.mono Y4.out.size))
        have OW5 := Lib.hid (own_keep OW4.out hb5)
        clear hq hm5 hb5
        by_cases hc0 : code5 = 0
        · subst hc0
          obtain ⟨ys, o5, i5⟩ := M5.out rfl
          have O5 := Lib.hid o5
          have I5 := Lib.hid i5
          clear o5 i5
          go_wp2
          go_roundw
          case rel => exact ⟨k + 1, by omega, by go_num, ⟨ys, O5, I5⟩, Y5⟩
          case measure => simp [intOf]; omega
        · have hc1 : (code5 == 0) = false := by simpa using hc0
          go_wp2
          go_roundw
          case rel => exact ⟨k + 1, by omega, by go_num, ⟨xs, OW5, VO⟩, Y5⟩
          case measure => simp [intOf]; omega
      · by_cases hc0 : code4 = 0
        · subst hc0
          obtain ⟨ys, o5, i5⟩ := M4.out rfl
          have O5 := Lib.hid o5
          have I5 := Lib.hid i5
          clear o5 i5
          go_wp2
          go_roundw
          case rel => exact ⟨k + 1, by omega, by go_num, ⟨ys, O5, I5⟩, Y4⟩
          case measure => simp [intOf]; omega
        · have hc1 : (code4 == 0) = false := by simpa using hc0
          go_wp2
          go_roundw
          case rel => exact ⟨k + 1, by omega, by go_num, ⟨xs, OW4, VO⟩, Y4⟩
          case measure => simp [intOf]; omega
    · go_wp2
      go_ret
      exact ⟨⟨_, xs, m, rfl, OW.out, VO.out⟩, Y.out⟩
end Go.Proofs.Ytclmocppphojfaa
