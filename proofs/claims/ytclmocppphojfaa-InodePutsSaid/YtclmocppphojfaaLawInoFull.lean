/-
  InodeFull: the walk.
-/
import Derived.Test.YtclmocppphojfaaLawInoCounts
namespace Go.Proofs.Ytclmocppphojfaa
open Go.RowKit
set_option linter.unusedVariables false
set_option linter.unusedSimpArgs false
set_option maxRecDepth 100000
/-- just the inodes below i are taken -/
structure FullI (m i : Nat) (ys : List ByteArray) : Prop where
  vol : IsVol ys m
  len : ys.length = 60
  low : ∀ j, 1 ≤ j → j < i → kindR ys j ≠ 0
  high : ∀ j, i ≤ j → j ≤ m → kindR ys j = 0
theorem new_some {ys : List ByteArray} {m n : Nat} (hv : IsVol ys m) (hf : freeI ys m = some n) {kind ow : Nat} (hk : kind = 1 ∨ kind = 2) (ho : ow < 16) : newO ys (kind : Int) (ow : Int) = (putV ys n (newL kind ow), (n : Int), 0) := by
  unfold newO
  rw [ofR_some.2 hv]
  dsimp only
  rw [if_neg (by omega), hf]
  rfl
theorem FullI.step {m i ow : Nat} {ys : List ByteArray} (h : FullI m i ys) (h1 : 1 ≤ i) (h2 : i ≤ m) (ho : ow < 16) : newO ys 1 (ow : Int) = (putV ys i (newL 1 ow), (i : Int), 0) ∧ FullI m (i + 1) (putV ys i (newL 1 ow)) := by
  have hf : freeI ys m = some i := freeI_some.2 ⟨h1, h2, h.high i (Nat.le_refl _) h2, fun j a b => h.low j a b⟩
  have hfit : FitN (newL 1 ow) := newL_fit (by decide) (by omega)
  refine ⟨new_some h.vol hf (.inl rfl) ho, h.vol.putI h1 h2 _, by rw [putV_length]; exact h.len, fun j a b => ?_, fun j a b => ?_⟩
  · by_cases e : j = i
    · subst e; rw [kind_put_same h.vol h1 h2 hfit]; exact Nat.one_ne_zero
    · rw [kind_put_other h.vol h1 h2 a (by omega) (by omega)]; exact h.low j a (by omega)
  · rw [kind_put_other h.vol h1 h2 (by omega) b (by omega)]; exact h.high j (by omega) b
theorem FullI.count {m i : Nat} {ys : List ByteArray} (h : FullI m (i + 1) ys) (h2 : i ≤ m) : (allO ys).length = i := by
  rw [allO_vol h.vol]
  unfold allR
  obtain ⟨d, rfl⟩ : ∃ d, m = i + d := ⟨m - i, by omega⟩
  rw [← List.range'_append_1, List.filter_append, List.length_append]
  have e1 : (List.range' 1 i).filter (fun n => kindR ys n != 0) = List.range' 1 i := List.filter_eq_self.2 fun j hj => by
    rw [List.mem_range'_1] at hj
    simpa using h.low j hj.1 (by omega)
  have e2 : (List.range' (1 + i) d).filter (fun n => kindR ys n != 0) = [] := List.filter_eq_nil_iff.2 fun j hj => by
    rw [List.mem_range'_1] at hj
    simpa using h.high j (by omega) (by omega)
  rw [e1, e2]
  simp
theorem zero_fit : FitN (List.replicate 12 0) := by
  refine ⟨rfl, fun i => ?_⟩
  have : ∀ i : Fin 12, (List.replicate 12 0).getD (fof i) 0 < 256 ^ fsz i := by decide
  exact this i
theorem FullI.full {m : Nat} {ys : List ByteArray} (h : FullI m (m + 1) ys) : newO ys 2 0 = ([], 0, 10) := by
  unfold newO
  rw [ofR_some.2 h.vol]
  dsimp only
  rw [if_neg (by decide), freeI_none.2 (fun j a b => h.low j a (by omega))]
theorem FullI.again {m k : Nat} {ys : List ByteArray} (h : FullI m (m + 1) ys) (h1 : 1 ≤ k) (h2 : k ≤ m) : newO (putV ys k (List.replicate 12 0)) 2 1 = (putV (putV ys k (List.replicate 12 0)) k (newL 2 1), (k : Int), 0) := by
  have hf : freeI (putV ys k (List.replicate 12 0)) m = some k := freeI_some.2 ⟨h1, h2, kind_put_same h.vol h1 h2 zero_fit, fun j a b => by rw [kind_put_other h.vol h1 h2 a (by omega) (by omega)]; exact h.low j a (by omega)⟩
  exact new_some (h.vol.putI h1 h2 _) hf (kind := 2) (ow := 1) (.inr rfl) (by decide)
/-- New, whatever comes of it -/
theorem new_read (A : Option Addr) (c : Nat) (xs : List ByteArray) (kind owner : Int) (hx : xs.length ≤ 1000000) {ys : List ByteArray} {n code : Int} (ho : newO xs kind owner = (ys, n, code)) (w : World) (h : RowAt w w.heap.size A (xs.map .string)) :
    Calls Try.prog 35 #[.slice A xs.length c, .int .i64 kind, .int .i64 owner] w fun e w' => (∃ A' c', e = .returned (.tuple #[.slice A' ys.length c', .int .i64 n, .int .i64 code]) ∧ RowAt w' w'.heap.size A' (ys.map .string)) ∧ Below w.heap.size w w' :=
  (new_ino A c xs kind owner w hx h).mono fun e w' hq => by
    unfold RowNumCode at hq
    rw [ho] at hq
    obtain ⟨⟨v, he, hn⟩, hb⟩ := hq
    obtain ⟨A', c', rfl, hr⟩ := hn.read
    exact ⟨⟨A', c', he, hr⟩, hb⟩
theorem all_read (A : Option Addr) (c : Nat) (xs : List ByteArray) (hx : xs.length ≤ 1000000) (w : World) (h : RowAt w w.heap.size A (xs.map .string)) :
    Calls Try.prog 40 #[.slice A xs.length c] w fun e w' => (∃ A' c', e = .returned (.slice A' (allO xs).length c') ∧ RowAt w' w'.heap.size A' (numsC (allO xs))) ∧ Below w.heap.size w w' :=
  (all_ino A c xs w hx h).mono fun e w' hq => by
    obtain ⟨⟨v, he, hn⟩, hb⟩ := hq
    obtain ⟨A', c', rfl, hr⟩ := hn.read
    exact ⟨⟨A', c', he, hr⟩, hb⟩
set_option maxHeartbeats 4000000 in
theorem law_full (a b d : Nat) (w : World) (ha : a < 256) (hb : b < 256) (hd : d < 256) : Calls Try.prog 12 #[.int .u8 a, .int .u8 b, .int .u8 d] w fun e w' => e = .returned (.bool true) ∧ Below w.heap.size w w' := by
  obtain ⟨m, hm⟩ : ∃ m, 4 + a % 61 = m := ⟨_, rfl⟩
  obtain ⟨ow, how⟩ : ∃ ow, b % 16 = ow := ⟨_, rfl⟩
  obtain ⟨k, hk⟩ : ∃ k, 1 + d % m = k := ⟨_, rfl⟩
  have hm4 : 4 ≤ m ∧ m ≤ 64 := by omega
  have hp : planE (60 : Nat) (m : Nat) = 0 := planE_iff.2 (by unfold dataN; omega)
  have hk1 : 1 ≤ k := by omega
  have hk2 : k ≤ m := by
    have := Nat.mod_lt d (show 0 < m by omega)
    omega
  have how16 : ow < 16 := by omega
  have CF : Hid (∀ w, Calls Try.prog 17 #[.int .i64 60, .int .i64 m] w fun e w' => (∃ v, e = .returned (.tuple #[v, .int .i64 0]) ∧ NewRow (fmtV 60 m) w v w') ∧ Below w.heap.size w w') := fun w => (format_any 60 m w).mono fun e w' h => by
    unfold FmtPost at h
    rw [if_pos (show planE 60 (m : Int) = 0 from hp)] at h
    exact ⟨h.2, h.1⟩
  have F1 : Hid (FullI m 1 (fmtV 60 m)) := ⟨fmtV_vol hp, fmtV_length _ _, fun j a b => by omega, fun j a b => fmt_kind hp a b⟩
  have r1 : (a : Int).tmod 61 = (a : Int) % 61 := Int.tmod_eq_emod_of_nonneg (by omega)
  have r2 : (b : Int) % 16 = (ow : Int) := by omega
  have r3 : (4 : Int) + (a : Int) % 61 = (m : Int) := by omega
  have r4 : (1 : Int) + (d : Int) % (m : Int) = (k : Int) := by omega
  have s0 : IntKind.i64.wrap (a : Int) = (a : Int) := IntWalk.i64_in _ (by omega)
  have s1 : IntKind.i64.wrap (b : Int) = (b : Int) := IntWalk.i64_in _ (by omega)
  have s2 : IntKind.i64.wrap (d : Int) = (d : Int) := IntWalk.i64_in _ (by omega)
  clear hm how hk hp
  go_enter Try.func12, Try.ntmps12
  go_wp2_with fail
  refine (alive18_any _).mono ?_
  rintro e u1 ⟨rfl, hb⟩
  have B := Lib.hid hb
  clear hb
  go_wp2_with fail
  refine (CF.out _).mono ?_
  rintro e u2 ⟨⟨v, rfl, hn⟩, hb⟩
  replace B := Lib.hid (B.out.trans (hb.mono B.out.size))
  clear hb
  obtain ⟨A1, c1, rfl, hr⟩ := hn.read
  have RV := Lib.hid hr
  have hl60 := F1.out.len
  rw [hl60]
  clear hn hr hl60
  generalize fmtV 60 m = f0 at *
  have B2 := Lib.hid B.out
  go_wp2
  go_loopw [8, 10] (fun v i wr => ∃ (j : Nat) (ys : List ByteArray) (A1 : Option Addr) (c1 : Nat), 1 ≤ j ∧ j ≤ m + 1 ∧ i = .int .i64 j ∧ v = .slice A1 60 c1 ∧ Hid (FullI m j ys) ∧ Hid (RowAt wr wr.heap.size A1 (ys.map .string)) ∧ Hid (Below w.heap.size w wr)) (fun _ i _ => m + 1 - (intOf i).toNat)
  case atStart => exact ⟨1, f0, A1, c1, by omega, by omega, rfl, rfl, F1, RV, B⟩
  case round =>
    obtain ⟨j, ys, A1, c1, hj1, hj2, rfl, rfl, FI, RY, BY⟩ := hrel
    clear B RV F1
    by_cases hlt : j ≤ m
    · have hlt' : (j : Int) ≤ (m : Int) := by omega
      obtain ⟨hnew, hfi⟩ := FI.out.step hj1 hlt how16
      have C1 := Lib.hid (new_read A1 c1 ys 1 ow (by rw [FI.out.len]; decide) hnew)
      have FN := Lib.hid hfi
      have hcnt := hfi.count hlt
      have hln := hfi.len
      have C2 := Lib.hid (fun A c => all_read A c (putV ys j (newL 1 ow)) (by rw [hln]; decide))
      rw [hcnt, hln] at C2
      rw [FI.out.len, hln] at C1
      clear hnew hfi hcnt hln
      generalize putV ys j (newL 1 ow) = zs at *
      go_wp2_with fail
      refine (C1.out _ RY.out).mono ?_
      rintro e w5 ⟨⟨A5, c5, rfl, hr5⟩, hb5⟩
      replace BY := Lib.hid (BY.out.trans (hb5.mono BY.out.size))
      have RZ := Lib.hid hr5
      clear hb5 hr5
      go_wp2_with fail
      refine (C2.out _ _ _ RZ.out).mono ?_
      rintro e w6 ⟨⟨A6, c6, rfl, _⟩, hb6⟩
      replace BY := Lib.hid (BY.out.trans (hb6.mono BY.out.size))
      replace RZ := Lib.hid (RZ.out.next hb6)
      clear hb6
      go_wp2
      go_roundw
      case rel => exact ⟨j + 1, zs, A5, c5, by omega, by omega, by go_num, rfl, FN, RZ, BY⟩
      case measure => simp [intOf]; omega
    · obtain rfl : j = m + 1 := by omega
      have hlt' : ¬ ((m + 1 : Nat) : Int) ≤ (m : Int) := by omega
      have E1 := Lib.hid (new_read A1 c1 ys 2 0 (by rw [FI.out.len]; decide) FI.out.full)
      have E2 := Lib.hid (put_good A1 c1 (by rw [FI.out.len]; decide) FI.out.vol hk1 hk2 zero_fit)
      have hpl : (putV ys k (List.replicate 12 0)).length = 60 := by rw [putV_length]; exact FI.out.len
      have E3 := Lib.hid (fun A c => new_read A c (putV ys k (List.replicate 12 0)) 2 1 (by rw [hpl]; decide) (FI.out.again hk1 hk2))
      rw [FI.out.len] at E1 E2
      rw [hpl] at E2 E3
      clear hpl
      rw [show inoC (List.replicate 12 0) = #[.int .i64 0, .int .i64 0, .int .i64 0, .int .i64 0, .int .i64 0, .int .i64 0, .int .i64 0, .int .i64 0, .int .i64 0, .int .i64 0, .int .i64 0, .int .i64 0] from rfl] at E2
      generalize putV ys k (List.replicate 12 0) = zs at *
      have r5 : (d : Int).tmod (m : Int) = (d : Int) % (m : Int) := Int.tmod_eq_emod_of_nonneg (by omega)
      go_wp2_with fail
      refine (E1.out _ RY.out).mono ?_
      rintro e w5 ⟨⟨A5, c5, rfl, _⟩, hb5⟩
      replace BY := Lib.hid (BY.out.trans (hb5.mono BY.out.size))
      replace RY := Lib.hid (RY.out.next hb5)
      clear hb5
      go_wp2_with fail
      refine (E2.out _ RY.out).mono ?_
      rintro e w6 ⟨⟨A6, c6, rfl, hr6⟩, hb6⟩
      replace BY := Lib.hid (BY.out.trans (hb6.mono BY.out.size))
      have RZ := Lib.hid hr6
      clear hb6 hr6
      go_wp2_with fail
      refine (E3.out _ _ _ RZ.out).mono ?_
      rintro e w7 ⟨⟨A7, c7, rfl, _⟩, hb7⟩
      replace BY := Lib.hid (BY.out.trans (hb7.mono BY.out.size))
      clear hb7
      go_wp2
      go_ret
      exact ⟨rfl, BY.out⟩
end Go.Proofs.Ytclmocppphojfaa
