/-
  Limits of owners: the plain words; what quota.is, limit and Limit tell.
-/
import Derived.Test.YtjmafegckfijbaaExtCnt
namespace Go.Proofs.Ytjmafegckfijbaa
open Go.RowKit
set_option linter.unusedVariables false
set_option linter.unusedSimpArgs false
set_option maxRecDepth 100000
/-- an owner's limit, as it is written down -/
def limN (xs : List ByteArray) (o : Nat) : Nat := numAt (blkL xs 1) (2 * o) 2
/-- is it an owner of a volume? why not? -/
def quoE (xs : List ByteArray) (owner : Int) : Int := match ofR xs with
  | none => 3
  | some _ => if owner < 0 ∨ 16 ≤ owner then 1 else 0
def limitO (xs : List ByteArray) (owner : Int) : Int × Int := if quoE xs owner = 0 then ((limN xs owner.toNat : Nat), 0) else (0, quoE xs owner)
/-- is it one of the owner's? -/
def hisB (xs : List ByteArray) (owner : Int) (n : Nat) : Bool := decide ((((getR xs (n : Int)).getD 2 0 : Nat) : Int) = owner)
def usedL (xs : List ByteArray) (owner : Int) (ns : List Nat) : Nat := ((ns.filter (hisB xs owner)).map fun n : Nat => countO xs (n : Int)).sum
/-- how many blocks an owner has -/
def usedO (xs : List ByteArray) (owner : Int) : Nat := usedL xs owner (allO xs)
/-- has an owner more than that? -/
def overB (xs : List ByteArray) (owner limit : Int) : Bool := decide (limit ≠ 0 ∧ limit < (usedO xs owner : Int))
def setO (xs : List ByteArray) (owner limit : Int) : List ByteArray × Int :=
  if quoE xs owner ≠ 0 then ([], quoE xs owner) else if limit < 0 ∨ 65535 < limit then ([], 2) else if overB xs owner limit = true then ([], 13)
  else (layX xs 1 (2 * owner.toNat) (putL limit.toNat 2), 0)
def checkO (xs : List ByteArray) : Int := match ofR xs with
  | none => 3
  | some _ => if (List.range 16).any (fun o => overB xs (o : Int) (limN xs o : Int)) = true then 13 else 0
theorem limN_lt (xs : List ByteArray) (o : Nat) : limN xs o < 65536 := numAt_lt _ _ 2
theorem usedL_snoc (xs : List ByteArray) (owner : Int) (ns : List Nat) (n : Nat) : usedL xs owner (ns ++ [n]) = usedL xs owner ns + (if hisB xs owner n = true then countO xs (n : Int) else 0) := by
  unfold usedL
  rw [List.filter_append, List.map_append, List.sum_append]
  by_cases h : hisB xs owner n = true <;> simp [h]
theorem countO_le (xs : List ByteArray) (n : Int) : countO xs n ≤ 72 := by
  unfold countO
  split
  · omega
  · have := manyX_le xs (mO xs) (getR xs n) 70
    unfold countX
    split <;> split <;> omega
theorem usedL_le (xs : List ByteArray) (owner : Int) : ∀ ns : List Nat, usedL xs owner ns ≤ 72 * ns.length
  | [] => by simp [usedL]
  | n :: ns => by
    have ih := usedL_le xs owner ns
    have hc := countO_le xs (n : Int)
    unfold usedL at ih ⊢
    rw [List.filter_cons, List.length_cons]
    by_cases h : hisB xs owner n = true
    · rw [if_pos h, List.map_cons, List.sum_cons]
      omega
    · rw [if_neg h]
      omega
theorem allO_len (xs : List ByteArray) : (allO xs).length ≤ 64 := by
  unfold allO
  cases h : ofR xs with
  | none => simp
  | some m =>
    have := (ofR_some.1 h).len
    have := allR_len xs m
    dsimp only
    omega
theorem usedO_le (xs : List ByteArray) (owner : Int) : usedO xs owner ≤ 4608 := by
  have := usedL_le xs owner (allO xs)
  have := allO_len xs
  unfold usedO
  omega
theorem allO_ok {xs : List ByteArray} {n : Nat} (h : n ∈ allO xs) : inoE xs (n : Int) = 0 := by
  unfold allO at h
  cases ho : ofR xs with
  | none => rw [ho] at h; simp at h
  | some m =>
    rw [ho] at h
    unfold allR at h
    have := List.mem_filter.1 h
    have := List.mem_range'_1.1 this.1
    exact inoE_zero (ofR_some.1 ho) (by omega) (by omega)
theorem quo_is (o : Int) (w : World) : Calls Try.prog 65 #[.int .i64 o] w fun e w' => e = .returned (.bool (decide (0 ≤ o ∧ o < 16))) ∧ w = w' := by
  by_cases h1 : 0 ≤ o
  · by_cases h2 : o < 16
    · go_enter Try.func65, Try.ntmps65
      go_wp2
      go_ret
      exact ⟨ret_bool (by simp [h1, h2]), rfl⟩
    · go_enter Try.func65, Try.ntmps65
      go_wp2
      go_ret
      exact ⟨ret_bool (by simp [h1, h2]), rfl⟩
  · go_enter Try.func65, Try.ntmps65
    go_wp2
    go_ret
    exact ⟨ret_bool (by rw [show decide (0 ≤ o) = false by simpa using h1]; simp), rfl⟩
set_option maxHeartbeats 2000000 in
theorem quo_lim (A : Option Addr) (c : Nat) (xs : List ByteArray) (m o : Nat) (w : World) (hv : IsVol xs m) (ho : o < 16) (h : RowAt w w.heap.size A (xs.map .string)) :
    Calls Try.prog 68 #[.slice A xs.length c, .agg #[.int .i64 (xs.length : Int), .int .i64 (m : Int), .int .i64 1, .int .i64 2, .int .i64 3, .int .i64 (dataN m : Nat)], .int .i64 (o : Int)] w fun e w' => e = .returned (.int .i64 (limN xs o : Nat)) ∧ Below w.heap.size w w' := by
  have hvl := hv.len
  obtain ⟨bb, oo, rfl, hbb, hc⟩ := row_get h 1 (by omega)
  have hsz := hv.size 1 (by omega)
  have HL : Hid (limN xs o = numAt (blkL xs 1) (2 * o) 2) := rfl
  unfold blkL at HL
  generalize xs.getD 1 ⟨#[]⟩ = s at *
  obtain ⟨p, hp⟩ : ∃ p, 2 * o = p := ⟨_, rfl⟩
  rw [hp] at HL
  have p1 : (2 : Int) * (o : Int) = (p : Int) := by omega
  have p2 : p + 2 ≤ 128 := by omega
  obtain ⟨v, hvv⟩ : ∃ v, numAt s.data.toList p 2 = v := ⟨_, rfl⟩
  have hv6 : v < 65536 := by rw [← hvv]; exact numAt_lt _ _ 2
  have CG : Hid (∀ w, Calls Try.prog 103 #[.string (s.extract p (p + 2))] w fun e w' => e = .returned (.int .u64 (v : Int)) ∧ w = w') := fun w => by
    have := get_any (s.extract p (p + 2)) w (by rw [ByteArray.size_extract]; omega)
    rw [two_sub, hvv] at this
    exact this
  have hcw := ((Below.refl w.heap.size w).alloc (Nat.le_refl _) (.cells #[.int .i64 (xs.length : Int), .int .i64 (m : Int), .int .i64 1, .int .i64 2, .int .i64 3, .int .i64 (dataN m : Int)] 66)).cell (p := ⟨bb, oo + 1, none⟩) hbb
  rw [hc] at hcw
  have s1 : IntKind.i64.wrap ((p : Int) + 2) = (p : Int) + 2 := IntWalk.i64_in _ (by omega)
  have s3 : ((p : Int) + 2).toNat = p + 2 := by omega
  have s4 : IntKind.i64.wrap (v : Int) = (v : Int) := IntWalk.i64_in _ (by omega)
  have s5 : (1 : Int) < (xs.length : Int) := by omega
  have s9 : (p : Int) + 2 ≤ (s.size : Int) := by omega
  rw [hvv] at HL
  clear hp hvv hv hc h
  go_enter Try.func68, Try.ntmps68
  go_wp2_with fail
  refine (CG.out _).mono ?_
  rintro e w1 ⟨rfl, rfl⟩
  go_wp2
  go_ret
  exact ⟨ret_int (by rw [HL.out]), (Below.refl _ _).alloc (Nat.le_refl _) _⟩
set_option maxHeartbeats 2000000 in
theorem quo_limit (A : Option Addr) (c : Nat) (xs : List ByteArray) (o : Int) (w : World) (hx : xs.length ≤ 1000000) (h : RowAt w w.heap.size A (xs.map .string)) :
    Calls Try.prog 29 #[.slice A xs.length c, .int .i64 o] w fun e w' => e = .returned (.tuple #[.int .i64 (limitO xs o).1, .int .i64 (limitO xs o).2]) ∧ Below w.heap.size w w' := by
  have HR := Lib.hid h
  clear h
  cases ho : ofR xs with
  | none =>
    have HL : Hid (limitO xs o = (0, 3)) := by show _ = _; unfold limitO quoE; rw [ho]; rfl
    have CO := Lib.hid (of_any A c xs w hx HR.out)
    unfold OfPost ofE at CO
    rw [ho] at CO
    dsimp only at CO
    clear ho
    go_enter Try.func29, Try.ntmps29
    go_wp2_with fail
    refine CO.out.mono ?_
    rintro e w1 ⟨rfl, hb1⟩
    have B1 := Lib.hid hb1
    have hz1 := hb1.size
    clear hb1
    go_wp2
    go_ret2
    rw [HL.out]
    exact ⟨rfl, B1.out.alloc hz1 _⟩
  | some m =>
    have hv := ofR_some.1 ho
    have HV := Lib.hid hv
    have CO := Lib.hid (of_any A c xs w hx HR.out)
    unfold OfPost ofE at CO
    rw [ho] at CO
    dsimp only at CO
    by_cases hb : o < 0 ∨ 16 ≤ o
    · have HL : Hid (limitO xs o = (0, 1)) := by show _ = _; unfold limitO quoE; rw [ho]; dsimp only; rw [if_pos hb, if_neg (by omega)]
      have HQ : Hid (decide (0 ≤ o ∧ o < 16) = false) := by show _ = _; rw [decide_eq_false_iff_not]; omega
      clear ho hv hb
      go_enter Try.func29, Try.ntmps29
      go_wp2_with fail
      refine CO.out.mono ?_
      rintro e w1 ⟨rfl, hb1⟩
      have B1 := Lib.hid hb1
      have hz1 := hb1.size
      clear hb1
      go_wp2_with fail
      refine (quo_is o _).mono ?_
      rw [HQ.out]
      rintro e w' ⟨rfl, rfl⟩
      go_wp2
      go_ret2
      rw [HL.out]
      exact ⟨rfl, B1.out.alloc hz1 _⟩
    · obtain ⟨q, rfl⟩ := Int.eq_ofNat_of_zero_le (show 0 ≤ o by omega)
      have hq : q < 16 := by omega
      have HL : Hid (limitO xs (q : Int) = (((limN xs q : Nat) : Int), 0)) := by show _ = _; unfold limitO quoE; rw [ho]; dsimp only; rw [if_neg hb, if_pos rfl, Int.toNat_natCast]
      have HQ : Hid (decide (0 ≤ (q : Int) ∧ (q : Int) < 16) = true) := by show _ = _; rw [decide_eq_true_iff]; omega
      have CL := Lib.hid (fun w h => quo_lim A c xs m q w hv hq h)
      clear ho hv hb
      go_enter Try.func29, Try.ntmps29
      go_wp2_with fail
      refine CO.out.mono ?_
      rintro e w1 ⟨rfl, hb1⟩
      have B1 := Lib.hid hb1
      have hz1 := hb1.size
      have G1 := Lib.hid (Blk.new w1 66 #[.int .i64 (xs.length : Int), .int .i64 (m : Int), .int .i64 1, .int .i64 2, .int .i64 3, .int .i64 (dataN m : Int)])
      have B2 := Lib.hid (B1.out.alloc hz1 (.cells #[.int .i64 (xs.length : Int), .int .i64 (m : Int), .int .i64 1, .int .i64 2, .int .i64 3, .int .i64 (dataN m : Int)] 66))
      have R2 := Lib.hid ((HR.out.below B2.out).mono B2.out.size)
      clear hb1 CO
      go_wp2_with fail
      refine (quo_is (q : Int) _).mono ?_
      rw [HQ.out]
      rintro e w' ⟨rfl, rfl⟩
      go_wp2_with (refine load_blk 66 (.tmp 6) w1.heap.size 66 #[.int .i64 (xs.length : Int), .int .i64 (m : Int), .int .i64 1, .int .i64 2, .int .i64 3, .int .i64 (dataN m : Int)] _ rfl rfl rfl G1.out Try.underlying66 rfl (by kernel_rfl) ?_; go_frame)
      refine (CL.out _ R2.out).mono ?_
      rintro e w3 ⟨rfl, hb3⟩
      have B3 := Lib.hid (B2.out.trans (hb3.mono B2.out.size))
      clear hb3
      go_wp2
      go_ret2
      rw [HL.out]
      exact ⟨rfl, B3.out⟩
end Go.Proofs.Ytjmafegckfijbaa
