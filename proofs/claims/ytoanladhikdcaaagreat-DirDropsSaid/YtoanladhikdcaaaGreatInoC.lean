/-
  What inode.New and inode.All compute.
-/
import Derived.Test.YtoanladhikdcaaaGreatInoB
namespace Go.Proofs.YtoanladhikdcaaaGreat
open Go.RowKit
set_option linter.unusedVariables false
set_option linter.unusedSimpArgs false
set_option maxRecDepth 100000
/-- an inode's kind -/
def kindR (xs : List ByteArray) (n : Nat) : Nat := numAt (blkL xs (blkN n)) (atN n) 1
/-- the first inode that is free -/
def freeI (xs : List ByteArray) (m : Nat) : Option Nat := (List.range' 1 m).find? fun n => kindR xs n == 0
theorem freeI_some {xs : List ByteArray} {m n : Nat} : freeI xs m = some n ↔ 1 ≤ n ∧ n ≤ m ∧ kindR xs n = 0 ∧ ∀ j, 1 ≤ j → j < n → kindR xs j ≠ 0 := by
  unfold freeI
  rw [List.find?_range'_eq_some]
  simp only [beq_iff_eq, List.mem_range'_1, Bool.not_eq_true', beq_eq_false_iff_ne]
  constructor
  · rintro ⟨a, ⟨b, c⟩, d⟩
    exact ⟨b, by omega, a, d⟩
  · rintro ⟨b, c, a, d⟩
    exact ⟨a, ⟨b, by omega⟩, d⟩
theorem freeI_none {xs : List ByteArray} {m : Nat} : freeI xs m = none ↔ ∀ j, 1 ≤ j → j ≤ m → kindR xs j ≠ 0 := by
  unfold freeI
  rw [List.find?_eq_none]
  simp only [beq_iff_eq, List.mem_range'_1]
  constructor
  · intro h j a b; exact h j ⟨a, by omega⟩
  · intro h j ⟨a, b⟩; exact h j a (by omega)
def newL (kind owner : Nat) : List Nat := [kind, 1, owner, 0, 0, 0, 0, 0, 0, 0, 0, 0]
/-- an inode taken: the blocks, the number, the code -/
def newO (xs : List ByteArray) (kind owner : Int) : List ByteArray × Int × Int := match ofR xs with
  | none => ([], 0, 3)
  | some m => if (kind ≠ 1 ∧ kind ≠ 2) ∨ owner < 0 ∨ 16 ≤ owner then ([], 0, 1) else match freeI xs m with
    | none => ([], 0, 10)
    | some n => (putV xs n (newL kind.toNat owner.toNat), n, 0)
def RowNumCode (o : List ByteArray × Int × Int) (w : World) (e : Ending) (w' : World) : Prop := (∃ v, e = .returned (.tuple #[v, .int .i64 o.2.1, .int .i64 o.2.2]) ∧ OwnRow o.1 w v w') ∧ Below w.heap.size w w'
theorem ino_field0 (a0 a1 a2 a3 a4 a5 a6 a7 a8 a9 a10 a11 : Value) (w : World) : (Instr.field 35 (.agg #[a0, a1, a2, a3, a4, a5, a6, a7, a8, a9, a10, a11]) 0).run Tryz.prog w = .ok a0 w := by kernel_rfl
theorem told_lit (A : Option Addr) (c : Nat) (xs : List ByteArray) (m n : Nat) (w : World) (hx : xs.length ≤ 1000000) (hv : IsVol xs m) (h1 : 1 ≤ n) (h2 : n ≤ m) (h : RowAt w w.heap.size A (xs.map .string)) :
    Calls Tryz.prog 27 #[.slice A xs.length c, .agg #[.int .i64 (xs.length : Int), .int .i64 (m : Int), .int .i64 1, .int .i64 2, .int .i64 3, .int .i64 (dataN m : Nat)], .int .i64 n] w fun e w' => (∃ a1 a2 a3 a4 a5 a6 a7 a8 a9 a10 a11, e = .returned (.agg #[.int .i64 (kindR xs n : Nat), a1, a2, a3, a4, a5, a6, a7, a8, a9, a10, a11])) ∧ Below w.heap.size w w' := by
  have hl := hv.len
  have hbl : 3 + (n - 1) / 2 < xs.length := by unfold dataN at hl; omega
  exact (told_any A c xs _ _ _ _ _ n w hx h1 hbl (hv.size _ hbl) h).mono fun e w' ⟨he, hb⟩ => ⟨⟨_, _, _, _, _, _, _, _, _, _, _, he⟩, hb⟩
set_option maxHeartbeats 2000000 in
theorem new_ino (A : Option Addr) (c : Nat) (xs : List ByteArray) (kind owner : Int) (w : World) (hx : xs.length ≤ 1000000) (h : RowAt w w.heap.size A (xs.map .string)) :
    Calls Tryz.prog 25 #[.slice A xs.length c, .int .i64 kind, .int .i64 owner] w (RowNumCode (newO xs kind owner) w) := by
  have HR := Lib.hid h
  clear h
  go_enter Tryz.func25, Tryz.ntmps25
  go_wp2_with fail
  refine (of_any A c xs _ hx HR.out).mono ?_
  rintro e w1 ⟨rfl, hb1⟩
  have B1 := Lib.hid hb1
  have hz1 := B1.out.size
  clear hb1
  cases ho : ofR xs with
  | none =>
    have HP : Hid (newO xs kind owner = ([], 0, 3)) := by show _ = _; unfold newO; rw [ho]
    clear ho
    unfold ofE
    go_wp2
    go_ret3
    rw [HP.out]
    exact ⟨⟨_, rfl, own_nil _ _⟩, B1.out.alloc hz1 _⟩
  | some m =>
    have hv := ofR_some.1 ho
    have hl := hv.len
    have HV := Lib.hid hv
    unfold ofE
    dsimp only
    by_cases hbad : (kind ≠ 1 ∧ kind ≠ 2) ∨ owner < 0 ∨ 16 ≤ owner
    · have HP : Hid (newO xs kind owner = ([], 0, 1)) := by show _ = _; unfold newO; rw [ho]; dsimp only; rw [if_pos hbad]
      clear ho hv
      by_cases hk : kind ≠ 1 ∧ kind ≠ 2
      · have k1 : (kind != 1) = true := by simpa using hk.1
        have k2 : (kind != 2) = true := by simpa using hk.2
        clear hbad hk
        go_wp2
        go_ret3
        rw [HP.out]
        exact ⟨⟨_, rfl, own_nil _ _⟩, B1.out.alloc hz1 _⟩
      · have hk' : kind = 1 ∨ kind = 2 := by omega
        by_cases ho1 : owner < 0
        · have o1 : decide (owner < 0) = true := by simpa using ho1
          clear hbad hk
          rcases hk' with rfl | rfl
          all_goals
            go_wp2
            go_ret3
            rw [HP.out]
            exact ⟨⟨_, rfl, own_nil _ _⟩, B1.out.alloc hz1 _⟩
        · have o1 : decide (owner < 0) = false := by simpa using ho1
          have o2 : 16 ≤ owner := by omega
          clear hbad hk ho1
          rcases hk' with rfl | rfl
          all_goals
            go_wp2
            go_ret3
            rw [HP.out]
            exact ⟨⟨_, rfl, own_nil _ _⟩, B1.out.alloc hz1 _⟩
    · have hk' : kind = 1 ∨ kind = 2 := by omega
      obtain ⟨ow, rfl⟩ : ∃ ow : Nat, owner = ow := ⟨owner.toNat, by omega⟩
      have how : ow < 16 := by omega
      have HP : Hid (newO xs kind ow = match freeI xs m with | none => ([], 0, 10) | some n => (putV xs n (newL kind.toNat ow), n, 0)) := by show _ = _; unfold newO; rw [ho]; dsimp only; rw [if_neg hbad]; rfl
      have o1 : decide ((ow : Int) < 0) = false := by simp
      have o2 : decide (16 ≤ (ow : Int)) = false := by simp; omega
      have o3 : decide (16 ≤ ow) = false := by simp; omega
      have hfd := ino_field0
      have GN := Lib.hid (Blk.new w1 54 #[.int .i64 (xs.length : Int), .int .i64 (m : Int), .int .i64 1, .int .i64 2, .int .i64 3, .int .i64 (dataN m : Int)])
      have BN := Lib.hid (B1.out.alloc hz1 (.cells #[.int .i64 (xs.length : Int), .int .i64 (m : Int), .int .i64 1, .int .i64 2, .int .i64 3, .int .i64 (dataN m : Int)] 54))
      have HLT : Hid (∀ z ∈ newL kind.toNat ow, z < 4294967296) := fun z hz => by
        unfold newL at hz
        simp only [List.mem_cons, List.not_mem_nil, or_false] at hz
        omega
      clear hbad ho hv
      rcases hk' with rfl | rfl
      all_goals
        go_wp2
        go_loopw [11] (fun i wr => ∃ k : Nat, 1 ≤ k ∧ k ≤ m + 1 ∧ i = .int .i64 k ∧ Hid (∀ j, 1 ≤ j → j < k → kindR xs j ≠ 0) ∧ Hid (Blk wr w1.heap.size 54 #[.int .i64 (xs.length : Int), .int .i64 (m : Int), .int .i64 1, .int .i64 2, .int .i64 3, .int .i64 (dataN m : Int)]) ∧ Hid (Below w.heap.size w wr)) (fun i _ => m + 1 - (intOf i).toNat)
        case atStart => exact ⟨1, by omega, by omega, rfl, (fun j a b => by omega), GN, BN⟩
        case round =>
          obtain ⟨k, hk1, hk2, rfl, HK, GK, BK⟩ := hrel
          have g1 := GK.out.cell 1 rfl
          by_cases hlt : k ≤ m
          · have hlt' : (k : Int) ≤ (m : Int) := by omega
            have TL := Lib.hid (fun w h => told_lit A c xs m k w hx HV.out hk1 hlt h)
            go_wp2_with (refine load_blk 54 (.tmp 9) w1.heap.size 54 #[.int .i64 (xs.length : Int), .int .i64 (m : Int), .int .i64 1, .int .i64 2, .int .i64 3, .int .i64 (dataN m : Int)] _ rfl rfl rfl GK.out Tryz.underlying54 rfl (by kernel_rfl) ?_; go_frame)
            refine (TL.out _ ((HR.out.below BK.out).mono BK.out.size)).mono ?_
            rintro e w3 ⟨⟨a1, a2, a3, a4, a5, a6, a7, a8, a9, a10, a11, rfl⟩, hb3⟩
            have G3 := Lib.hid (GK.out.below hb3 GK.out.lt)
            have B3 := Lib.hid (BK.out.trans (hb3.mono BK.out.size))
            clear hb3 TL g1
            by_cases hkd : kindR xs k = 0
            · have HF := Lib.hid (freeI_some.2 ⟨hk1, hlt, hkd, HK.out⟩)
              have t1 : (((kindR xs k : Nat) : Int) == 0) = true := by rw [hkd]; rfl
              clear hkd HK
              generalize kindR xs k = kd at *
              go_wp2_with (refine load_blk 54 (.tmp 9) w1.heap.size 54 #[.int .i64 (xs.length : Int), .int .i64 (m : Int), .int .i64 1, .int .i64 2, .int .i64 3, .int .i64 (dataN m : Int)] _ rfl rfl rfl G3.out Tryz.underlying54 rfl (by kernel_rfl) ?_; go_frame)
              refine (written_any A c xs _ _ _ _ _ k (newL _ ow) w3 hx hk1 (by unfold dataN at hl; omega) (HV.out.size _ (by unfold dataN at hl; omega)) ((HR.out.below B3.out).mono B3.out.size) rfl HLT.out).mono ?_
              rintro e w4 ⟨⟨v, rfl, hown⟩, hb4⟩
              have O4 : Hid (OwnRow (putV xs k (newL _ ow)) w v w4) := hown.base B3.out.size
              have B4 := Lib.hid (B3.out.trans (hb4.mono B3.out.size))
              clear hown hb4
              go_wp2
              go_ret3
              rw [HP.out, HF.out]
              exact ⟨⟨_, rfl, O4.out⟩, B4.out⟩
            · have t1 : (((kindR xs k : Nat) : Int) == 0) = false := by simpa using hkd
              have HKD := Lib.hid hkd
              clear hkd
              go_wp2
              go_roundw
              case rel => exact ⟨k + 1, by omega, by omega, by go_num, (fun j a b => by
                by_cases e : j = k
                · subst e; exact HKD.out
                · exact HK.out j a (by omega)), G3, B3⟩
              case measure => simp [intOf]; omega
          · have hlt' : ¬ (k : Int) ≤ (m : Int) := by omega
            have HF := Lib.hid (@freeI_none xs m |>.2 (fun j a b => HK.out j a (by omega)))
            go_wp2
            go_ret3
            rw [HP.out, HF.out]
            exact ⟨⟨_, rfl, own_nil _ _⟩, BK.out⟩
end Go.Proofs.YtoanladhikdcaaaGreat
