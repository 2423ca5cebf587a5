/-
  What cpu.load, store, taken and reckon compute, whatever the operation.
-/
import Derived.Test.YtcjakmnplkeldaaDoorCpuA
import Derived.Test.YtcjakmnplkeldaaDoorResults
namespace Go.Proofs.YtcjakmnplkeldaaDoor
open Go.RowKit
set_option linter.unusedVariables false
set_option linter.unusedSimpArgs false
def rkId (op : Nat) : Nat :=
  if op = 1 then 43 else if op = 2 then 44 else if op = 3 then 45
  else if op = 4 then 46 else if op = 5 then 47 else if op = 6 then 48
  else if op = 7 then 49 else if op = 8 then 50 else if op = 9 then 51
  else if op = 10 then 52 else if op = 11 then 53 else if op = 12 then 54 else 57
theorem ops13 {op : Nat} (h1 : 1 ≤ op) (h2 : op ≤ 13) : op = 1 ∨ op = 2 ∨ op = 3 ∨ op = 4 ∨ op = 5 ∨ op = 6 ∨ op = 7 ∨ op = 8 ∨ op = 9 ∨ op = 10 ∨ op = 11 ∨ op = 12 ∨ op = 13 := by omega
theorem reckon_any (op : Nat) (w : World) (h1 : 1 ≤ op) (h2 : op ≤ 13) : Calls Tryd.prog 24 #[.int .u8 op] w fun e w' => e = .returned (.func (.func (rkId op)) #[] #[]) ∧ w = w' := by
  rcases ops13 h1 h2 with rfl | rfl | rfl | rfl | rfl | rfl | rfl | rfl | rfl | rfl | rfl | rfl | rfl
  · exact reckon_1 w
  · exact reckon_2 w
  · exact reckon_3 w
  · exact reckon_4 w
  · exact reckon_5 w
  · exact reckon_6 w
  · exact reckon_7 w
  · exact reckon_8 w
  · exact reckon_9 w
  · exact reckon_10 w
  · exact reckon_11 w
  · exact reckon_12 w
  · exact reckon_13 w
theorem rk_any (op b c : Nat) (w : World) (h1 : 1 ≤ op) (h2 : op ≤ 13) (hb : b < 4294967296) (hc : c < 4294967296) : Calls Tryd.prog (rkId op) #[.int .u32 b, .int .u32 c] w fun e w' => e = .returned (.int .u32 (thrR op b c : Nat)) ∧ w = w' := by
  rcases ops13 h1 h2 with rfl | rfl | rfl | rfl | rfl | rfl | rfl | rfl | rfl | rfl | rfl | rfl | rfl
  · exact rk1 b c w hb hc
  · exact rk2 b c w hb hc
  · exact rk3 b c w hb hc
  · exact div_any b c w hb hc
  · exact rest_any b c w hb hc
  · exact rk4 b c w hb hc
  · exact rk5 b c w hb hc
  · exact rk6 b c w hb hc
  · exact rk7 b c w hb hc
  · exact rk8 b c w hb hc
  · exact rk9 b c w hb hc
  · exact rk10 b c w hb hc
  · exact rk11 b c w hb hc
theorem rk_call (op : Nat) (x y : Value) (w : World) (h1 : 1 ≤ op) (h2 : op ≤ 13) : Sem.run Tryd.prog (callFunc (rkId op) #[x, y]) w = .ok (.enter (rkId op) #[x, y]) w := by
  rcases ops13 h1 h2 with rfl | rfl | rfl | rfl | rfl | rfl | rfl | rfl | rfl | rfl | rfl | rfl | rfl <;> kernel_rfl
/-- whether a branch is taken -/
def tkR (op a b : Nat) : Bool := if op = 25 then decide (a = b) else if op = 26 then decide (a ≠ b) else if op = 27 then decide (sg a < sg b) else decide (a < b)
theorem taken_any (op a b : Nat) (w : World) (h1 : 25 ≤ op) (h2 : op ≤ 28) (ha : a < 4294967296) (hb : b < 4294967296) : Calls Tryd.prog 27 #[.int .u8 op, .int .u32 a, .int .u32 b] w fun e w' => e = .returned (.bool (tkR op a b)) ∧ w = w' := by
  obtain rfl | rfl | rfl | rfl : op = 25 ∨ op = 26 ∨ op = 27 ∨ op = 28 := by omega
  · go_enter Tryd.func27, Tryd.ntmps27
    go_wp2
    go_ret
    exact ⟨ret_bool (by show _ = decide (a = b); by_cases h : a = b <;> simp [h] <;> omega), rfl⟩
  · go_enter Tryd.func27, Tryd.ntmps27
    go_wp2
    go_ret
    exact ⟨ret_bool (by show _ = decide (a ≠ b); by_cases h : a = b <;> simp [h] <;> omega), rfl⟩
  · go_enter Tryd.func27, Tryd.ntmps27
    go_wp2_with fail
    refine (less_any a b _ ha hb).mono ?_
    rintro e w' ⟨rfl, rfl⟩
    go_wp2
    go_ret
    exact ⟨rfl, rfl⟩
  · go_enter Tryd.func27, Tryd.ntmps27
    go_wp2
    go_ret
    exact ⟨ret_bool (by show _ = decide (a < b); by_cases h : a < b <;> simp [h]), rfl⟩
/-- a byte with its sign -/
def sx8 (n : Nat) : Nat := if n < 128 then n else n + 4294967040
def ldR (op : Nat) (xs : List ByteArray) (l : List Pte) (a : Nat) : Option Nat := if op = 20 then loadR xs l a 4 else (loadR xs l a 1).map fun v => if op = 21 then sx8 v else v
theorem loadR_one {xs : List ByteArray} {l : List Pte} {a v : Nat} (h : loadR xs l a 1 = some v) : v < 256 := by
  unfold loadR at h
  split at h
  · split at h
    · injection h with h
      subst h
      refine Nat.lt_of_lt_of_le (leN_lt _) ?_
      rw [List.length_take]
      exact Nat.le_trans (Nat.pow_le_pow_right (n := 256) (by omega) (Nat.min_le_left _ _)) (by omega)
    · cases h
  · cases h
theorem i8_kind : Tryd.prog.intKind 54 = .i8 := by kernel_rfl
def sg8 (n : Nat) : Int := if n < 128 then n else (n : Int) - 256
theorem wrap8 (m : Nat) (h : m < 256) : IntKind.i8.wrap (m : Int) = sg8 m := by
  unfold sg8
  simp [IntKind.wrap, IntKind.bits, IntKind.signed]
  split <;> split <;> omega
theorem sg8_sx (m : Nat) (h : m < 256) : wrap32 (sg8 m) % 4294967296 = (sx8 m : Nat) := by
  unfold wrap32 sg8 sx8
  by_cases h2 : m < 128
  · simp only [h2, if_true]; omega
  · simp only [h2, if_false]; omega
set_option maxHeartbeats 1000000 in
theorem ld_any (op : Nat) (A : Option Addr) (c : Nat) (xs : List ByteArray) (l : List Pte) (a : Nat) (w : World) (h1 : 20 ≤ op) (h2 : op ≤ 22) (hx : xs.length ≤ 1000000) (h : RowAt w w.heap.size A (xs.map .string)) (hl : l.length = 16) (ha : a < 4294967296) :
    Calls Tryd.prog 25 #[.int .u8 op, .agg (pteL l).toArray, .slice A xs.length c, .int .u32 a] w (LoadPost (ldR op xs l a) w) := by
  have HR := Lib.hid h
  have HL := Lib.hid hl
  have HA := Lib.hid ha
  have B0 : Hid (Below w.heap.size w (w.alloc (.cells (pteL l).toArray 29))) := (Below.refl _ _).alloc (Nat.le_refl _) _
  have R0 : Hid (RowAt (w.alloc (.cells (pteL l).toArray 29)) (w.alloc (.cells (pteL l).toArray 29)).heap.size A (xs.map .string)) := (h.below B0.out).mono (by simp)
  clear h hl ha
  obtain rfl | hop : op = 20 ∨ op ≠ 20 := by omega
  · go_enter Tryd.func25, Tryd.ntmps25
    go_wp2_with (refine load_blk 29 (.tmp 5) w.heap.size 29 (pteL l).toArray _ rfl rfl rfl (Blk.new w _ _) Tryd.underlying29 rfl (space_size HL.out) ?_)
    refine (load_any A c xs l a 4 _ hx R0.out HL.out (.inr rfl) HA.out).mono ?_
    rintro e w1 ⟨rfl, hb1⟩
    have B1 : Hid (Below w.heap.size w w1) := B0.out.trans (hb1.mono (by simp))
    clear hb1
    have HE : Hid (ldR 20 xs l a = loadR xs l a 4) := if_pos rfl
    cases hr : loadR xs l a 4 with
    | none =>
      unfold loadE
      go_wp2
      go_ret2
      exact ⟨by rw [HE.out, hr]; rfl, B1.out⟩
    | some v =>
      unfold loadE
      go_wp2
      go_ret2
      exact ⟨by rw [HE.out, hr]; rfl, B1.out⟩
  · have t1 : ((op : Int) == 20) = false := by simp; omega
    go_enter Tryd.func25, Tryd.ntmps25
    go_wp2_with (refine load_blk 29 (.tmp 5) w.heap.size 29 (pteL l).toArray _ rfl rfl rfl (Blk.new w _ _) Tryd.underlying29 rfl (space_size HL.out) ?_)
    refine (load_any A c xs l a 1 _ hx R0.out HL.out (.inl rfl) HA.out).mono ?_
    rintro e w1 ⟨rfl, hb1⟩
    have B1 : Hid (Below w.heap.size w w1) := B0.out.trans (hb1.mono (by simp))
    clear hb1
    have HE : Hid (ldR op xs l a = (loadR xs l a 1).map fun v => if op = 21 then sx8 v else v) := if_neg hop
    cases hr : loadR xs l a 1 with
    | none =>
      have HE2 : Hid (ldR op xs l a = none) := by show _ = _; rw [HE.out, hr]; rfl
      clear hr HE
      unfold loadE
      obtain rfl | hop2 : op = 21 ∨ op ≠ 21 := by omega
      · go_wp2
        go_ret2
        exact ⟨by rw [HE2.out]; rfl, B1.out⟩
      · have t2 : ((op : Int) == 21) = false := by simp; omega
        go_wp2
        go_ret2
        exact ⟨by rw [HE2.out]; rfl, B1.out⟩
    | some v =>
      have hv := loadR_one hr
      have HE2 : Hid (ldR op xs l a = some (if op = 21 then sx8 v else v)) := by show _ = _; rw [HE.out, hr]; rfl
      clear hr HE
      unfold loadE
      obtain rfl | hop2 : op = 21 ∨ op ≠ 21 := by omega
      · rw [if_pos rfl] at HE2
        have hw8 := wrap8 v hv
        have HSX := Lib.hid (sg8_sx v hv)
        have HV := Lib.hid hv
        clear hv
        dsimp only
        go_wp2_with (refine conv_int .i8 .u32 (v : Int) (sg8 v) 22 54 (.tmp 29) rfl rfl rfl u32_is i8_kind Tryd.underlying54 hw8 ?_; go_frame)
        go_ret2
        refine ⟨?_, B1.out⟩
        show Ending.returned (.tuple #[.int .u32 (wrap32 (sg8 v) % 4294967296), .bool true]) = _
        rw [HE2.out, HSX.out]
        rfl
      · have t2 : ((op : Int) == 21) = false := by simp; omega
        rw [if_neg hop2] at HE2
        go_wp2
        go_ret2
        exact ⟨by rw [HE2.out]; rfl, B1.out⟩
set_option maxHeartbeats 1000000 in
theorem st_any (op : Nat) (A : Option Addr) (c : Nat) (xs : List ByteArray) (l : List Pte) (a v : Nat) (w : World) (h1 : 23 ≤ op) (h2 : op ≤ 24) (hx : xs.length ≤ 1000000) (h : RowAt w w.heap.size A (xs.map .string)) (h0 : A = none → xs.length = 0 ∧ c = 0) (hl : l.length = 16) (ha : a < 4294967296) (hv : v < 4294967296) :
    Calls Tryd.prog 26 #[.int .u8 op, .agg (pteL l).toArray, .slice A xs.length c, .int .u32 a, .int .u32 v] w (StorePost (storeR xs l a (if op = 24 then 1 else 4) v) w) := by
  have HL := Lib.hid hl
  have B0 : Hid (Below w.heap.size w (w.alloc (.cells (pteL l).toArray 29))) := (Below.refl _ _).alloc (Nat.le_refl _) _
  have CS : Hid (∀ sz, sz = 1 ∨ sz = 4 → Calls Tryd.prog 58 #[.slice A xs.length c, .agg (pteL l).toArray, .int .u32 a, .int .i64 (sz : Nat), .int .u32 v] (w.alloc (.cells (pteL l).toArray 29)) (StorePost (storeR xs l a sz v) (w.alloc (.cells (pteL l).toArray 29)))) :=
    fun sz hsz => store_any A c xs l a sz v _ hx ((h.below B0.out).mono (by simp)) h0 hl hsz ha hv
  clear h hl h0 ha
  have key : ∀ (r : Option (List ByteArray)) (e : Ending) (w' : World), StorePost r (w.alloc (.cells (pteL l).toArray 29)) e w' → StorePost r w e w' := fun r e w' hq => by
    unfold StorePost at hq ⊢
    cases r with
    | none => exact ⟨hq.1, B0.out.trans (hq.2.mono (by simp))⟩
    | some ys =>
      obtain ⟨g, c', he, ho, hb⟩ := hq
      exact ⟨g, c', he, own_base ho (by simp), B0.out.trans (hb.mono (by simp))⟩
  have KEY := Lib.hid key
  clear key
  obtain rfl | rfl : op = 23 ∨ op = 24 := by omega
  · go_enter Tryd.func26, Tryd.ntmps26
    go_wp2_with (refine load_blk 29 (.tmp 6) w.heap.size 29 (pteL l).toArray _ rfl rfl rfl (Blk.new w _ _) Tryd.underlying29 rfl (space_size HL.out) ?_)
    refine (CS.out 4 (.inr rfl)).mono ?_
    intro e w1 hq
    replace hq := KEY.out _ _ _ hq
    obtain ⟨r, hr⟩ : ∃ r, storeR xs l a 4 v = r := ⟨_, rfl⟩
    rw [hr] at hq
    have HRR := Lib.hid hr
    clear hr CS KEY
    cases r with
    | none =>
      obtain ⟨rfl, hb⟩ := hq
      go_wp2
      go_ret2
      rw [HRR.out]
      exact ⟨rfl, hb⟩
    | some ys =>
      obtain ⟨g, c', rfl, hq⟩ := hq
      go_wp2
      go_ret2
      rw [HRR.out]
      exact ⟨g, c', rfl, hq⟩
  · go_enter Tryd.func26, Tryd.ntmps26
    go_wp2_with (refine load_blk 29 (.tmp 6) w.heap.size 29 (pteL l).toArray _ rfl rfl rfl (Blk.new w _ _) Tryd.underlying29 rfl (space_size HL.out) ?_)
    refine (CS.out 1 (.inl rfl)).mono ?_
    intro e w1 hq
    replace hq := KEY.out _ _ _ hq
    obtain ⟨r, hr⟩ : ∃ r, storeR xs l a 1 v = r := ⟨_, rfl⟩
    rw [hr] at hq
    have HRR := Lib.hid hr
    clear hr CS KEY
    cases r with
    | none =>
      obtain ⟨rfl, hb⟩ := hq
      go_wp2
      go_ret2
      rw [HRR.out]
      exact ⟨rfl, hb⟩
    | some ys =>
      obtain ⟨g, c', rfl, hq⟩ := hq
      go_wp2
      go_ret2
      rw [HRR.out]
      exact ⟨g, c', rfl, hq⟩
end Go.Proofs.YtcjakmnplkeldaaDoor
