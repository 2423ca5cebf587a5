/-
  What the helpers of the statements of layer 14 compute: Same, great, page.
-/
import Derived.Test.YtcjakmnplkeldaaDoorCpuSpec
import Derived.Test.YtcjakmnplkeldaaDoorRows
namespace Go.Proofs.YtcjakmnplkeldaaDoor
open Go.RowKit
set_option linter.unusedVariables false
set_option linter.unusedSimpArgs false
def sameN (xs ys : List ByteArray) : Int := if xs = ys then 1 else 0
set_option maxHeartbeats 400000 in
theorem same14_any (A B : Option Addr) (c d : Nat) (xs ys : List ByteArray) (w : World) (hx : xs.length ≤ maxLen) (hy : ys.length ≤ maxLen)
   (ha : RowAt w w.heap.size A (xs.map .string)) (hb : RowAt w w.heap.size B (ys.map .string)) :
    Calls Tryd.prog 15 #[.slice A xs.length c, .slice B ys.length d] w fun e w' => e = .returned (.int .i64 (sameN xs ys)) ∧ Below w.heap.size w w' := by
  unfold maxLen at hx hy
  have HA := Lib.hid ha
  have HB := Lib.hid hb
  clear ha hb
  by_cases hl : xs.length = ys.length
  · have hl1 : (((xs.length : Nat) : Int) != ((ys.length : Nat) : Int)) = false := by simp [hl]
    have HL := Lib.hid hl
    clear hl
    go_enter Tryd.func15, Tryd.ntmps15
    go_wp2
    go_loopw [5] (fun i wr => ∃ k : Nat, k ≤ xs.length ∧ i = .int .i64 k ∧ (∀ j < k, xs[j]? = ys[j]?) ∧ ∃ q, wr = w.drewN q) (fun i _ => xs.length - (intOf i).toNat)
    case atStart => exact ⟨0, Nat.zero_le _, rfl, fun j hj => by omega, 0, rfl⟩
    case round =>
      obtain ⟨k, hk, rfl, hE, q, rfl⟩ := hrel
      have HE := Lib.hid hE
      clear hE
      by_cases hlt : k < xs.length
      · have hlt2 : k < ys.length := by have := HL.out; omega
        obtain ⟨b1, o1, rfl, hb1, hc1⟩ := HA.out.at_ (by simpa using (by omega))
        obtain ⟨b2, o2, rfl, hb2, hc2⟩ := HB.out.at_ (by simpa using (by omega))
        have g1 : w.cell? ⟨b1, o1 + k, none⟩ = some (.string xs[k]) := hc1 k _ (by simp [hlt])
        have g2 : w.cell? ⟨b2, o2 + k, none⟩ = some (.string ys[k]) := hc2 k _ (by simp [hlt2])
        clear hc1 hc2
        by_cases he : xs[k] = ys[k]
        · have HX := Lib.hid he
          have h1 : (!xs[k].toList == ys[k].toList) = false := by rw [he]; exact str_eq _
          clear he
          go_wp2
          go_quiet (fail)
          go_wp2
          go_roundw
          case rel => exact ⟨k + 1, by omega, by go_num, fun j hj => by
            rcases Nat.lt_succ_iff_lt_or_eq.1 hj with h | rfl
            · exact HE.out j h
            · rw [List.getElem?_eq_getElem hlt, List.getElem?_eq_getElem hlt2, HX.out], _, rfl⟩
          case measure => simp [intOf]; omega
        · have HX := Lib.hid he
          have h1 : (!xs[k].toList == ys[k].toList) = true := str_ne he
          clear he
          go_wp2
          go_quiet (fail)
          go_wp2
          go_ret
          exact ⟨ret_int (by unfold sameN; rw [if_neg]; intro h; subst h; exact HX.out rfl), below_drewN (below_drewN (Below.refl _ _) _) _⟩
      · go_wp2
        go_ret
        exact ⟨ret_int (by
          unfold sameN
          rw [if_pos]
          refine List.ext_getElem? fun j => ?_
          by_cases hj : j < k
          · exact HE.out j hj
          · rw [List.getElem?_eq_none (by omega), List.getElem?_eq_none (by have := HL.out; omega)]), below_drewN (Below.refl _ _) _⟩
  · have hl1 : (((xs.length : Nat) : Int) != ((ys.length : Nat) : Int)) = true := by simp; omega
    have HL := Lib.hid hl
    clear hl
    go_enter Tryd.func15, Tryd.ntmps15
    go_wp2
    go_ret
    exact ⟨ret_int (by unfold sameN; rw [if_neg]; intro h; exact HL.out (by rw [h])), Below.refl _ _⟩
/-- few frames, of 128 bytes each -/
def Small (xs : List ByteArray) : Prop := xs.length ≤ 16 ∧ ∀ s ∈ xs, s.size = 128
theorem great14_any (A : Option Addr) (c : Nat) (xs : List ByteArray) (w : World) (hx : xs.length ≤ maxLen) (hs : ∀ s ∈ xs, s.size ≤ 9223372036854775807) (h : RowAt w w.heap.size A (xs.map .string)) :
    Calls Tryd.prog 12 #[.slice A xs.length c] w fun e w' => (e = .returned (.bool true) ∨ (e = .returned (.bool false) ∧ Small xs)) ∧ w = w' := by
  unfold maxLen at hx
  have HA := Lib.hid h
  have HS := Lib.hid hs
  clear h hs
  by_cases h16 : 16 < xs.length
  · have t1 : (16 : Int) < (xs.length : Int) := by omega
    go_enter Tryd.func12, Tryd.ntmps12
    go_wp2
    go_ret
    exact ⟨.inl rfl, rfl⟩
  · have t1 : ¬ (16 : Int) < (xs.length : Int) := by omega
    go_enter Tryd.func12, Tryd.ntmps12
    go_wp2
    go_loop [3] (fun i => ∃ k : Nat, k ≤ xs.length ∧ i = .int .i64 k ∧ Hid (∀ j (h : j < xs.length), j < k → xs[j].size = 128)) (fun i => xs.length - (intOf i).toNat)
    case atStart => exact ⟨0, Nat.zero_le _, rfl, fun j h hj => by omega⟩
    case round =>
      obtain ⟨k, hk, rfl, HE⟩ := hrel
      by_cases hlt : k < xs.length
      · obtain ⟨b1, o1, rfl, hb1, hc1⟩ := HA.out.at_ (by simpa using (by omega))
        have g1 : w.cell? ⟨b1, o1 + k, none⟩ = some (.string xs[k]) := hc1 k _ (by simp [hlt])
        have hsz := HS.out _ (List.getElem_mem hlt)
        clear hc1
        by_cases he : xs[k].size = 128
        · have HX := Lib.hid he
          have h1 : ((xs[k].size : Int) != 128) = false := by rw [he]; rfl
          clear he
          go_wp2
          go_round
          case rel => exact ⟨k + 1, by omega, by go_num, fun j h hj => by
            by_cases e : j = k
            · subst e; exact HX.out
            · exact HE.out j h (by omega)⟩
          case measure => simp [intOf]; omega
        · have h1 : ((xs[k].size : Int) != 128) = true := by simp; omega
          clear he
          go_wp2
          go_ret
          exact ⟨.inl rfl, rfl⟩
      · go_wp2
        go_ret
        refine ⟨.inr ⟨rfl, by omega, fun s hs => ?_⟩, rfl⟩
        obtain ⟨j, hj, rfl⟩ := List.getElem_of_mem hs
        exact HE.out j hj (by omega)
/-- a page of words, so many bytes of it laid -/
def pgC (ws : List Nat) (n : Nat) : List Value := (List.range 128).map fun q => Value.int .u8 (if q < n then ((bt (ws.getD (q / 4) 0) (q % 4) : Nat) : Int) else 0)
def pgL (ws : List Nat) : List UInt8 := (List.range 128).map fun q => UInt8.ofNat (bt (ws.getD (q / 4) 0) (q % 4))
def pgB (ws : List Nat) : ByteArray := ⟨(pgL ws).toArray⟩
theorem pgC_get (ws : List Nat) (n j : Nat) (hj : j < 128) : (pgC ws n).toArray[j]? = some (.int .u8 (if j < n then ((bt (ws.getD (j / 4) 0) (j % 4) : Nat) : Int) else 0)) := by
  simp [pgC, hj]
theorem pgC_set (ws : List Nat) (n : Nat) (hn : n < 128) : (pgC ws n).toArray.setIfInBounds n (.int .u8 (bt (ws.getD (n / 4) 0) (n % 4) : Nat)) = (pgC ws (n + 1)).toArray := by
  rw [List.setIfInBounds_toArray]
  congr 1
  apply List.ext_getElem
  · simp [pgC]
  · intro i h1 h2
    rw [List.getElem_set]
    by_cases e : n = i
    · subst e; simp [pgC]
    · simp only [e, if_false, pgC, List.getElem_map, List.getElem_range]
      by_cases h : i < n
      · simp [h, show i < n + 1 by omega]
      · simp [h, show ¬ i < n + 1 by omega]
theorem bt_zero (j : Nat) : bt 0 j = 0 := by simp [bt]
theorem strOfNums_pg (ws : List Nat) : strOfNums ((List.range 128).map fun q => ((bt (ws.getD (q / 4) 0) (q % 4) : Nat) : Int)) = pgB ws := by
  unfold strOfNums pgB pgL
  rw [List.map_map]
  have : ((fun n => UInt8.ofNat n.toNat) ∘ fun q => ((bt (ws.getD (q / 4) 0) (q % 4) : Nat) : Int)) = fun q => UInt8.ofNat (bt (ws.getD (q / 4) 0) (q % 4)) := by funext i; simp
  rw [this]
set_option maxHeartbeats 1000000 in
theorem page_any (A : Option Addr) (c : Nat) (ws : List Nat) (w : World) (hl : ws.length ≤ maxLen) (hw : ∀ x ∈ ws, x < 4294967296) (h : RowAt w w.heap.size A (ws.map (fun x : Nat => Value.int .u32 (x : Int)))) :
    Calls Tryd.prog 19 #[.slice A ws.length c] w fun e w' => e = .returned (.string (pgB ws)) ∧ Below w.heap.size w w' := by
  unfold maxLen at hl
  have HA := Lib.hid h
  have HW := Lib.hid hw
  have G0 : Hid (Blk (w.alloc (.cells (pgC ws 0).toArray 84)) w.heap.size 84 (pgC ws 0).toArray) := Blk.new w _ _
  clear h hw
  go_enter Tryd.func19, Tryd.ntmps19
  go_wp2
  go_loopw [4] (fun i wr => ∃ k : Nat, k ≤ ws.length ∧ k ≤ 32 ∧ i = .int .i64 k ∧ Hid (Blk wr w.heap.size 84 (pgC ws (4 * k)).toArray) ∧ Hid (Below w.heap.size w wr)) (fun i _ => 32 - (intOf i).toNat)
  case atStart => exact ⟨0, Nat.zero_le _, Nat.zero_le _, rfl, G0, (Below.refl _ _).alloc (Nat.le_refl _) _⟩
  case round =>
    obtain ⟨k, hk1, hk2, rfl, GK, BK⟩ := hrel
    by_cases hlt : k < ws.length ∧ k < 32
    · have t1 : decide ((k : Int) < (ws.length : Int)) = true := by simp; omega
      have t2 : decide ((k : Int) < 32) = true := by simp; omega
      have t3 : (k : Int) < (ws.length : Int) := by omega
      have t4 : (k : Int) < 32 := by omega
      obtain ⟨b1, o1, rfl, hb1, hc1⟩ := HA.out.at_ (by simpa using (by omega))
      have HC : Hid (w.cell? ⟨b1, o1 + k, none⟩ = some (.int .u32 (ws.getD k 0 : Nat))) := hc1 k _ (by simp [hlt.1])
      have hwd : ws.getD k 0 < 4294967296 := by
        have := HW.out _ (List.getElem_mem hlt.1)
        simpa [hlt.1] using this
      have HG : Hid (ws.getD k 0 = ws.getD k 0) := rfl
      obtain ⟨wd, hwd2⟩ : ∃ wd, ws.getD k 0 = wd := ⟨_, rfl⟩
      rw [hwd2] at HC hwd
      have HWD := Lib.hid hwd2
      have HB1 := Lib.hid hb1
      clear hc1 hwd2 hb1 HG
      have hk3 : k < ws.length := hlt.1
      have hk4 : k < 32 := hlt.2
      clear hlt
      go_wp2
      go_loopw [5] (fun j wr2 => ∃ q : Nat, q ≤ 4 ∧ j = .int .i64 q ∧ Hid (Blk wr2 w.heap.size 84 (pgC ws (4 * k + q)).toArray) ∧ Hid (Below w.heap.size w wr2)) (fun j _ => 4 - (intOf j).toNat)
      case atStart => exact ⟨0, Nat.zero_le _, rfl, GK, BK⟩
      case round =>
        obtain ⟨q, hq, rfl, GQ, BQ⟩ := hrel
        by_cases hq4 : q < 4
        · have u1 : (q : Int) < 4 := by omega
          have g1 : wr.cell? ⟨b1, o1 + k, none⟩ = some (.int .u32 (wd : Nat)) := (BQ.out.cell (p := ⟨b1, o1 + k, none⟩) HB1.out).trans HC.out
          have hb := put_byte wd q (by omega) (by omega)
          have HB := Lib.hid hb
          obtain ⟨x, c1⟩ : ∃ x, wr.cell? ⟨w.heap.size, 4 * k + q, none⟩ = some x := ⟨_, GQ.out.cell (4 * k + q) (pgC_get ws _ _ (by omega))⟩
          have c2 := GQ.out.frozen (4 * k + q)
          have HS := Lib.hid (pgC_set ws (4 * k + q) (by omega))
          have hdv : (4 * k + q) / 4 = k := by omega
          have hmd : (4 * k + q) % 4 = q := by omega
          rw [hdv, hmd, HWD.out] at HS
          clear hb hdv hmd
          have i1 : (0 : Int) ≤ 4 * (k : Int) + (q : Int) := by omega
          have i2 : 4 * (k : Int) + (q : Int) < 128 := by omega
          have i3 : (4 * (k : Int) + (q : Int)).toNat = 4 * k + q := by omega
          have i4 : 8 * (q : Int) < 32 := by omega
          go_wp2
          go_roundw
          case rel => exact ⟨q + 1, by omega, by go_num, by
            show Blk _ _ _ _
            rw [show 4 * k + (q + 1) = 4 * k + q + 1 by omega, ← HS.out, ← HB.out]; exact GQ.out.set_ (4 * k + q) _, BQ.out.setCell (Nat.le_refl _) _⟩
          case measure => simp [intOf]; omega
        · obtain rfl : q = 4 := by omega
          go_wp2
          go_roundw
          case rel => exact ⟨k + 1, by omega, by omega, by go_num, GQ, BQ⟩
          case measure => simp [intOf]; omega
    · have HE : Hid ((pgC ws (4 * k)).toArray = ((List.range 128).map fun q => Value.int .u8 ((bt (ws.getD (q / 4) 0) (q % 4) : Nat) : Int)).toArray) := by
        show _ = _
        congr 1
        unfold pgC
        apply List.map_congr_left
        intro q hq
        rw [List.mem_range] at hq
        by_cases h : q < 4 * k
        · rw [if_pos h]
        · rw [if_neg h, show ws.getD (q / 4) 0 = 0 by simp; rw [List.getElem?_eq_none (by omega)]; rfl, bt_zero]; rfl
      rw [HE.out] at GK
      have hcv : (convert 74 9 (.slice (some ⟨w.heap.size, 0, none⟩) 128 128)).run Tryd.prog wr = .ok (.string (pgB ws)) wr := by
        have := run_convert_bytes_arg (P := Tryd.prog) wr 74 5 Tryd.underlying74 Tryd.underlying5 w.heap.size 0 128 128 ((List.range 128).map fun q => ((bt (ws.getD (q / 4) 0) (q % 4) : Nat) : Int)) (by simp) (fun i hi => by
          rw [Nat.zero_add]
          refine GK.out.cell i ?_
          simp [hi]) 9 Tryd.underlying9
        rw [this, strOfNums_pg]
      generalize hst : pgB ws = st at hcv
      have HST := Lib.hid hst
      clear hst
      by_cases h1 : k < ws.length
      · have t1 : decide ((k : Int) < (ws.length : Int)) = true := by simp; omega
        have t2 : decide ((k : Int) < 32) = false := by simp; omega
        clear hlt
        go_wp2
        go_ret
        exact ⟨by rw [HST.out]; rfl, BK.out⟩
      · have t1 : decide ((k : Int) < (ws.length : Int)) = false := by simp; omega
        clear hlt
        go_wp2
        go_ret
        exact ⟨by rw [HST.out]; rfl, BK.out⟩
end Go.Proofs.YtcjakmnplkeldaaDoor
