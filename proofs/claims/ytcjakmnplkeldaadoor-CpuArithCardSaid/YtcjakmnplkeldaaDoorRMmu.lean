/-
  What the document's Find, There, Byte and Load compute.
-/
import Derived.Test.YtcjakmnplkeldaaDoorMmuMem
namespace Go.Proofs.YtcjakmnplkeldaaDoor
open Go.RowKit
set_option linter.unusedVariables false
set_option linter.unusedSimpArgs false

set_option maxHeartbeats 1000000 in
theorem rfind_any (l : List Pte) (a sz : Nat) (wr : Bool) (w : World) (hl : l.length = 16) (hsz : sz = 1 ∨ sz = 4) (ha : a < 4294967296) :
    Calls Tryd.prog 59 #[.agg (pteL l).toArray, .int .u32 a, .int .i64 sz, .bool wr] w (FindPost (findR l a sz wr) w) := by
  by_cases h1 : a < 2048
  · have hi : a / 128 < l.length := by omega
    obtain ⟨p0, p1, p2⟩ := pteL_get l (a / 128) hi
    have hget : l[a / 128]? = some l[a / 128] := List.getElem?_eq_getElem hi
    generalize l[a / 128] = p at p0 p1 p2 hget
    have c0 : (w.alloc (.cells (pteL l).toArray 29)).cell? ⟨w.heap.size, a / 128 * 3, none⟩ = some (.bool p.is) := (Blk.new w 29 _).cell _ (by rw [Nat.mul_comm]; simpa using p0)
    have c1 : (w.alloc (.cells (pteL l).toArray 29)).cell? ⟨w.heap.size, a / 128 * 3 + 1, none⟩ = some (.bool p.wr) := (Blk.new w 29 _).cell _ (by rw [Nat.mul_comm (a / 128)]; simpa using p1)
    have c2 : (w.alloc (.cells (pteL l).toArray 29)).cell? ⟨w.heap.size, a / 128 * 3 + 2, none⟩ = some (.int .i64 p.fr) := (Blk.new w 29 _).cell _ (by rw [Nat.mul_comm (a / 128)]; simpa using p2)
    have i1 : (0 : Int) ≤ (a : Int) / 128 := by omega
    have i2 : (a : Int) / 128 < 16 := by omega
    have i3 : ((a : Int) / 128).toNat = a / 128 := by omega
    have hz : (w.alloc (.cells (pteL l).toArray 29)).heap.size = w.heap.size + 1 := by simp
    have hR : findR l a sz wr = if a % sz = 0 ∧ p.is = true ∧ (wr = true → p.wr = true) then some (p.fr, a % 128) else none := by unfold findR; rw [hget]; simp [h1]
    have h2 : ¬ (2048 : Int) ≤ (a : Int) := by omega
    have h2' : (a : Int) < 2048 := by omega
    clear ha h1 hget p0 p1 p2 hi hl
    obtain ⟨pi, pw, pf⟩ := p
    by_cases hm : a % sz = 0
    · have hm1 : ((a : Int) % 1 != 0) = false := by simp
      have HM : Hid (sz = 4 → ((a : Int) % 4 != 0) = false) := by rintro rfl; simp; omega
      have hF : findR l a sz wr = if (pi && (!wr || pw)) = true then some (pf, a % 128) else none := hR.trans (by cases pi <;> cases wr <;> cases pw <;> simp [hm])
      cases pi <;> cases wr <;> cases pw
      all_goals
        have HF := Lib.hid hF
        clear hF hR hm
        rcases hsz with rfl | rfl
        all_goals
          try have hm4 := HM.out rfl
          clear HM
          go_enter Tryd.func59, Tryd.ntmps59
          go_wp2
          go_ret3
          rw [HF.out]
          exact ⟨rfl, ((Below.refl _ _).alloc (Nat.le_refl _) _).alloc (by simp) _⟩
    · obtain rfl : sz = 4 := by rcases hsz with rfl | rfl; exact absurd (Nat.mod_one a) hm; rfl
      have hm4 : ((a : Int) % 4 != 0) = true := by simp; omega
      have HF : Hid (findR l a 4 wr = none) := hR.trans (by simp [hm])
      clear hR hm hsz
      go_enter Tryd.func59, Tryd.ntmps59
      go_wp2
      go_ret3
      rw [HF.out]
      exact ⟨rfl, (Below.refl _ _).alloc (Nat.le_refl _) _⟩
  · have hR : findR l a sz wr = none := by unfold findR; split <;> simp [h1]
    have HR := Lib.hid hR
    have h1' : ¬ (a : Int) < 2048 := by omega
    have h2' : (2048 : Int) ≤ (a : Int) := by omega
    have h3' : decide ((2048 : Int) ≤ (a : Int)) = true := by simpa using h2'
    clear hR ha h1
    rcases hsz with rfl | rfl
    all_goals
      go_enter Tryd.func59, Tryd.ntmps59
      go_wp2
      go_ret3
      rw [HR.out]
      exact ⟨rfl, (Below.refl _ _).alloc (Nat.le_refl _) _⟩

set_option maxHeartbeats 1000000 in
theorem rthere_any (A : Option Addr) (c : Nat) (xs : List ByteArray) (n : Int) (w : World) (hx : xs.length ≤ 1000000) (h : RowAt w w.heap.size A (xs.map .string)) :
    Calls Tryd.prog 68 #[.slice A xs.length c, .int .i64 n] w fun e w' => e = .returned (.bool (frame xs n).isSome) ∧ w = w' := by
  by_cases h0 : 0 ≤ n
  · obtain ⟨k, rfl⟩ := Int.eq_ofNat_of_zero_le h0
    by_cases h1 : k < xs.length
    · obtain ⟨b, o, rfl, hb, hc⟩ := h.at_ (by simp; omega)
      have g1 : w.cell? ⟨b, o + k, none⟩ = some (.string xs[k]) := hc k _ (by simp [h1])
      have i1 : (0 : Int) ≤ (k : Int) := by omega
      have i2 : (k : Int) < (xs.length : Int) := by omega
      clear hc h
      by_cases h2 : xs[k].size = 128
      · have HF : Hid (frame xs (k : Int) = some xs[k]) := by simp [frame, h1, h2, Hid]
        have h2' : ((xs[k].size : Int) == 128) = true := by simp [h2]
        clear h2
        go_enter Tryd.func68, Tryd.ntmps68
        go_wp2
        go_ret
        exact ⟨ret_bool (by rw [HF.out]; rfl), rfl⟩
      · have HF : Hid (frame xs (k : Int) = none) := by simp [frame, h1, h2, Hid]
        have h2' : ((xs[k].size : Int) == 128) = false := by simp; omega
        clear h2
        go_enter Tryd.func68, Tryd.ntmps68
        go_wp2
        go_ret
        exact ⟨ret_bool (by rw [HF.out]; rfl), rfl⟩
    · have HF : Hid (frame xs (k : Int) = none) := by simp [frame, h1, Hid]
      have h1' : decide (k < xs.length) = false := by simpa using h1
      clear h hx h0
      go_enter Tryd.func68, Tryd.ntmps68
      go_wp2
      go_ret
      exact ⟨ret_bool (by rw [HF.out]; rfl), rfl⟩
  · have HF : Hid (frame xs n = none) := by simp [frame, h0, Hid]
    have h0' : decide (0 ≤ n) = false := by simpa using h0
    clear h hx
    go_enter Tryd.func68, Tryd.ntmps68
    go_wp2
    go_ret
    exact ⟨ret_bool (by rw [HF.out]; rfl), rfl⟩


/-- a byte of memory -/
def byteR (xs : List ByteArray) (l : List Pte) (a : Nat) : Option Nat :=
  match findR l a 1 false with
  | some (f, p) => match frame xs f with
    | some s => some (s.data.toList.getD p 0).toNat
    | none => none
  | none => none
def byteE : Option Nat → Ending
  | some v => .returned (.tuple #[.int .u8 (v : Nat), .bool true])
  | none => .returned (.tuple #[.int .u8 0, .bool false])
def BytePost (r : Option Nat) (w : World) (e : Ending) (w' : World) : Prop := e = byteE r ∧ Below w.heap.size w w'

set_option maxHeartbeats 1000000 in
theorem byte_any (A : Option Addr) (c : Nat) (xs : List ByteArray) (l : List Pte) (a : Nat) (w : World) (hx : xs.length ≤ 1000000) (h : RowAt w w.heap.size A (xs.map .string)) (hl : l.length = 16) (ha : a < 4294967296) :
    Calls Tryd.prog 60 #[.slice A xs.length c, .agg (pteL l).toArray, .int .u32 a] w (BytePost (byteR xs l a) w) := by
  have HR := Lib.hid h
  have HL := Lib.hid hl
  have HA := Lib.hid ha
  clear h hl ha
  go_enter Tryd.func60, Tryd.ntmps60
  go_wp2_with (refine load_blk 29 (.tmp 4) w.heap.size 29 (pteL l).toArray _ rfl rfl rfl (Blk.new w _ _) Tryd.underlying29 rfl (space_size HL.out) ?_)
  refine (rfind_any l a 1 false _ HL.out (Or.inl rfl) HA.out).mono ?_
  rintro e w1 ⟨rfl, hb1⟩
  have B1 : Hid (Below w.heap.size w w1) := ((Below.refl _ _).alloc (Nat.le_refl _) _).trans (hb1.mono (by simp))
  clear hb1
  cases hf : findR l a 1 false with
  | none =>
    have HL0 := Lib.hid (show byteR xs l a = none by unfold byteR; rw [hf])
    clear hf
    unfold findE
    go_wp2
    go_ret2
    rw [HL0.out]
    exact ⟨rfl, B1.out⟩
  | some fp =>
    obtain ⟨f, p⟩ := fp
    have hp := findR_place (Or.inl rfl) hf
    have HF := Lib.hid hf
    clear hf
    unfold findE
    go_wp2_with fail
    refine (rthere_any A c xs f _ hx ((HR.out.below B1.out).mono B1.out.size)).mono ?_
    rintro e w' ⟨rfl, rfl⟩
    cases hfr : frame xs f with
    | none =>
      have HL0 := Lib.hid (show byteR xs l a = none by unfold byteR; rw [HF.out]; simp only [hfr])
      clear hfr
      go_wp2
      go_ret2
      rw [HL0.out]
      exact ⟨rfl, B1.out⟩
    | some s =>
      have HL0 := Lib.hid (show byteR xs l a = some (s.data.toList.getD p 0).toNat by unfold byteR; rw [HF.out]; simp only [hfr])
      obtain ⟨k, rfl, hk, rfl, hs⟩ := frame_some hfr
      obtain ⟨b, o, rfl, hb, hc⟩ := HR.out.at_ (by simp; omega)
      have g1 : w1.cell? ⟨b, o + k, none⟩ = some (.string xs[k]) := (B1.out.cell (p := ⟨b, o + k, none⟩) hb).trans (hc k _ (by simp [hk]))
      have i1 : (0 : Int) ≤ (k : Int) := by omega
      have i2 : (k : Int) < (xs.length : Int) := by omega
      have j1 : p < xs[k].size := by omega
      have j2 : (p : Int) < (xs[k].size : Int) := by omega
      have HE := Lib.hid (show xs[k].data.toList.getD p 0 = xs[k][p] by rw [List.getD_eq_getElem?_getD, List.getElem?_eq_getElem (by simpa using j1)]; rfl)
      clear hfr hc hs hp
      go_wp2
      go_ret2
      rw [HL0.out, HE.out]
      exact ⟨rfl, B1.out⟩

/-- bytes of one page that are looked for together are found one by one -/
theorem findR_each {l : List Pte} {a sz : Nat} {wr : Bool} {f : Int} {p : Nat} (hsz : sz = 1 ∨ sz = 4) (h : findR l a sz wr = some (f, p)) (i : Nat) (hi : i < sz) : findR l (a + i) 1 wr = some (f, p + i) := by
  unfold findR at h
  split at h
  · rename_i q hq
    split at h
    · rename_i hh
      injection h with h
      injection h with h1 h2
      obtain ⟨g1, g2, g3, g4⟩ := hh
      have e1 : (a + i) / 128 = a / 128 := by rcases hsz with rfl | rfl <;> omega
      have e2 : (a + i) % 128 = a % 128 + i := by rcases hsz with rfl | rfl <;> omega
      unfold findR
      rw [e1, hq]
      simp only
      rw [if_pos ⟨by rcases hsz with rfl | rfl <;> omega, by omega, g3, g4⟩, e2, h1, h2]
    · cases h
  · cases h
theorem findR_lt {l : List Pte} {a sz : Nat} {wr : Bool} {f : Int} {p : Nat} (h : findR l a sz wr = some (f, p)) : a < 2048 := by
  unfold findR at h
  split at h
  · split at h
    · rename_i hh; exact hh.1
    · cases h
  · cases h
theorem leN_down (s : ByteArray) (p j n : Nat) (h : p + j + 1 ≤ s.size) : leN ((s.data.toList.drop (p + (j + 1))).take n) * 256 + (s.data.toList.getD (p + j) 0).toNat = leN ((s.data.toList.drop (p + j)).take (n + 1)) := by
  have hl : p + j < s.data.toList.length := by simpa using (by omega : p + j < s.size)
  rw [List.drop_eq_getElem_cons hl, List.take_succ_cons, leN, List.getD_eq_getElem?_getD, List.getElem?_eq_getElem hl, Nat.mul_comm, Nat.add_comm, Nat.add_assoc p j 1]
  rfl

theorem byte_eq (A : Option Addr) (c : Nat) (xs : List ByteArray) (l : List Pte) (a : Nat) (z : Int) (w : World) (r : Option Nat) (hz : z = (a : Int)) (hr : byteR xs l a = r) (hx : xs.length ≤ 1000000) (h : RowAt w w.heap.size A (xs.map .string)) (hl : l.length = 16) (ha : a < 4294967296) :
    Calls Tryd.prog 60 #[.slice A xs.length c, .agg (pteL l).toArray, .int .u32 z] w (BytePost r w) := by
  subst hz hr; exact byte_any A c xs l a w hx h hl ha

set_option maxHeartbeats 1000000 in
theorem rload_any (A : Option Addr) (c : Nat) (xs : List ByteArray) (l : List Pte) (a sz : Nat) (w : World) (hx : xs.length ≤ 1000000) (h : RowAt w w.heap.size A (xs.map .string)) (hl : l.length = 16) (hsz : sz = 1 ∨ sz = 4) (ha : a < 4294967296) :
    Calls Tryd.prog 28 #[.slice A xs.length c, .agg (pteL l).toArray, .int .u32 a, .int .i64 sz] w (LoadPost (loadR xs l a sz) w) := by
  have HR := Lib.hid h
  have HS := Lib.hid hsz
  have HL := Lib.hid hl
  have HA := Lib.hid ha
  clear h hsz hl ha
  go_enter Tryd.func28, Tryd.ntmps28
  go_wp2_with (refine load_blk 29 (.tmp 5) w.heap.size 29 (pteL l).toArray _ rfl rfl rfl (Blk.new w _ _) Tryd.underlying29 rfl (space_size HL.out) ?_)
  refine (rfind_any l a sz false _ HL.out HS.out HA.out).mono ?_
  rintro e w1 ⟨rfl, hb1⟩
  have G1 : Hid (Blk w1 w.heap.size 29 (pteL l).toArray) := (Blk.new w _ _).below hb1 (by simp)
  have B1 : Hid (Below w.heap.size w w1) := ((Below.refl _ _).alloc (Nat.le_refl _) _).trans (hb1.mono (by simp))
  clear hb1
  cases hf : findR l a sz false with
  | none =>
    have HL0 := Lib.hid (show loadR xs l a sz = none by unfold loadR; rw [hf])
    clear hf
    unfold findE
    go_wp2
    go_ret2
    rw [HL0.out]
    exact ⟨rfl, B1.out⟩
  | some fp =>
    obtain ⟨f, p⟩ := fp
    have hp := findR_place HS.out hf
    have hal := findR_lt hf
    have HEA := Lib.hid (fun i hi => findR_each HS.out hf i hi)
    have HF := Lib.hid hf
    have hsz4 : sz ≤ 4 := by rcases HS.out with h | h <;> omega
    have hsz1 : 1 ≤ sz := by rcases HS.out with h | h <;> omega
    clear hf
    unfold findE
    go_wp2
    cases hfr : frame xs f with
    | none =>
      have HL0 := Lib.hid (show loadR xs l a sz = none by unfold loadR; rw [HF.out]; simp only [hfr])
      have HBY := Lib.hid (show byteR xs l (a + (sz - 1)) = none by unfold byteR; rw [HEA.out (sz - 1) (by omega)]; simp only [hfr])
      clear hfr
      go_loopw [13, 14] (fun v i wr => i = .int .i64 ((sz : Int) - 1) ∧ Hid (Blk wr w.heap.size 29 (pteL l).toArray) ∧ Hid (Below w.heap.size w wr)) (fun _ _ _ => 0)
      case atStart => exact ⟨by go_num, G1.out, B1.out⟩
      case round =>
        obtain ⟨rfl, G, B⟩ := hrel
        go_wp2_with (refine load_blk 29 (.tmp 5) w.heap.size 29 (pteL l).toArray _ rfl rfl rfl G.out Tryd.underlying29 rfl (space_size HL.out) ?_)
        refine (byte_eq A c xs l (a + (sz - 1)) _ _ none (by omega) HBY.out hx ((HR.out.below B.out).mono B.out.size) HL.out (by omega)).mono ?_
        rintro e w2 ⟨rfl, hb2⟩
        have B2 := Lib.hid (B.out.trans (hb2.mono B.out.size))
        clear hb2
        unfold byteE
        go_wp2
        go_ret2
        rw [HL0.out]
        exact ⟨rfl, B2.out⟩
    | some s =>
      have HL0 := Lib.hid (show loadR xs l a sz = some (leN ((s.data.toList.drop p).take sz)) by unfold loadR; rw [HF.out]; simp only [hfr])
      have hs : s.size = 128 := by obtain ⟨k, e1, hk, e2, hs⟩ := frame_some hfr; exact hs
      have HBY := Lib.hid (show ∀ j, j < sz → byteR xs l (a + j) = some (s.data.toList.getD (p + j) 0).toNat from fun j hj => by unfold byteR; rw [HEA.out j hj]; simp only [hfr])
      clear hfr
      go_loopw [13, 14] (fun v i wr => ∃ j : Nat, j ≤ sz ∧ i = .int .i64 ((j : Int) - 1) ∧ v = .int .u32 (leN ((s.data.toList.drop (p + j)).take (sz - j)) : Nat) ∧ Hid (Blk wr w.heap.size 29 (pteL l).toArray) ∧ Hid (Below w.heap.size w wr)) (fun _ i _ => (intOf i + 1).toNat)
      case atStart => exact ⟨sz, Nat.le_refl _, by go_num, by simp [leN], G1.out, B1.out⟩
      case round =>
        obtain ⟨j, hj, rfl, rfl, G, B⟩ := hrel
        clear G1 B1
        by_cases hj0 : j = 0
        · subst hj0
          simp only [Nat.add_zero, Nat.sub_zero]
          have hv := leN_four (s.data.toList.drop p) sz (by omega)
          generalize leN ((s.data.toList.drop p).take sz) = v at HL0 hv ⊢
          go_wp2
          go_ret2
          rw [HL0.out]
          exact ⟨rfl, B.out⟩
        · obtain ⟨i, rfl⟩ : ∃ i, j = i + 1 := ⟨j - 1, by omega⟩
          have hd := leN_down s p i (sz - (i + 1)) (by omega)
          rw [show sz - (i + 1) + 1 = sz - i by omega] at hd
          have hv := leN_four (s.data.toList.drop (p + i)) (sz - i) (by omega)
          have hb := (s.data.toList.getD (p + i) 0).toNat_lt
          have HBI := HBY.out i (by omega)
          generalize leN ((s.data.toList.drop (p + (i + 1))).take (sz - (i + 1))) = V at hd ⊢
          generalize (s.data.toList.getD (p + i) 0).toNat = bb at hd hb HBI
          obtain ⟨V2, hV2⟩ : ∃ V2, leN ((s.data.toList.drop (p + i)).take (sz - i)) = V2 := ⟨_, rfl⟩
          rw [hV2] at hd hv
          have HV2 := Lib.hid hV2
          have HBI := Lib.hid HBI
          have HVE := Lib.hid (show ((V : Int) * 256 + (bb : Int)) = (V2 : Int) by omega)
          have hle : V * 256 + bb < 4294967296 := by omega
          have hs2 : 128 ≤ s.size := by omega
          clear hd hV2 hv hs
          have hbb : (bb : Int) < 256 := by omega
          clear hb
          go_wp2_with (refine load_blk 29 (.tmp 5) w.heap.size 29 (pteL l).toArray _ rfl rfl rfl G.out Tryd.underlying29 rfl (space_size HL.out) ?_)
          refine (byte_eq A c xs l (a + i) _ _ (some bb) (by omega) HBI.out hx ((HR.out.below B.out).mono B.out.size) HL.out (by omega)).mono ?_
          rintro e w2 ⟨rfl, hb2⟩
          have B2 := Lib.hid (B.out.trans (hb2.mono B.out.size))
          have G2 := Lib.hid (G.out.below hb2 G.out.lt)
          clear hb2
          unfold byteE
          go_wp2
          go_roundw
          case rel => exact ⟨i, by omega, by go_num, by rw [HVE.out, ← HV2.out], G2.out, B2.out⟩
          case measure => simp [intOf]
end Go.Proofs.YtcjakmnplkeldaaDoor
