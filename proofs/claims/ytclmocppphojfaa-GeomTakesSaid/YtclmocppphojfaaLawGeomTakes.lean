/-
  GeomTakes: the walk.
-/
import Derived.Test.YtclmocppphojfaaTakesOwn
namespace Go.Proofs.Ytclmocppphojfaa
open Go.RowKit
set_option linter.unusedVariables false
set_option linter.unusedSimpArgs false
set_option maxRecDepth 100000
def lenV : Value → Nat
  | .slice _ n _ => n
  | _ => 0
theorem int_info : (Try.prog.info? 3).map (fun i => (i.zero, i.size, i.bytes)) = some (some (.int .i64 0), 1, 8) := by kernel_rfl
def intsC (gs : List Nat) : List Value := gs.map fun g => Value.int .i64 (Int.ofNat g)
theorem lenV_own {w : World} {B : Nat} {e : TypeId} {v : Value} {n : Nat} {xs : List Value} (h : w.ownsRow B e 1 v n xs) : lenV v = n := by
  rcases Go.Joins.ownsRow_forms h with ⟨rfl, hn⟩ | ⟨g, cap, rfl⟩
  · rw [hn]; rfl
  · rfl
theorem roomR_le {ys : List ByteArray} {m : Nat} (h : IsVol ys m) : roomR ys ≤ 223 := by
  have := h.len
  rw [room_vol h]; omega
theorem used_free {xs : List ByteArray} {m i : Nat} (hv : IsVol xs m) (hf : freeR xs m = some i) : usedR xs (i : Int) = false := by
  have hl := hv.len
  obtain ⟨h1, h2, h3, h4⟩ := (freeR_some (by omega)).1 hf
  unfold usedR; rw [ofR_some.2 hv]; dsimp only; rw [Int.toNat_natCast, h3]; simp
theorem used_took {xs : List ByteArray} {m i : Nat} (hv : IsVol xs m) (hf : freeR xs m = some i) : usedR (takeV xs i) (i : Int) = true := by
  have hl := hv.len
  obtain ⟨h1, h2, h3, h4⟩ := (freeR_some (by omega)).1 hf
  unfold usedR; rw [ofR_some.2 (hv.take h1 h2)]; dsimp only; rw [Int.toNat_natCast, bit_take hv hf, takeV_length]; simp [h2]
/-- how it stands when k have been given back -/
structure Gives (m : Nat) (gs : List Nat) (k : Nat) (zs : List ByteArray) : Prop where
  vol : IsVol zs m
  sum : roomR zs = k
  each : ∀ j (hj : j < gs.length), k ≤ j → dataN m ≤ gs[j] ∧ gs[j] < zs.length ∧ bitL (blkL zs 2) gs[j] = true
theorem Gives.step {m : Nat} {gs : List Nat} {k : Nat} {zs : List ByteArray} (h : Gives m gs k zs) (hp : gs.Pairwise (· < ·)) (hk : k < gs.length) : Gives m gs (k + 1) (turnV zs gs[k]) := by
  have hl := h.vol.len
  obtain ⟨h1, h2, h3⟩ := h.each k hk (Nat.le_refl _)
  have hb : gs[k] / 8 < (blkL zs 2).length := by rw [h.vol.blk 2 (by omega)]; omega
  refine ⟨h.vol.turn h1 h2, by rw [room_give h.vol h1 h2 h3, h.sum], fun j hj hkj => ?_⟩
  obtain ⟨g1, g2, g3⟩ := h.each j hj (by omega)
  have hlt : gs[k] < gs[j] := List.pairwise_iff_getElem.1 hp k j hk hj (by omega)
  refine ⟨g1, by rw [turnV_length]; exact g2, ?_⟩
  rw [turnV_map (by omega), bitL_turn _ _ _ hb, g3]
  have : ¬ gs[k] = gs[j] := by omega
  simp [this]
theorem Takes.gives {m room : Nat} {gs : List Nat} {ys : List ByteArray} (h : Takes m room gs ys) (h0 : roomR ys = 0) : Gives m gs 0 ys := ⟨h.vol, h0, fun j hj _ => h.each _ (List.getElem_mem hj)⟩
set_option maxHeartbeats 8000000 in
theorem law_takes (a b : Nat) (A : Option Addr) (c : Nat) (acts : List Int) (w : World) (ha : a < 256) (hb : b < 256) (hr : ∀ x ∈ acts, -32768 ≤ x ∧ x < 32768) (h : RowAt w w.heap.size A (acts.map (.int .i16 ·))) :
    Calls Try.prog 5 #[.agg #[.int .u8 a, .int .u8 b], .slice A acts.length c] w fun e w' => e = .returned (.bool true) ∧ Below w.heap.size w w' := by
  obtain ⟨i0, q1, q2, q3, q4⟩ := info_parts int_info
  have I0 := Lib.hid (And.intro q1 (And.intro q2 (And.intro q3 q4)))
  have HR := Lib.hid h
  have HA := Lib.hid hr
  clear h hr q1 q2 q3 q4
  go_enter Try.func5, Try.ntmps5
  go_wp2_with fail
  refine (alive_any _).mono ?_
  rintro e w1 ⟨rfl, hb1⟩
  have B1 : Hid (Below w.heap.size w w1) := ((Below.refl w.heap.size w).alloc (Nat.le_refl _) _).trans (hb1.mono (by simp))
  have G1 := Lib.hid ((Blk.new w 39 #[.int .u8 a, .int .u8 b]).below hb1 (by simp))
  clear hb1
  by_cases h60 : acts.length ≤ 60
  case neg =>
    have h60' : (60 : Int) < (acts.length : Int) := by omega
    go_wp2
    go_ret
    exact ⟨rfl, B1.out⟩
  have h60' : ¬ (60 : Int) < (acts.length : Int) := by omega
  have p0 : w1.cell? ⟨w.heap.size, 0, none⟩ = some (.int .u8 a) := G1.out.cell 0 rfl
  have p1 : w1.cell? ⟨w.heap.size, 1, none⟩ = some (.int .u8 b) := G1.out.cell 1 rfl
  go_wp2_with fail
  refine (volume_any a b A c acts _ ha hb (by omega) HA.out ((HR.out.below B1.out).mono B1.out.size)).mono ?_
  rintro e w2 ⟨⟨v, xs, m, rfl, hown, hvol⟩, hb2⟩
  have B2 := Lib.hid (B1.out.trans (hb2.mono B1.out.size))
  have O2 : Hid (OwnRow xs w v w2) := hown.base B1.out.size
  have V2 := Lib.hid hvol
  have hl := hvol.len
  obtain ⟨A2, c2, rfl, hr2⟩ := hown.read
  have R2 := Lib.hid hr2
  have hne : ((xs.length : Int) == 0) = false := by simp; intro h; subst h; simp at hl
  clear hown hb2 hvol hr2 p0 p1 G1
  have hx0 : ¬ xs.length = 0 := by omega
  go_wp2_with fail
  refine (room_any A2 c2 xs _ (by omega) R2.out).mono ?_
  rintro e w3 ⟨rfl, hb3⟩
  have B3 := Lib.hid (B2.out.trans (hb3.mono B2.out.size))
  have O3 := Lib.hid (own_keep O2.out hb3)
  have HT := Lib.hid (Takes.start V2.out)
  have hrm := roomR_le V2.out
  clear hb3 R2 O2 B2 hl
  generalize roomR xs = room at *
  go_wp2
  go_loopw [7, 8] (fun gv wv wr => ∃ gs ys, Hid (wr.ownsRow w.heap.size 3 1 gv gs.length (intsC gs)) ∧ Hid (OwnRow ys w wv wr) ∧ Hid (Takes m room gs ys) ∧ Hid (Below w.heap.size w wr)) (fun gv _ _ => 300 - lenV gv)
  case atStart => exact ⟨[], xs, World.ownsRow_nil _ _ _ _, O3, HT, B3⟩
  case round =>
    obtain ⟨gs, ys, OG, OY, T, Y⟩ := hrel
    obtain ⟨A4, c4, rfl, hr4⟩ := OY.out.read
    have R4 := Lib.hid hr4
    have hyl := T.out.vol.len
    clear hr4
    go_wp2_with fail
    refine (take_any A4 c4 ys _ (by omega) R4.out).mono ?_
    rintro e w4 ⟨hb4, hq⟩
    rw [ofR_some.2 T.out.vol] at hq
    dsimp only at hq
    have Y4 := Lib.hid (Y.out.trans (hb4.mono Y.out.size))
    have OG4 := Lib.hid (ownsRow_keep OG.out hb4)
    have OY4 := Lib.hid (own_keep OY.out hb4)
    cases hf : freeR ys m with
    | none =>
      rw [hf] at hq
      subst hq
      have h0 := room_full T.out.vol hf
      have GV0 := Lib.hid (T.out.gives h0)
      have RI := Lib.hid T.out.rise
      have hsm : room = gs.length := by have := T.out.sum; omega
      clear hf hb4 h0
      rcases Go.Joins.ownsRow_forms OG4.out with ⟨rfl, hg0⟩ | ⟨g, cap, rfl⟩
      · obtain rfl : gs = [] := List.length_eq_zero_iff.1 hg0
        clear hg0
        go_wp2
        go_loopw [8, 89] (fun wv i wr => ∃ (k : Nat) (zs : List ByteArray), k ≤ ([] : List Nat).length ∧ i = .int .i64 k ∧ Hid (OwnRow zs w wv wr) ∧ Hid (Gives m [] k zs) ∧ Hid (wr.ownsRow w.heap.size 3 1 (.slice none 0 0) ([] : List Nat).length (intsC [])) ∧ Hid (Below w.heap.size w wr)) (fun _ i _ => ([] : List Nat).length - (intOf i).toNat)
        case atStart => exact ⟨0, ys, Nat.zero_le _, rfl, OY4, GV0, OG4, Y4⟩
        case round =>
          obtain ⟨k, zs, hk, rfl, OZ, GZ, OG5, Y5⟩ := hrel
          obtain ⟨A5, c5, rfl, hr5⟩ := OZ.out.read
          have R5 := Lib.hid hr5
          have hzl := GZ.out.vol.len
          clear hr5
          by_cases hlt : k < ([] : List Nat).length
          · exfalso; simp at hlt
          · obtain rfl : k = ([] : List Nat).length := by omega
            have hsum := GZ.out.sum
            have CR := Lib.hid (room_any A5 c5 zs)
            rw [hsum] at CR
            clear hsum
            have e1 : ((([] : List Nat).length : Int) == (room : Int)) = true := by rw [hsm]; simp
            go_wp2_with fail
            refine (CR.out _ (by omega) R5.out).mono ?_
            rintro e w6 ⟨rfl, hb6⟩
            have Y6 := Lib.hid (Y5.out.trans (hb6.mono Y5.out.size))
            clear hb6
            go_wp2
            go_ret
            exact ⟨rfl, Y6.out⟩
      · go_wp2
        go_loopw [8, 89] (fun wv i wr => ∃ (k : Nat) (zs : List ByteArray), k ≤ gs.length ∧ i = .int .i64 k ∧ Hid (OwnRow zs w wv wr) ∧ Hid (Gives m gs k zs) ∧ Hid (wr.ownsRow w.heap.size 3 1 (.slice (some ⟨g, 0, none⟩) gs.length cap) gs.length (intsC gs)) ∧ Hid (Below w.heap.size w wr)) (fun _ i _ => gs.length - (intOf i).toNat)
        case atStart => exact ⟨0, ys, Nat.zero_le _, rfl, OY4, GV0, OG4, Y4⟩
        case round =>
          obtain ⟨k, zs, hk, rfl, OZ, GZ, OG5, Y5⟩ := hrel
          obtain ⟨A5, c5, rfl, hr5⟩ := OZ.out.read
          have R5 := Lib.hid hr5
          have hzl := GZ.out.vol.len
          clear hr5
          by_cases hlt : k < gs.length
          · have hcg : wr.cell? ⟨g, k, none⟩ = some (.int .i64 ((gs[k] : Nat) : Int)) := by
              rw [OG5.out.cellAt k (by omega)]
              unfold intsC
              rw [List.getElem?_map, List.getElem?_eq_getElem hlt]; rfl
            obtain ⟨e1, e2, e3⟩ := GZ.out.each k hlt (Nat.le_refl _)
            have GS := Lib.hid (GZ.out.step RI.out hlt)
            generalize gs[k] = x at *
            have HN : Hid (¬ ((x : Int) < (dataN m : Int) ∨ (zs.length : Int) ≤ (x : Int))) := by intro hh; omega
            have HBT := Lib.hid e3
            have i1 : (0 : Int) ≤ (k : Int) := by omega
            have i2 : (k : Int) < (gs.length : Int) := by omega
            clear e1 e2 e3
            go_wp2_with fail
            refine (give_any A5 c5 zs x _ (by omega) R5.out).mono ?_
            rintro e w6 ⟨hb6, hq⟩
            rw [ofR_some.2 GZ.out.vol] at hq
            dsimp only at hq
            rw [if_neg HN.out, Int.toNat_natCast, if_neg (by rw [HBT.out]; simp)] at hq
            obtain ⟨v6, rfl, hn⟩ := hq
            have O6 : Hid (OwnRow (turnV zs x) w v6 w6) := (hn.own (by rw [turnV_length]; unfold maxLen; omega)).base Y5.out.size
            have Y6 := Lib.hid (Y5.out.trans (hb6.mono Y5.out.size))
            have OG6 := Lib.hid (ownsRow_keep OG5.out hb6)
            clear hb6 hn hcg
            go_wp2
            go_roundw
            case rel => exact ⟨k + 1, turnV zs x, by omega, by go_num, O6, GS, OG6, Y6⟩
            case measure => simp [intOf]; omega
          · obtain rfl : k = gs.length := by omega
            have hsum := GZ.out.sum
            have CR := Lib.hid (room_any A5 c5 zs)
            rw [hsum] at CR
            clear hsum
            have e1 : ((gs.length : Int) == (room : Int)) = true := by simp; omega
            go_wp2_with fail
            refine (CR.out _ (by omega) R5.out).mono ?_
            rintro e w6 ⟨rfl, hb6⟩
            have Y6 := Lib.hid (Y5.out.trans (hb6.mono Y5.out.size))
            clear hb6
            go_wp2
            go_ret
            exact ⟨rfl, Y6.out⟩
    | some i =>
      rw [hf] at hq
      obtain ⟨v5, rfl, hn⟩ := hq
      have O5 : Hid (OwnRow (takeV ys i) w v5 w4) := (hn.own (by rw [takeV_length]; unfold maxLen; omega)).base Y.out.size
      have T5 := Lib.hid (T.out.step hf)
      have U1 := Lib.hid (used_free T.out.vol hf)
      have U2 := Lib.hid (used_took T.out.vol hf)
      have RM := Lib.hid (room_take T.out.vol hf)
      have R4 := Lib.hid ((R4.out.below hb4).mono hb4.size)
      have HL : Hid ((takeV ys i).length = ys.length) := takeV_length ys i
      have NX : Hid (∀ g ∈ gs, g < i) := T.out.next i hf
      have SM := Lib.hid T.out.sum
      have hil : i < 223 := by have := ((freeR_some (by omega)).1 hf).2.1; omega
      clear hf hb4 hn
      generalize takeV ys i = zs at *
      obtain ⟨A5, c5, rfl, hr5⟩ := O5.out.read
      have R5 := Lib.hid hr5
      have hzl : zs.length ≤ 1000000 := by rw [HL.out]; omega
      clear hr5
      go_wp2_with fail
      refine (used_any A4 c4 ys i _ (by omega) R4.out).mono ?_
      rintro e w5 ⟨rfl, hb5⟩
      rw [U1.out]
      have Y5 := Lib.hid (Y4.out.trans (hb5.mono Y4.out.size))
      have OG5 := Lib.hid (ownsRow_keep OG4.out hb5)
      have O5 := Lib.hid (own_keep O5.out hb5)
      have R4 := Lib.hid ((R4.out.below hb5).mono hb5.size)
      have R5 := Lib.hid ((R5.out.below hb5).mono hb5.size)
      clear hb5
      go_wp2_with fail
      refine (used_any A5 c5 zs i _ hzl R5.out).mono ?_
      rintro e w6 ⟨rfl, hb6⟩
      rw [U2.out]
      have Y6 := Lib.hid (Y5.out.trans (hb6.mono Y5.out.size))
      have OG6 := Lib.hid (ownsRow_keep OG5.out hb6)
      have O6 := Lib.hid (own_keep O5.out hb6)
      have R4 := Lib.hid ((R4.out.below hb6).mono hb6.size)
      have R5 := Lib.hid ((R5.out.below hb6).mono hb6.size)
      clear hb6
      go_wp2_with fail
      refine (room_any A5 c5 zs _ hzl R5.out).mono ?_
      rintro e w7 ⟨rfl, hb7⟩
      have Y7 := Lib.hid (Y6.out.trans (hb7.mono Y6.out.size))
      have OG7 := Lib.hid (ownsRow_keep OG6.out hb7)
      have O7 := Lib.hid (own_keep O6.out hb7)
      have R4 := Lib.hid ((R4.out.below hb7).mono hb7.size)
      clear hb7
      go_wp2_with fail
      refine (room_any A4 c4 ys _ (by omega) R4.out).mono ?_
      rintro e w8 ⟨rfl, hb8⟩
      have Y8 := Lib.hid (Y7.out.trans (hb8.mono Y7.out.size))
      have OG8 := Lib.hid (ownsRow_keep OG7.out hb8)
      have O8 := Lib.hid (own_keep O7.out hb8)
      clear hb8 R4 R5 OG4 OG5 OG6 OG7 O5 O6 O7 Y4 Y5 Y6 Y7 U1 U2
      have hrm : roomR zs + 1 = roomR ys := RM.out
      have hsm : roomR ys + gs.length = room := SM.out
      generalize roomR zs = rz at *
      generalize roomR ys = ry at *
      have hgl : gs.length ≤ 223 := by omega
      have OW2 := Lib.hid (OG8.out.alloc (.cells #[.int .i64 (i : Int)] 3))
      have Y9 := Lib.hid (Y8.out.alloc Y8.out.size (.cells #[.int .i64 (i : Int)] 3))
      have O9 : Hid ((w8.alloc (.cells #[.int .i64 (i : Int)] 3)).ownsRow w.heap.size 9 1 (.slice A5 zs.length c5) zs.length (zs.map .string)) := World.ownsRow.alloc O8.out _
      have HC : Hid (∀ j u, [Value.int .i64 (i : Int)][j]? = some u → (w8.alloc (.cells #[.int .i64 (i : Int)] 3)).cell? ((⟨w8.heap.size, 0, none⟩ : Addr).add j) = some u) := fun j u hu => by
        cases j with
        | zero => cases hu; exact (Blk.new w8 3 #[.int .i64 (i : Int)]).cell 0 rfl
        | succ j => simp at hu
      have H1 : Hid (∀ u ∈ [Value.int .i64 (i : Int)], u.oneCell' = true) := fun u hu => by simp at hu; subst hu; rfl
      have HM : Hid (gs.length + 1 ≤ maxLen) := by show _ ≤ _; unfold maxLen; omega
      have HY : Hid ((gs.length + 1) * 8 ≤ 140737488355328) := by show _ ≤ _; omega
      have HB : Hid (w.heap.size ≤ (w8.alloc (.cells #[.int .i64 (i : Int)] 3)).heap.size) := Y9.out.size
      have hsub : (ry : Int) - 1 = (rz : Int) := by omega
      have hw1 : IntKind.i64.wrap ((ry : Int) - 1) = (rz : Int) := by rw [hsub]; exact IntWalk.i64_in _ (by omega)
      have hg250 : ¬ (250 : Int) < (gs.length : Int) := by omega
      have AP : Hid (w8.heap.size = w8.heap.size) := rfl
      rcases Go.Joins.ownsRow_forms OG8.out with ⟨rfl, hg0⟩ | ⟨g, cap, rfl⟩
      · have hlv0 := lenV_own OG8.out
        go_wp2_with (at_builtin; refine wpList_append_own _ rfl (.tmp 82) (.tmp 84) 42 rfl w.heap.size 3 i0 (.int .i64 0) 1 8 Try.underlying42 I0.out.1 I0.out.2.1 I0.out.2.2.1 I0.out.2.2.2 rfl (by decide) _ gs.length (intsC gs) rfl OW2.out ⟨w8.heap.size, 0, none⟩ 1 1 [.int .i64 (i : Int)] rfl rfl HC.out H1.out HM.out HY.out HB.out ?_; intro v9 w9 own hg hv)
        have OGn := Lib.hid own
        have hlv := lenV_own own
        have On : Hid (OwnRow zs w (.slice A5 zs.length c5) w9) := World.ownsRow.kept O9.out hg (own_apart O9.out OW2.out (by decide))
        have Yn := Lib.hid (Y9.out.grown hg HB.out (fun k hk => (OW2.out.lt k hk).1))
        clear own hg hv
        go_wp2
        go_roundw
        case rel => exact ⟨gs ++ [i], zs, by rw [List.length_append]; unfold intsC; rw [List.map_append]; exact OGn.out, On, T5, Yn⟩
        case measure => rw [hlv, hlv0]; omega
      · by_cases hg0 : gs.length = 0
        · have hlv0 := lenV_own OG8.out
          obtain rfl : gs = [] := List.length_eq_zero_iff.1 hg0
          simp only [List.length_nil] at OW2 HM HY hlv0 hg250
          clear hg0
          go_wp2_with (at_builtin; refine wpList_append_own _ rfl (.tmp 82) (.tmp 84) 42 rfl w.heap.size 3 i0 (.int .i64 0) 1 8 Try.underlying42 I0.out.1 I0.out.2.1 I0.out.2.2.1 I0.out.2.2.2 rfl (by decide) _ 0 (intsC []) rfl OW2.out ⟨w8.heap.size, 0, none⟩ 1 1 [.int .i64 (i : Int)] rfl rfl HC.out H1.out HM.out HY.out HB.out ?_; intro v9 w9 own hg hv)
          have OGn := Lib.hid own
          have hlv := lenV_own own
          have On : Hid (OwnRow zs w (.slice A5 zs.length c5) w9) := World.ownsRow.kept O9.out hg (own_apart O9.out OW2.out (by decide))
          have Yn := Lib.hid (Y9.out.grown hg HB.out (fun k hk => (OW2.out.lt k hk).1))
          clear own hg hv
          go_wp2
          go_roundw
          case rel => exact ⟨[] ++ [i], zs, by rw [List.length_append]; unfold intsC; rw [List.map_append]; exact OGn.out, On, T5, Yn⟩
          case measure => rw [hlv]; show _ < 300 - 0; omega
        · have hlv0 := lenV_own OG8.out
          obtain ⟨n1, hn1⟩ : ∃ n1, gs.length = n1 + 1 := ⟨gs.length - 1, by omega⟩
          have hcl : ∃ l : Nat, w8.cell? ⟨g, n1, none⟩ = some (.int .i64 (l : Int)) ∧ l < i := by
            refine ⟨gs[n1]'(by omega), ?_, NX.out _ (List.getElem_mem _)⟩
            rw [OG8.out.cellAt n1 (by omega)]
            unfold intsC
            rw [List.getElem?_map, List.getElem?_eq_getElem (by omega)]; rfl
          obtain ⟨l, hcl, hli⟩ := hcl
          have wl : IntKind.i64.wrap ((gs.length : Int) - 1) = (n1 : Int) := by rw [hn1]; rw [IntWalk.i64_in _ (by omega)]; omega
          have b1 : (0 : Int) ≤ (n1 : Int) := by omega
          have b2 : (n1 : Int) < (gs.length : Int) := by omega
          have b3 : (0 : Int) < (gs.length : Int) := by omega
          have b4 : ¬ (i : Int) ≤ (l : Int) := by omega
          clear hn1
          go_wp2_with (at_builtin; refine wpList_append_own _ rfl (.tmp 82) (.tmp 84) 42 rfl w.heap.size 3 i0 (.int .i64 0) 1 8 Try.underlying42 I0.out.1 I0.out.2.1 I0.out.2.2.1 I0.out.2.2.2 rfl (by decide) _ gs.length (intsC gs) rfl OW2.out ⟨w8.heap.size, 0, none⟩ 1 1 [.int .i64 (i : Int)] rfl rfl HC.out H1.out HM.out HY.out HB.out ?_; intro v9 w9 own hg hv)
          have OGn := Lib.hid own
          have hlv := lenV_own own
          have On : Hid (OwnRow zs w (.slice A5 zs.length c5) w9) := World.ownsRow.kept O9.out hg (own_apart O9.out OW2.out (by decide))
          have Yn := Lib.hid (Y9.out.grown hg HB.out (fun k hk => (OW2.out.lt k hk).1))
          clear own hg hv
          go_wp2
          go_roundw
          case rel => exact ⟨gs ++ [i], zs, by rw [List.length_append]; unfold intsC; rw [List.map_append]; exact OGn.out, On, T5, Yn⟩
          case measure => rw [hlv, hlv0]; omega
end Go.Proofs.Ytclmocppphojfaa
