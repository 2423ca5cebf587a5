/-
  What the document's Limit, Used and over of layer 22 tell.
-/
import Derived.Test.YtjmafegckfijbaaRExtCnt
import Derived.Test.YtjmafegckfijbaaRInoAll
namespace Go.Proofs.Ytjmafegckfijbaa
open Go.RowKit
set_option linter.unusedVariables false
set_option linter.unusedSimpArgs false
set_option maxRecDepth 100000
set_option maxHeartbeats 2000000 in
theorem rlimit_any (A : Option Addr) (c : Nat) (xs : List ByteArray) (o : Int) (w : World) (hx : xs.length ≤ 1000000) (h : RowAt w w.heap.size A (xs.map .string)) :
    Calls Try.prog 42 #[.slice A xs.length c, .int .i64 o] w fun e w' => e = .returned (.tuple #[.int .i64 (limitO xs o).1, .int .i64 (limitO xs o).2]) ∧ Below w.heap.size w w' := by
  have HR := Lib.hid h
  clear h
  cases ho : ofR xs with
  | none =>
    have HL : Hid (limitO xs o = (0, 3)) := by show _ = _; unfold limitO quoE; rw [ho]; rfl
    have CO := Lib.hid (rof_any A c xs w hx HR.out)
    unfold OfPost ofE at CO
    rw [ho] at CO
    dsimp only at CO
    clear ho
    go_enter Try.func42, Try.ntmps42
    go_wp2_with fail
    refine CO.out.mono ?_
    rintro e w1 ⟨rfl, hb1⟩
    have B1 := Lib.hid hb1
    have hz1 := hb1.size
    clear hb1
    go_wp2
    go_ret2
    rw [HL.out]
    exact ⟨rfl, B1.out.alloc hz1 _⟩
  | some m =>
    have hv := ofR_some.1 ho
    have hvl := hv.len
    have CO := Lib.hid (rof_any A c xs w hx HR.out)
    unfold OfPost ofE at CO
    rw [ho] at CO
    dsimp only at CO
    by_cases hb : o < 0 ∨ 16 ≤ o
    · have HL : Hid (limitO xs o = (0, 1)) := by show _ = _; unfold limitO quoE; rw [ho]; dsimp only; rw [if_pos hb, if_neg (by omega)]
      by_cases hb1 : o < 0
      · clear ho hv hb
        go_enter Try.func42, Try.ntmps42
        go_wp2_with fail
        refine CO.out.mono ?_
        rintro e w1 ⟨rfl, hb1⟩
        have B1 := Lib.hid hb1
        have hz1 := hb1.size
        clear hb1
        go_wp2
        go_ret2
        rw [HL.out]
        exact ⟨rfl, B1.out.alloc hz1 _⟩
      · have hb2 : 15 < o := by omega
        clear ho hv hb
        go_enter Try.func42, Try.ntmps42
        go_wp2_with fail
        refine CO.out.mono ?_
        rintro e w1 ⟨rfl, hb1⟩
        have B1 := Lib.hid hb1
        have hz1 := hb1.size
        clear hb1
        go_wp2
        go_ret2
        rw [HL.out]
        exact ⟨rfl, B1.out.alloc hz1 _⟩
    · obtain ⟨q, rfl⟩ := Int.eq_ofNat_of_zero_le (show 0 ≤ o by omega)
      have hq : q < 16 := by omega
      have HL : Hid (limitO xs (q : Int) = (((limN xs q : Nat) : Int), 0)) := by show _ = _; unfold limitO quoE; rw [ho]; dsimp only; rw [if_neg hb, if_pos rfl, Int.toNat_natCast]
      have hq1 : decide ((q : Int) < 0) = false := by simp
      have hq2 : ¬ 15 < (q : Int) := by omega
      obtain ⟨bb, oo, rfl, hbb, hc⟩ := row_get HR.out 1 (by omega)
      have hsz := hv.size 1 (by omega)
      have HLN : Hid (limN xs q = numAt (blkL xs 1) (2 * q) 2) := rfl
      unfold blkL at HLN
      generalize xs.getD 1 ⟨#[]⟩ = s at *
      obtain ⟨p, hp⟩ : ∃ p, 2 * q = p := ⟨_, rfl⟩
      rw [hp] at HLN
      have p1 : (2 : Int) * (q : Int) = (p : Int) := by omega
      have p2 : p + 2 ≤ 128 := by omega
      have h1 : p < s.size := by omega
      have h2 : p + 1 < s.size := by omega
      have HN : Hid (numAt s.data.toList p 2 = s[p].toNat + 256 * s[p + 1].toNat) := by
        show _ = _
        have hdl : s.data.toList.length = s.size := by rw [Array.length_toList]; rfl
        rw [numAt_twoB (by omega), List.getD_eq_getElem?_getD, List.getD_eq_getElem?_getD, List.getElem?_eq_getElem (by omega), List.getElem?_eq_getElem (by omega)]
        rfl
      have a1 := s[p].toNat_lt
      have a2 := s[p + 1].toNat_lt
      have s1 : IntKind.i64.wrap ((p : Int) + 1) = (p : Int) + 1 := IntWalk.i64_in _ (by omega)
      have s2 : ((p : Int) + 1).toNat = p + 1 := by omega
      have s3 : (0 : Int) ≤ (p : Int) + 1 := by omega
      have s4 : (p : Int) + 1 < (s.size : Int) := by omega
      have s5 : (p : Int) < (s.size : Int) := by omega
      have s6 : (0 : Int) ≤ (p : Int) := by omega
      have s7 : IntKind.i64.wrap (s[p].toNat : Int) = (s[p].toNat : Int) := IntWalk.i64_in _ (by omega)
      have s8 : IntKind.i64.wrap (s[p + 1].toNat : Int) = (s[p + 1].toNat : Int) := IntWalk.i64_in _ (by omega)
      have s9 : IntKind.i64.wrap ((256 : Int) * (s[p + 1].toNat : Int)) = (256 : Int) * (s[p + 1].toNat : Int) := IntWalk.i64_in _ (by omega)
      have s10 : IntKind.i64.wrap ((s[p].toNat : Int) + (256 : Int) * (s[p + 1].toNat : Int)) = (s[p].toNat : Int) + (256 : Int) * (s[p + 1].toNat : Int) := IntWalk.i64_in _ (by omega)
      have s11 : (1 : Int) < (xs.length : Int) := by omega
      have s12 : IntKind.i64.wrap ((2 : Int) * (q : Int)) = (p : Int) := by rw [p1]; exact IntWalk.i64_in _ (by omega)
      clear ho hv hb hp hsz
      go_enter Try.func42, Try.ntmps42
      go_wp2_with fail
      refine CO.out.mono ?_
      rintro e w1 ⟨rfl, hb1⟩
      have B1 := Lib.hid hb1
      have hz1 := hb1.size
      have B2 := Lib.hid (B1.out.alloc hz1 (.cells #[.int .i64 (xs.length : Int), .int .i64 (m : Int), .int .i64 1, .int .i64 2, .int .i64 3, .int .i64 (dataN m : Int)] 66))
      have hcw := (B2.out.cell (p := ⟨bb, oo + 1, none⟩) hbb).trans hc
      clear hb1 CO hc
      go_wp2_with fail
      refine wp_region_ext (by kernel_rfl) (by kernel_rfl) ?_
      repeat (go_big_quiet_step (fail))
      refine wpQuiet_nil ?_
      rintro _ ⟨u, rfl⟩
      have UB := Lib.hid (B2.out.trans (u.below.mono B2.out.size))
      generalize u.val = W2 at *
      go_wp2
      go_ret2
      rw [HL.out, HLN.out, HN.out]
      exact ⟨by push_cast; rfl, UB.out⟩
set_option maxHeartbeats 4000000 in
theorem rused22_any (A : Option Addr) (c : Nat) (xs : List ByteArray) (owner : Int) (w : World) (hx : xs.length ≤ 1000000) (h : RowAt w w.heap.size A (xs.map .string)) :
    Calls Try.prog 43 #[.slice A xs.length c, .int .i64 owner] w fun e w' => e = .returned (.int .i64 (usedO xs owner : Nat)) ∧ Below w.heap.size w w' := by
  have HR := Lib.hid h
  have hal := allO_len xs
  have CA := Lib.hid (rall_ino A c xs w hx h)
  have HU : Hid (usedO xs owner = usedL xs owner (allO xs)) := rfl
  clear h
  go_enter Try.func43, Try.ntmps43
  go_wp2_with fail
  refine CA.out.mono ?_
  rintro e w1 ⟨⟨v, rfl, hown⟩, hb1⟩
  obtain ⟨A1, cc, rfl, hrow⟩ := hown.read
  have ON : Hid (w1.ownsRow w.heap.size 3 1 (.slice A1 (allO xs).length cc) (allO xs).length (numsC (allO xs))) := hown
  have B1 := Lib.hid hb1
  clear hb1 hown hrow CA
  generalize allO xs = ns at *
  go_wp2
  go_loopw [5, 7] (fun sv i wr => ∃ k : Nat, k ≤ ns.length ∧ i = .int .i64 k ∧ sv = .int .i64 (usedL xs owner (ns.take k) : Nat) ∧ Hid (wr.ownsRow w.heap.size 3 1 (.slice A1 ns.length cc) ns.length (numsC ns)) ∧ Hid (Below w.heap.size w wr)) (fun _ i _ => ns.length - (intOf i).toNat)
  case atStart => exact ⟨0, Nat.zero_le _, rfl, rfl, ON, B1⟩
  case round =>
    obtain ⟨k, hk, rfl, rfl, OK, BK⟩ := hrel
    by_cases hlt : k < ns.length
    · have HSN : Hid (usedL xs owner (ns.take (k + 1)) = usedL xs owner (ns.take k) + (if hisB xs owner ns[k] = true then countO xs ((ns[k] : Nat) : Int) else 0)) := by
        show _ = _
        rw [List.take_succ_eq_append_getElem hlt, usedL_snoc]
      have hsl := usedL_le xs owner (ns.take k)
      rw [List.length_take] at hsl
      obtain ⟨gn, gc, hgn⟩ := Go.Joins.ownsRow_form OK.out (by omega)
      cases hgn
      have hgnb : w.heap.size ≤ gn := (OK.out.lt gn rfl).1
      have cn : wr.cell? ⟨gn, k, none⟩ = some (.int .i64 ((ns[k] : Nat) : Int)) := by
        rw [OK.out.cellAt k (by omega)]
        unfold numsC
        simp [hlt]
      have CG := Lib.hid (rget_ino A c xs ((ns[k] : Nat) : Int) wr hx ((HR.out.below BK.out).mono BK.out.size))
      have CC := Lib.hid (fun w h => rcount_any A c xs ((ns[k] : Nat) : Int) w hx h)
      have hcl := countO_le xs ((ns[k] : Nat) : Int)
      obtain ⟨a0, a1, a2, a3, a4, a5, a6, a7, a8, a9, a10, a11, hg⟩ := len12 (getR_len xs ((ns[k] : Nat) : Int))
      have HH : Hid (hisB xs owner ns[k] = decide ((a2 : Int) = owner)) := by show _ = _; unfold hisB; rw [hg]; rfl
      rw [hg] at CG
      unfold inoC at CG
      simp only [List.map_cons, List.map_nil] at CG
      have HNK : Hid ((numsC ns)[k]? = some (.int .i64 ((ns[k] : Nat) : Int))) := by show _ = _; unfold numsC; simp [hlt]
      generalize inoE xs ((ns[k] : Nat) : Int) = ie at *
      generalize hxk : ns[k] = x at *
      have hsl2 : usedL xs owner (ns.take k) ≤ 1000000 := by omega
      generalize usedL xs owner (ns.take k) = s at *
      generalize countO xs (x : Int) = cx at *
      have hk64 : k < 64 := by omega
      have s1 : IntKind.i64.wrap ((s : Int) + (cx : Int)) = (s : Int) + (cx : Int) := IntWalk.i64_in _ (by omega)
      clear hg hxk hsl hal
      go_wp2_with fail
      refine CG.out.mono ?_
      rintro e w3 ⟨rfl, hb3⟩
      have O3 := Lib.hid (own_below OK.out hb3)
      have B3 := Lib.hid (BK.out.trans (hb3.mono BK.out.size))
      clear hb3 CG OK BK cn
      have I3 := (Below.refl w3.heap.size w3).alloc (Nat.le_refl _) (.cells #[.int .i64 (a0 : Int), .int .i64 (a1 : Int), .int .i64 (a2 : Int), .int .i64 (a3 : Int), .int .i64 (a4 : Int), .int .i64 (a5 : Int), .int .i64 (a6 : Int), .int .i64 (a7 : Int), .int .i64 (a8 : Int), .int .i64 (a9 : Int), .int .i64 (a10 : Int), .int .i64 (a11 : Int)] 45)
      have O4 := Lib.hid (own_below O3.out I3)
      have B4 := Lib.hid (B3.out.trans (I3.mono B3.out.size))
      have cn4 := (O4.out.cellAt k (by omega)).trans HNK.out
      by_cases hown : (a2 : Int) = owner
      · have HE : Hid (usedL xs owner (ns.take (k + 1)) = s + cx) := by show _ = _; rw [HSN.out, HH.out, if_pos (by simpa using hown)]
        clear I3 O3 B3 HH HSN
        subst hown
        go_wp2_with fail
        refine (CC.out _ ((HR.out.below B4.out).mono B4.out.size)).mono ?_
        rintro e w5 ⟨rfl, hb5⟩
        have O5 := Lib.hid (own_below O4.out hb5)
        have B5 := Lib.hid (B4.out.trans (hb5.mono B4.out.size))
        clear hb5 O4 B4 cn4
        go_wp2
        go_roundw
        case rel => exact ⟨k + 1, by omega, by go_num, by rw [HE.out]; go_num, O5, B5⟩
        case measure => simp [intOf]; omega
      · have HE : Hid (usedL xs owner (ns.take (k + 1)) = s) := by show _ = _; rw [HSN.out, HH.out, if_neg (by simpa using hown)]; rfl
        have hne2 : ((a2 : Int) == owner) = false := by simpa using hown
        clear I3 O3 B3 HH HSN
        go_wp2
        go_roundw
        case rel => exact ⟨k + 1, by omega, by go_num, by rw [HE.out], O4, B4⟩
        case measure => simp [intOf]; omega
    · obtain rfl : k = ns.length := by omega
      rw [List.take_length, ← HU.out]
      go_wp2
      go_ret
      exact ⟨rfl, BK.out⟩
theorem rover_any (A : Option Addr) (c : Nat) (xs : List ByteArray) (owner lm : Int) (w : World) (hx : xs.length ≤ 1000000) (h : RowAt w w.heap.size A (xs.map .string)) :
    Calls Try.prog 67 #[.slice A xs.length c, .int .i64 owner, .int .i64 lm] w fun e w' => e = .returned (.bool (overB xs owner lm)) ∧ Below w.heap.size w w' := by
  by_cases h0 : lm = 0
  · subst h0
    have HO : Hid (overB xs owner 0 = false) := by show _ = _; unfold overB; simp
    go_enter Try.func67, Try.ntmps67
    go_wp2
    go_ret
    exact ⟨by rw [HO.out]; rfl, Below.refl _ _⟩
  · have HO : Hid (overB xs owner lm = decide (lm < (usedO xs owner : Int))) := by show _ = _; unfold overB; simp [h0]
    have CU := Lib.hid (rused22_any A c xs owner w hx h)
    generalize usedO xs owner = uo at *
    have hne : (lm == 0) = false := by simpa using h0
    clear h
    go_enter Try.func67, Try.ntmps67
    go_wp2_with fail
    refine CU.out.mono ?_
    rintro e w1 ⟨rfl, hb1⟩
    have B1 := Lib.hid hb1
    clear hb1
    go_wp2
    go_ret
    exact ⟨ret_bool (by rw [HO.out]; simp; exact fun _ => h0), B1.out⟩
end Go.Proofs.Ytjmafegckfijbaa
