/-
  What quota.Used tells.
-/
import Derived.Test.YtjmafegckfijbaaQuoA
namespace Go.Proofs.Ytjmafegckfijbaa
open Go.RowKit
set_option linter.unusedVariables false
set_option linter.unusedSimpArgs false
set_option maxRecDepth 100000
/-- the sum and the volume, where the calls keep them -/
structure SumI (B bs bv : Nat) (sl : Value) (s : Nat) (W : World) : Prop where
  fs : Blk W bs 3 #[.int .i64 (s : Int)]
  fv : Blk W bv 22 #[sl]
  low : B ≤ bs
theorem SumI.later {B bs bv : Nat} {sl : Value} {s : Nat} {X Y : World} (h : SumI B bs bv sl s X) (hb : Below X.heap.size X Y) : SumI B bs bv sl s Y := ⟨h.fs.below hb h.fs.lt, h.fv.below hb h.fv.lt, h.low⟩
set_option maxHeartbeats 2000000 in
theorem used_one (B bs bv : Nat) (A : Option Addr) (c : Nat) (xs : List ByteArray) (n s : Nat) (w : World) (hx : xs.length ≤ 1000000) (hs : s ≤ 1000000) (hr : RowAt w w.heap.size A (xs.map .string)) (hz : B ≤ w.heap.size) (h : SumI B bs bv (.slice A xs.length c) s w) :
    Calls Try.prog 70 #[.int .i64 (n : Int), .pointer (some ⟨bs, 0, none⟩), .pointer (some ⟨bv, 0, none⟩)] w fun e w' => e = .returned (.bool true) ∧ SumI B bs bv (.slice A xs.length c) (s + countO xs (n : Int)) w' ∧ w.grownBy w' (some bs) := by
  have HS := Lib.hid h
  have hc := countO_le xs (n : Int)
  have CC : Hid (∀ u : Ext w, Calls Try.prog 22 #[.slice A xs.length c, .int .i64 (n : Int)] u.val fun e w' => e = .returned (.int .i64 (countO xs (n : Int) : Nat)) ∧ Below u.val.heap.size u.val w') := fun u => count_any A c xs n u.val hx (hr.ext u)
  have u0 : ∀ u : Ext w, u.val.cell? ⟨bs, 0, none⟩ = some (.int .i64 (s : Int)) := fun u => u.cell (HS.out.fs.cell 0 rfl)
  have u1 : ∀ u : Ext w, u.val.cell? ⟨bv, 0, none⟩ = some (.slice A xs.length c) := fun u => u.cell (HS.out.fv.cell 0 rfl)
  clear h hr
  generalize countO xs (n : Int) = cn at *
  have s1 : IntKind.i64.wrap ((s : Int) + (cn : Int)) = (s : Int) + (cn : Int) := IntWalk.i64_in _ (by omega)
  go_enter Try.func70, Try.ntmps70
  go_wp2_with fail
  refine wp_region_ext_tail 5 (by kernel_rfl) (by kernel_rfl) ?_
  simp only [List.take_succ_cons, List.take_zero, List.drop_succ_cons, List.drop_zero]
  repeat (go_big_quiet_step (first
    | (go_at_call 22; with_reducible exact Ext.call (CC.out _))))
  refine wpQuiet_nil ?_
  rintro _ ⟨u, rfl⟩
  have H2 := Lib.hid (HS.out.later u.below)
  have UB : Hid (w.grownBy u.val (some bs)) := ⟨u.below.os, u.below.tape, u.below.output, u.below.size, fun k hk _ => u.below.block k hk⟩
  generalize u.val = W2 at *
  clear u0 u1 CC
  have c0 := H2.out.fs.cell 0 rfl
  have c0f := H2.out.fs.frozen 0
  go_wp2
  go_ret
  have hgr := only_setCell (World.grownBy.refl W2 (some bs)) 0 (.int .i64 ((s : Int) + (cn : Int)))
  refine ⟨rfl, ⟨?_, H2.out.fv.grown hgr (by intro e; exact H2.out.fv.ne H2.out.fs (by decide) (Option.some.inj e)), H2.out.low⟩, only_setCell UB.out 0 _⟩
  have := H2.out.fs.set_ 0 (.int .i64 ((s : Int) + (cn : Int)))
  exact this
set_option maxHeartbeats 4000000 in
theorem owned_one (B bs bv b1 bo : Nat) (A : Option Addr) (c : Nat) (xs : List ByteArray) (owner : Int) (w : World) (hx : xs.length ≤ 1000000) (hr : RowAt w B A (xs.map .string)) (hz : B ≤ w.heap.size) (h : SumI B bs bv (.slice A xs.length c) 0 w)
    (h1 : Blk w b1 22 #[.slice A xs.length c]) (h2 : Blk w bo 3 #[.int .i64 owner]) (hne : bo ≠ bs) :
    Calls Try.prog 104 #[.func (Fn.func 70) #[] #[.pointer (some ⟨bs, 0, none⟩), .pointer (some ⟨bv, 0, none⟩)], .pointer (some ⟨b1, 0, none⟩), .pointer (some ⟨bo, 0, none⟩)] w
      fun e w' => e = .returned (.tuple #[]) ∧ SumI B bs bv (.slice A xs.length c) (usedO xs owner) w' ∧ Below B w w' := by
  have HS := Lib.hid h
  have G1 := Lib.hid h1
  have G2 := Lib.hid h2
  have HNE : Hid (bo ≠ bs) := hne
  have HR := Lib.hid hr
  have hal := allO_len xs
  have CA := Lib.hid (all_ino A c xs w hx (hr.mono hz))
  have c1 := h1.cell 0 rfl
  have HOK := Lib.hid (fun n (hn : n ∈ allO xs) => allO_ok hn)
  have HU : Hid (usedO xs owner = usedL xs owner (allO xs)) := rfl
  clear h h1 h2 hr hne
  go_enter Try.func104, Try.ntmps104
  go_wp2_with fail
  refine CA.out.mono ?_
  rintro e w1 ⟨⟨v, rfl, hown⟩, hb1⟩
  obtain ⟨A1, cc, rfl, hrow⟩ := hown.read
  have ON : Hid (w1.ownsRow w.heap.size 3 1 (.slice A1 (allO xs).length cc) (allO xs).length (numsC (allO xs))) := hown
  have H1 := Lib.hid (HS.out.later hb1)
  have B1 := Lib.hid (hb1.mono hz)
  have hbs : Hid (bs < w.heap.size) := HS.out.fs.lt
  replace G1 := Lib.hid (G1.out.below hb1 G1.out.lt)
  replace G2 := Lib.hid (G2.out.below hb1 G2.out.lt)
  clear hb1 hown hrow CA c1 HS
  generalize allO xs = ns at *
  go_wp2
  go_loopw [11] (fun i wr => ∃ k : Nat, k ≤ ns.length ∧ i = .int .i64 k ∧ Hid (SumI B bs bv (.slice A xs.length c) (usedL xs owner (ns.take k)) wr) ∧ Hid (Blk wr b1 22 #[.slice A xs.length c]) ∧ Hid (Blk wr bo 3 #[.int .i64 owner]) ∧ Hid (wr.ownsRow w.heap.size 3 1 (.slice A1 ns.length cc) ns.length (numsC ns)) ∧ Hid (Below B w wr)) (fun i _ => ns.length - (intOf i).toNat)
  case atStart => exact ⟨0, Nat.zero_le _, rfl, H1, G1, G2, ON, B1⟩
  case round =>
    obtain ⟨k, hk, rfl, HSK, GK1, GK2, OK, BK⟩ := hrel
    by_cases hlt : k < ns.length
    · have hmem := List.getElem_mem hlt
      have HEX := Lib.hid (HOK.out _ hmem)
      have HSN : Hid (usedL xs owner (ns.take (k + 1)) = usedL xs owner (ns.take k) + (if hisB xs owner ns[k] = true then countO xs ((ns[k] : Nat) : Int) else 0)) := by
        show _ = _
        rw [List.take_succ_eq_append_getElem hlt, usedL_snoc]
      have hsl := usedL_le xs owner (ns.take k)
      rw [List.length_take] at hsl
      obtain ⟨gn, gc, hgn⟩ := Go.Joins.ownsRow_form OK.out (by omega)
      cases hgn
      have hgnb : w.heap.size ≤ gn := (OK.out.lt gn rfl).1
      have cn : wr.cell? ⟨gn, k, none⟩ = some (.int .i64 ((ns[k] : Nat) : Int)) := by
        rw [OK.out.cellAt k (by omega)]
        unfold numsC
        simp [hlt]
      have CG := Lib.hid (get_ino A c xs ((ns[k] : Nat) : Int) wr hx ((HR.out.below BK.out).mono (by have := BK.out.size; omega)))
      obtain ⟨a0, a1, a2, a3, a4, a5, a6, a7, a8, a9, a10, a11, hg⟩ := len12 (getR_len xs ((ns[k] : Nat) : Int))
      have HH : Hid (hisB xs owner ns[k] = decide ((a2 : Int) = owner)) := by show _ = _; unfold hisB; rw [hg]; rfl
      rw [hg, HEX.out] at CG
      unfold inoC at CG
      simp only [List.map_cons, List.map_nil] at CG
      have cv := GK1.out.cell 0 rfl
      generalize hxk : ns[k] = x at *
      have hsl2 : usedL xs owner (ns.take k) ≤ 1000000 := by omega
      generalize usedL xs owner (ns.take k) = s at *
      have hk64 : k < 64 := by omega
      clear hg hmem HEX hxk hsl hal
      go_wp2_with fail
      refine CG.out.mono ?_
      rintro e w3 ⟨rfl, hb3⟩
      have S3 := Lib.hid (HSK.out.later hb3)
      have G13 := Lib.hid (GK1.out.below hb3 GK1.out.lt)
      have G23 := Lib.hid (GK2.out.below hb3 GK2.out.lt)
      have O3 := Lib.hid (own_below OK.out hb3)
      have B3 := Lib.hid (BK.out.trans (hb3.mono (by have := BK.out.size; omega)))
      clear hb3 CG HSK GK1 GK2 OK BK cn cv
      have I3 := (Below.refl w3.heap.size w3).alloc (Nat.le_refl _) (.cells #[.int .i64 (a0 : Int), .int .i64 (a1 : Int), .int .i64 (a2 : Int), .int .i64 (a3 : Int), .int .i64 (a4 : Int), .int .i64 (a5 : Int), .int .i64 (a6 : Int), .int .i64 (a7 : Int), .int .i64 (a8 : Int), .int .i64 (a9 : Int), .int .i64 (a10 : Int), .int .i64 (a11 : Int)] 45)
      have S4 := Lib.hid (S3.out.later I3)
      have G14 := Lib.hid (G13.out.below I3 G13.out.lt)
      have G24 := Lib.hid (G23.out.below I3 G23.out.lt)
      have O4 := Lib.hid (own_below O3.out I3)
      have B4 := Lib.hid (B3.out.trans (I3.mono (by have := B3.out.size; omega)))
      have co := G24.out.cell 0 rfl
      by_cases hown : (a2 : Int) = owner
      · have HE : Hid (usedL xs owner (ns.take (k + 1)) = s + countO xs (x : Int)) := by show _ = _; rw [HSN.out, HH.out, if_pos (by simpa using hown)]
        clear I3 S3 G13 G23 O3 B3 HH HSN
        subst hown
        go_wp2_with fail
        refine (used_one B bs bv A c xs x s _ hx hsl2 ((HR.out.below B4.out).mono (by have := B4.out.size; omega)) (by have := B4.out.size; omega) S4.out).mono ?_
        rintro e w5 ⟨rfl, hs5, hg5⟩
        rw [← HE.out] at hs5
        have S5 := Lib.hid hs5
        have G15 := Lib.hid (G14.out.grown hg5 (by intro e; exact G14.out.ne S4.out.fs (by decide) (Option.some.inj e)))
        have G25 := Lib.hid (G24.out.grown hg5 (by intro e; exact HNE.out (Option.some.inj e)))
        have O5 := Lib.hid (O4.out.kept hg5 (.inr (by intro e; have e' : gn = bs := Option.some.inj e; have := hbs.out; omega)))
        have B5 := Lib.hid (B4.out.grown hg5 (by have := B4.out.size; omega) (fun j e => by cases e; exact S4.out.low))
        clear hs5 hg5 S4 G14 G24 O4 B4
        go_wp2
        go_roundw
        case rel => exact ⟨k + 1, by omega, by go_num, S5, G15, G25, O5, B5⟩
        case measure => simp [intOf]; omega
      · have HE : Hid (usedL xs owner (ns.take (k + 1)) = s) := by show _ = _; rw [HSN.out, HH.out, if_neg (by simpa using hown)]; rfl
        have hne2 : ((a2 : Int) == owner) = false := by simpa using hown
        clear I3 S3 G13 G23 O3 B3 HH HSN
        rw [← HE.out] at S4
        go_wp2
        go_roundw
        case rel => exact ⟨k + 1, by omega, by go_num, S4, G14, G24, O4, B4⟩
        case measure => simp [intOf]; omega
    · obtain rfl : k = ns.length := by omega
      rw [List.take_length, ← HU.out] at HSK
      go_wp2
      go_end0
      exact ⟨rfl, HSK.out, BK.out⟩
theorem owned_quo (A : Option Addr) (c : Nat) (xs : List ByteArray) (owner : Int) (w : World) :
    Calls Try.prog 69 #[.slice A xs.length c, .int .i64 owner] w fun e w' => ∃ b1 bo, e = .returned (.func (Fn.func 104) #[] #[.pointer (some ⟨b1, 0, none⟩), .pointer (some ⟨bo, 0, none⟩)]) ∧ w.heap.size ≤ bo ∧ Blk w' b1 22 #[.slice A xs.length c] ∧ Blk w' bo 3 #[.int .i64 owner] ∧ Below w.heap.size w w' := by
  go_enter Try.func69, Try.ntmps69
  go_wp2
  go_ret
  refine ⟨_, _, rfl, ?_, (Blk.new w _ _).alloc _, ?_, ((Below.refl w.heap.size w).alloc (Nat.le_refl _) _).alloc (by simp) _⟩
  · simp
  · have := Blk.new (w.alloc (.cells #[.slice A xs.length c] 22)) 3 #[.int .i64 owner]
    rw [World.size_alloc] at this
    exact this
set_option maxHeartbeats 2000000 in
theorem used_quo (A : Option Addr) (c : Nat) (xs : List ByteArray) (owner : Int) (w : World) (hx : xs.length ≤ 1000000) (h : RowAt w w.heap.size A (xs.map .string)) :
    Calls Try.prog 30 #[.slice A xs.length c, .int .i64 owner] w fun e w' => e = .returned (.int .i64 (usedO xs owner : Nat)) ∧ Below w.heap.size w w' := by
  obtain ⟨W0, hW0⟩ : ∃ W0, ((w.alloc (.cells #[.slice A xs.length c] 22)).alloc (.cells #[.int .i64 0] 3)) = W0 := ⟨_, rfl⟩
  have HW0 := Lib.hid hW0
  have B0 : Hid (Below w.heap.size w W0) := hW0 ▸ ((Below.refl w.heap.size w).alloc (Nat.le_refl _) _).alloc (by simp) _
  have S0 : Hid (SumI w.heap.size (w.heap.size + 1) w.heap.size (.slice A xs.length c) 0 W0) := by
    rw [← hW0]
    refine ⟨?_, (Blk.new w _ _).alloc _, by omega⟩
    have := Blk.new (w.alloc (.cells #[.slice A xs.length c] 22)) 3 #[.int .i64 0]
    rw [World.size_alloc] at this
    exact this
  have HR := Lib.hid h
  have HU := usedO_le xs owner
  clear h hW0
  go_enter Try.func30, Try.ntmps30
  go_wp2_with fail
  rw [HW0.out]
  refine (owned_quo A c xs owner W0).mono ?_
  rintro e w1 ⟨b1, bo, rfl, hbo, hb1, hb2, hb⟩
  have S1 := Lib.hid (S0.out.later hb)
  have B1 := Lib.hid (B0.out.trans (hb.mono B0.out.size))
  have hlt : w.heap.size + 1 < W0.heap.size := S0.out.fs.lt
  have CW := Lib.hid (owned_one w.heap.size (w.heap.size + 1) w.heap.size b1 bo A c xs owner w1 hx (HR.out.below B1.out) B1.out.size S1.out hb1 hb2 (by omega))
  clear hb hb1 hb2 HW0 S0 hlt
  go_wp2_with fail
  refine CW.out.mono ?_
  rintro e w2 ⟨rfl, hs2, hb2⟩
  have S2 := Lib.hid hs2
  have B2 := Lib.hid (B1.out.trans hb2)
  have c0 := hs2.fs.cell 0 rfl
  clear hs2 hb2 CW S1
  go_wp2
  go_ret
  exact ⟨rfl, B2.out⟩
end Go.Proofs.Ytjmafegckfijbaa
