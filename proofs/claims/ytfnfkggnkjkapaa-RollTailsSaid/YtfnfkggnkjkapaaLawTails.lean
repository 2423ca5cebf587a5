/-
  The walk of the law RollTails: what is alike is cut alike.
-/
import Derived.Test.YtfnfkggnkjkapaaLawBehind
import Derived.Maps.Own
import Derived.Maps.OwnOps
import Derived.Maps.OwnSet
import Derived.Maps.Views
namespace Go.Proofs.Ytfnfkggnkjkapaa
open Go.RowKit Go.Maps
set_option linter.unusedVariables false
set_option linter.unusedSimpArgs false

/-- how many bytes chunks have -/
def tot (xs : List ByteArray) : Nat := (xs.map fun x => x.data.toList).flatten.length
theorem tot_cons (x : ByteArray) (xs : List ByteArray) : tot (x :: xs) = x.size + tot xs := by simp [tot]
theorem tot_drop (xs : List ByteArray) (k : Nat) (hk : k < xs.length) : tot (xs.drop k) = xs[k].size + tot (xs.drop (k + 1)) := by
  rw [List.drop_eq_getElem_cons hk, tot_cons]
theorem tot_le (xs : List ByteArray) (k : Nat) : tot (xs.drop k) ≤ tot xs := by
  unfold tot; rw [List.map_drop]; exact flat_le k
/-- a tail of chunks that lies within t -/
theorem tail_is {ls : List (List UInt8)} {f t : List UInt8} (h : ls.flatten = f ++ t) (i : Nat) (hn : (ls.drop i).flatten.length ≤ t.length) : (ls.drop i).flatten = t.drop (t.length - (ls.drop i).flatten.length) := by
  have h1 : (ls.take i).flatten ++ (ls.drop i).flatten = f ++ t := by rw [← List.flatten_append, List.take_append_drop, h]
  have hl := congrArg List.length h1
  simp only [List.length_append] at hl
  have h2 : (ls.drop i).flatten = (f ++ t).drop ((ls.take i).flatten.length) := by rw [← h1, List.drop_left']; rfl
  rw [List.drop_append] at h2
  have h3 : f.drop (ls.take i).flatten.length = [] := List.drop_of_length_le (by omega)
  rw [h3, List.nil_append] at h2
  rw [h2]
  congr 1
  rw [← h2]; omega
theorem tails_one {W m M : Nat} {mask : Int} {f g t : List UInt8} {xs ys : List ByteArray} (ha : P.Cuts W m M mask (f ++ t) (xs.map fun x => x.data.toList)) (hb : P.Cuts W m M mask (g ++ t) (ys.map fun x => x.data.toList))
    (i k : Nat) (he : tot (xs.drop i) = tot (ys.drop k)) (hn : tot (ys.drop k) ≤ t.length) : xs.drop i = ys.drop k := by
  unfold tot at he hn
  rw [List.map_drop] at he hn
  rw [List.map_drop] at he
  have h1 := tail_is (cuts_flat ha) i (by omega)
  have h2 := tail_is (cuts_flat hb) k (by omega)
  rw [he, ← h2] at h1
  have c1 := cuts_behind ha i
  have c2 := cuts_behind hb k
  rw [h1] at c1
  have := c1.det c2
  rw [← List.map_drop, ← List.map_drop] at this
  exact map_data_inj this

/-- what the map tells: of so many bytes behind, the chunk's number -/
def Told (xs : List ByteArray) (D : DataW Unit) : Prop := IsMap D ∧ ∀ n : Int, has D (.int .i64 n) = true → ∃ i : Nat, D.atKey (.int .i64 n) (.lit (.int .i64 0)) = .lit (.int .i64 i) ∧ i < xs.length ∧ n = (tot (xs.drop i) : Nat)
theorem Told.nil (xs : List ByteArray) : Told xs (.map []) := ⟨⟨[], rfl⟩, fun n h => by simp [has] at h⟩

theorem Told.put {xs : List ByteArray} {D : DataW Unit} (h : Told xs D) (k : Nat) (hk : k < xs.length) {n : Int} (hn : n = (tot (xs.drop k) : Nat)) : Told xs (D.put (.int .i64 n) (.lit (.int .i64 (k : Int)))) := by
  refine ⟨h.1.put _ _, fun n' hh => ?_⟩
  by_cases e : n' = n
  · subst e
    exact ⟨k, atKey_put_same (k := .int .i64 n') h.1 (show WideAt.IsKeyLit (.int .i64 n') from trivial) _ _, hk, hn⟩
  · have hne : Lit.int .i64 n' ≠ Lit.int .i64 n := fun h' => e (by injection h')
    rw [has_put_other hne] at hh
    rw [atKey_put_other hne]
    exact h.2 n' hh
theorem cat_data (a b : ByteArray) : (a ++ b).data.toList = a.data.toList ++ b.data.toList := by simp [ByteArray.data_append]
theorem zero3 (w : World) : (zeroValue 3).run Try.prog w = .ok (.int .i64 0) w := by kernel_rfl
theorem wf_i64 {n : Int} (h0 : 0 ≤ n) (h1 : n ≤ 9223372036854775807) : (Lit.int .i64 n).wf = true := WalkArith.wf_i64 (by omega)

set_option maxHeartbeats 1600000 in
theorem law_tails (f g t : ByteArray) (W m M mask : Int) (w : World) (hf : f.size ≤ 140737488351232) (hg : g.size ≤ 140737488351232) (ht : t.size ≤ 140737488351232) :
    Calls Try.prog 4 #[.agg #[.string f, .string g], .string t, cutsV W m M mask] w fun e w' => e = .returned (.bool true) ∧ Below w.heap.size w w' := by
  go_enter Try.func4, Try.ntmps4
  go_wp2_with fail
  refine (alive_any _).mono ?_
  rintro e w1 ⟨rfl, hb1⟩
  have G1 := Lib.hid (((Blk.new w 34 #[.string f, .string g]).alloc (.cells #[.int .i64 W, .int .i64 m, .int .i64 M, .int .u32 mask] 24)).below hb1 (by simp; omega))
  have C1 : Hid (Blk w1 (w.heap.size + 1) 24 #[.int .i64 W, .int .i64 m, .int .i64 M, .int .u32 mask]) := by
    have := Blk.new (w.alloc (.cells #[.string f, .string g] 34)) 24 #[.int .i64 W, .int .i64 m, .int .i64 M, .int .u32 mask]
    simp only [World.size_alloc] at this
    exact this.below hb1 (by simp)
  have B1 : Hid (Below w.heap.size w w1) := (((Below.refl _ _).alloc (Nat.le_refl _) _).alloc (by simp) _).trans (hb1.mono (by simp; omega))
  have p0 : w1.cell? ⟨w.heap.size, 0, none⟩ = some (.string f) := G1.out.cell 0 rfl
  have p1 : w1.cell? ⟨w.heap.size, 1, none⟩ = some (.string g) := G1.out.cell 1 rfl
  have q0 : w1.cell? ⟨w.heap.size + 1, 0, none⟩ = some (.int .i64 W) := C1.out.cell 0 rfl
  have q1 : w1.cell? ⟨w.heap.size + 1, 1, none⟩ = some (.int .i64 m) := C1.out.cell 1 rfl
  have q2 : w1.cell? ⟨w.heap.size + 1, 2, none⟩ = some (.int .i64 M) := C1.out.cell 2 rfl
  have q3 : w1.cell? ⟨w.heap.size + 1, 3, none⟩ = some (.int .u32 mask) := C1.out.cell 3 rfl
  clear hb1
  -- sizes: of lengths that any machine bears the sum is an int
  by_cases hgreat : (f.size : Int) + (g.size : Int) + (t.size : Int) ≤ 5000
  case neg =>
    go_wp2
    go_ret
    exact ⟨rfl, B1.out⟩
  have z1 : f.size + t.size ≤ 5000 := by omega
  have z2 : g.size + t.size ≤ 5000 := by omega
  by_cases hv : 1 ≤ W ∧ W ≤ 64 ∧ W ≤ m ∧ m ≤ M ∧ M ≤ 65536
  · obtain ⟨W, rfl⟩ := Int.eq_ofNat_of_zero_le (show 0 ≤ W by omega)
    obtain ⟨m, rfl⟩ := Int.eq_ofNat_of_zero_le (show 0 ≤ m by omega)
    obtain ⟨M, rfl⟩ := Int.eq_ofNat_of_zero_le (show 0 ≤ M by omega)
    go_wp2_with fail
    refine (cut_ok (f ++ t) W m M mask _ (by rw [ByteArray.size_append]; omega) (by omega) (by omega) (by omega) (by omega) (by omega)).mono ?_
    rintro e w2 ⟨v, xs, rfl, own, hb2, hc⟩
    rw [cat_data] at hc
    have hxs : xs.length ≤ 5000 := by have := cuts_le (by omega) hc; simp at this; omega
    have htx : tot xs ≤ 5000 := by unfold tot; rw [cuts_flat hc]; simp; omega
    obtain ⟨A, c, rfl⟩ := own_form own
    have hcap := own_cap own
    have HC := Lib.hid hc
    have OWN := Lib.hid own
    have B2 := Lib.hid (B1.out.trans (hb2.mono B1.out.size))
    have G2 := Lib.hid (G1.out.below hb2 G1.out.lt)
    have C2 := Lib.hid (C1.out.below hb2 C1.out.lt)
    clear hb2 own hc q0 q1 q2 q3 p0 p1
    have p1 : w2.cell? ⟨w.heap.size, 1, none⟩ = some (.string g) := G2.out.cell 1 rfl
    have q0 : w2.cell? ⟨w.heap.size + 1, 0, none⟩ = some (.int .i64 W) := C2.out.cell 0 rfl
    have q1 : w2.cell? ⟨w.heap.size + 1, 1, none⟩ = some (.int .i64 m) := C2.out.cell 1 rfl
    have q2 : w2.cell? ⟨w.heap.size + 1, 2, none⟩ = some (.int .i64 M) := C2.out.cell 2 rfl
    have q3 : w2.cell? ⟨w.heap.size + 1, 3, none⟩ = some (.int .u32 mask) := C2.out.cell 3 rfl
    go_wp2_with fail
    refine (cut_ok (g ++ t) W m M mask _ (by rw [ByteArray.size_append]; omega) (by omega) (by omega) (by omega) (by omega) (by omega)).mono ?_
    rintro e w3 ⟨v, ys, rfl, own, hb3, hc⟩
    rw [cat_data] at hc
    have hys : ys.length ≤ 5000 := by have := cuts_le (by omega) hc; simp at this; omega
    have hty : tot ys ≤ 5000 := by unfold tot; rw [cuts_flat hc]; simp; omega
    obtain ⟨A2, c2, rfl⟩ := own_form own
    have hcap2 := own_cap own
    have HC2 := Lib.hid hc
    have hz3 := hb3.size
    have R1 := Lib.hid (((RowAt.of_own OWN.out).below hb3).mono hz3)
    have R2 := Lib.hid (RowAt.of_own own)
    have B3 := Lib.hid (B2.out.trans (hb3.mono B2.out.size))
    have hzz := B3.out.size
    have htt : t.data.toList.length = t.size := by simp
    have HTT := Lib.hid htt
    clear hb3 own hc q0 q1 q2 q3 p1 htt
    have hmm := @run_makeMap Try.prog
    have law3 : Keyed Try.prog 3 := int_keyed Try.underlying3
    go_wp2
    go_loopw [12, 13] (fun n i wr => ∃ (k cnt : Nat) (D : DataW Unit), k ≤ xs.length ∧ cnt + k ≤ xs.length ∧ i = .int .i64 ((k : Int) - 1) ∧ n = .int .i64 (tot (xs.drop k) : Nat) ∧
        Hid (wr.ownsMap Try.prog 3 (plainElem Try.prog 3) w3.heap.size cnt D) ∧ Hid (Told xs D) ∧ Hid (Below w3.heap.size w3 wr)) (fun _ i _ => (intOf i + 1).toNat)
    case atStart => exact ⟨xs.length, 0, .map [], Nat.le_refl _, by omega, rfl, by simp [tot], World.ownsMap_made _ _ _ _, Told.nil _, (Below.refl _ _).alloc (Nat.le_refl _) _⟩
    case round =>
      obtain ⟨k, cnt, D, hk, hcnt, rfl, rfl, OM, TOLD, BW⟩ := hrel
      by_cases hlt : 0 < k
      · obtain ⟨k, rfl⟩ : ∃ j, k = j + 1 := ⟨k - 1, by omega⟩
        obtain ⟨b, o, hA, hbl, hcell⟩ := R1.out.at_ (by simp; omega)
        subst hA
        have g1 : wr.cell? ⟨b, o + k, none⟩ = some (.string xs[k]) := (BW.out.cell (p := ⟨b, o + k, none⟩) hbl).trans (hcell k _ (by simp [show k < xs.length by omega]))
        clear hcell
        have ek : ((k + 1 : Nat) : Int) - 1 = (k : Int) := by omega
        rw [ek]
        clear ek
        have htd := tot_drop xs k (by omega)
        have htl := tot_le xs k
        have hne : ∀ u : Nat, 0 ≤ (u : Int) := fun u => by omega
        generalize htx1 : tot (xs.drop (k + 1)) = T1 at htd ⊢
        have HTD := Lib.hid htd
        have hT : T1 + xs[k].size ≤ 5000 := by omega
        clear htd htl hne htx1
        go_wp2_with (first
          | (at_mapUpdate; refine wpList_mapUpdate_own _ rfl _ _ _ 35 rfl 3 3 law3 Try.underlying35 _ w3.heap.size cnt _ rfl OM.out (by unfold maxLen; omega) _ _ _ rfl rfl (keyOf_int_mk Try.underlying3 (wf_i64 (by omega) (by omega))) _ [] (plainElem_int Try.underlying3 (wf_i64 (by omega) (by omega))) ?_; intro w5 hown1 hgrow1))
        go_roundw
        case rel => exact ⟨k, cnt + 1, _, by omega, by omega, rfl, by rw [HTD.out]; congr 1; omega, hown1, TOLD.out.put k (by omega) (by rw [HTD.out]; omega), BW.out.grown hgrow1 BW.out.size (by intro j hj; injection hj with hj; omega)⟩
        case measure => simp [intOf]
      · obtain rfl : k = 0 := by omega
        have e0 : ((0 : Nat) : Int) - 1 = -1 := by omega
        rw [e0]
        clear e0
        obtain ⟨wo, rfl⟩ : ∃ wo : World, wo = wr := ⟨_, rfl⟩
        have RW1 := Lib.hid (R1.out.below BW.out)
        have RW2 := Lib.hid (R2.out.below BW.out)
        have BWO := Lib.hid (B3.out.trans (BW.out.mono hzz))
        have hzo := BW.out.size
        clear hmm
        generalize htx0 : tot (xs.drop 0) = T0
        clear htx0
        go_wp2
        go_loopw [12, 14] (fun n i wr => ∃ k : Nat, k ≤ ys.length ∧ i = .int .i64 ((k : Int) - 1) ∧ n = .int .i64 (tot (ys.drop k) : Nat) ∧ ∃ q, wr = wo.drewN q) (fun _ i _ => (intOf i + 1).toNat)
        case atStart => exact ⟨ys.length, Nat.le_refl _, rfl, by simp [tot], 0, rfl⟩
        case round =>
          obtain ⟨k, hk, rfl, rfl, q, rfl⟩ := hrel
          by_cases hlt : 0 < k
          · obtain ⟨k, rfl⟩ : ∃ j, k = j + 1 := ⟨k - 1, by omega⟩
            obtain ⟨b, o, hA, hbl, hcell⟩ := RW2.out.at_ (by simp; omega)
            subst hA
            have g1 : wo.cell? ⟨b, o + k, none⟩ = some (.string ys[k]) := hcell k _ (by simp [show k < ys.length by omega])
            clear hcell
            have ek : ((k + 1 : Nat) : Int) - 1 = (k : Int) := by omega
            rw [ek]
            clear ek
            have htd := tot_drop ys k (by omega)
            have htl := tot_le ys k
            generalize htx1 : tot (ys.drop (k + 1)) = T1 at htd ⊢
            have HTD := Lib.hid htd
            have hT : T1 + ys[k].size ≤ 5000 := by omega
            clear htd htl htx1
            by_cases hbr : (t.size : Int) < (T1 : Int) + (ys[k].size : Int)
            · go_wp2
              go_ret
              exact ⟨rfl, below_drewN BWO.out q⟩
            · generalize hwq : wo.drewN q = wq at *
              have HWQ := Lib.hid hwq
              have OMQ : Hid (wq.ownsMap Try.prog 3 (plainElem Try.prog 3) w3.heap.size cnt D) := by rw [← hwq]; exact OM
              have g1 : wq.cell? ⟨b, o + k, none⟩ = some (.string ys[k]) := by rw [← hwq]; exact g1
              have RQ1 : Hid (RowAt wq wq.heap.size A (xs.map .string)) := by rw [← hwq]; exact RW1.out.mono hzo
              have RQ2 : Hid (RowAt wq wq.heap.size (some ⟨b, o, none⟩) (ys.map .string)) := by rw [← hwq]; exact RW2.out.mono hzo
              clear hwq
              cases hhas : has D (.int .i64 ((T1 : Int) + (ys[k].size : Int))) with
              | false =>
                go_wp2_with (first
                  | (at_lookup; refine wpList_lookup_own_ok_int _ rfl _ _ 35 rfl 3 3 .i64 law3 Try.underlying35 Try.underlying3 (zero3 _) w3.heap.size cnt _ rfl OMQ.out _ _ rfl (keyOf_int_mk Try.underlying3 (wf_i64 (by omega) (by omega))) ?_; intro ci hat hwc; clear hat hwc))
                go_quiet (fail)
                go_wp2
                go_roundw
                case rel => exact ⟨k, by omega, rfl, by rw [HTD.out]; congr 1; omega, q + nq, by rw [← HWQ.out, World.drewN_drewN]⟩
                case measure => simp [intOf]
              | true =>
                obtain ⟨i, hat, hi, hni⟩ := TOLD.out.2 _ hhas
                have hone := tails_one HC.out HC2.out i k (by rw [HTD.out]; omega) (by rw [HTD.out, HTT.out]; omega)
                have HONE := Lib.hid hone
                obtain ⟨b1, o1, hA1, hbl1, hcell1⟩ := RQ1.out.at_ (by simp; omega)
                subst hA1
                have RD1 := Lib.hid (row_drop i RQ1.out ⟨b1, o1, rfl⟩ b1 o1 rfl)
                have RD2 := Lib.hid (row_drop k RQ2.out ⟨b, o, rfl⟩ b o rfl)
                have HAT := Lib.hid hat
                clear hat hni hone hcell1
                go_wp2_with (first
                  | (at_lookup; refine wpList_lookup_own_ok_int _ rfl _ _ 35 rfl 3 3 .i64 law3 Try.underlying35 Try.underlying3 (zero3 _) w3.heap.size cnt _ rfl OMQ.out _ _ rfl (keyOf_int_mk Try.underlying3 (wf_i64 (by omega) (by omega))) ?_; intro ci hat hwc; obtain rfl : ci = (i : Int) := by rw [HAT.out] at hat; injection hat with h1; injection h1 with h2 h3; exact h3.symm
                     clear hat hwc))
                have i1 : (0 : Int) ≤ (i : Int) := by omega
                have i2 : (i : Int) ≤ (xs.length : Int) := by omega
                have i3 : ¬ c = i := by omega
                have i4 : (0 : Int) ≤ (k : Int) := by omega
                have i5 : (k : Int) ≤ (ys.length : Int) := by omega
                have i6 : ¬ c2 = k := by omega
                go_quiet ((go_at_call 12; refine Calls.quiet_of (same_eq _ _ _ _ _ _ (xs.drop i) (ys.drop k) true _ (by simp) (by simp) (by unfold maxLen; omega) (by unfold maxLen; omega) (by rw [HONE.out]; simp [eqL]) RD1.out RD2.out)))
                go_wp2
                go_roundw
                case rel => exact ⟨k, by omega, rfl, by rw [HTD.out]; congr 1; omega, q + nq, by rw [← HWQ.out, World.drewN_drewN]⟩
                case measure => simp [intOf]
          · obtain rfl : k = 0 := by omega
            go_wp2
            go_ret
            exact ⟨rfl, below_drewN BWO.out q⟩
  · go_wp2_with fail
    refine (cut_no (f ++ t) W m M mask _ hv).mono ?_
    rintro e w2 ⟨rfl, hb2⟩
    have B2 := Lib.hid (B1.out.trans (hb2.mono B1.out.size))
    have G2 := Lib.hid (G1.out.below hb2 G1.out.lt)
    have C2 := Lib.hid (C1.out.below hb2 C1.out.lt)
    clear hb2 q0 q1 q2 q3 p0 p1
    have p1 : w2.cell? ⟨w.heap.size, 1, none⟩ = some (.string g) := G2.out.cell 1 rfl
    have q0 : w2.cell? ⟨w.heap.size + 1, 0, none⟩ = some (.int .i64 W) := C2.out.cell 0 rfl
    have q1 : w2.cell? ⟨w.heap.size + 1, 1, none⟩ = some (.int .i64 m) := C2.out.cell 1 rfl
    have q2 : w2.cell? ⟨w.heap.size + 1, 2, none⟩ = some (.int .i64 M) := C2.out.cell 2 rfl
    have q3 : w2.cell? ⟨w.heap.size + 1, 3, none⟩ = some (.int .u32 mask) := C2.out.cell 3 rfl
    go_wp2_with fail
    refine (cut_no (g ++ t) W m M mask _ hv).mono ?_
    rintro e w3 ⟨rfl, hb3⟩
    go_wp2
    go_ret
    exact ⟨rfl, B2.out.trans (hb3.mono B2.out.size)⟩
end Go.Proofs.Ytfnfkggnkjkapaa
