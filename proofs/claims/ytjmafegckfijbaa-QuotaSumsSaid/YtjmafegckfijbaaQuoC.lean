/-
  What quota.Set and Check do.
-/
import Derived.Test.YtjmafegckfijbaaQuoB
namespace Go.Proofs.Ytjmafegckfijbaa
open Go.RowKit
set_option linter.unusedVariables false
set_option linter.unusedSimpArgs false
set_option maxRecDepth 100000
set_option maxHeartbeats 4000000 in
theorem set_quo (A : Option Addr) (c : Nat) (xs : List ByteArray) (o lm : Int) (w : World) (hx : xs.length ≤ 1000000) (h : RowAt w w.heap.size A (xs.map .string)) :
    Calls Try.prog 26 #[.slice A xs.length c, .int .i64 o, .int .i64 lm] w (RowCode (setO xs o lm).1 (setO xs o lm).2 w) := by
  have HR := Lib.hid h
  clear h
  cases ho : ofR xs with
  | none =>
    have HL : Hid (setO xs o lm = ([], 3)) := by show _ = _; unfold setO quoE; rw [ho]; rfl
    have CO := Lib.hid (of_any A c xs w hx HR.out)
    unfold OfPost ofE at CO
    rw [ho] at CO
    dsimp only at CO
    clear ho
    go_enter Try.func26, Try.ntmps26
    go_wp2_with fail
    refine CO.out.mono ?_
    rintro e w1 ⟨rfl, hb1⟩
    have B1 := Lib.hid hb1
    have hz1 := hb1.size
    clear hb1
    go_wp2
    go_ret2
    rw [HL.out]
    exact ⟨⟨_, rfl, own_nil _ _⟩, B1.out.alloc hz1 _⟩
  | some m =>
    have hv := ofR_some.1 ho
    have hvl := hv.len
    have CO := Lib.hid (of_any A c xs w hx HR.out)
    unfold OfPost ofE at CO
    rw [ho] at CO
    dsimp only at CO
    by_cases hb : o < 0 ∨ 16 ≤ o
    · have HL : Hid (setO xs o lm = ([], 1)) := by show _ = _; unfold setO quoE; rw [ho]; dsimp only; rw [if_pos hb, if_pos (by omega)]
      have HQ : Hid (decide (0 ≤ o ∧ o < 16) = false) := by show _ = _; rw [decide_eq_false_iff_not]; omega
      clear ho hv hb
      go_enter Try.func26, Try.ntmps26
      go_wp2_with fail
      refine CO.out.mono ?_
      rintro e w1 ⟨rfl, hb1⟩
      have B1 := Lib.hid hb1
      have hz1 := hb1.size
      have G1 := Lib.hid (Blk.new w1 66 #[.int .i64 (xs.length : Int), .int .i64 (m : Int), .int .i64 1, .int .i64 2, .int .i64 3, .int .i64 (dataN m : Int)])
      have B2 := Lib.hid (B1.out.alloc hz1 (.cells #[.int .i64 (xs.length : Int), .int .i64 (m : Int), .int .i64 1, .int .i64 2, .int .i64 3, .int .i64 (dataN m : Int)] 66))
      have R2 := Lib.hid ((HR.out.below B2.out).mono B2.out.size)
      clear hb1 CO
      go_wp2_with fail
      refine (quo_is o _).mono ?_
      rw [HQ.out]
      rintro e w' ⟨rfl, rfl⟩
      go_wp2
      go_ret2
      rw [HL.out]
      exact ⟨⟨_, rfl, own_nil _ _⟩, B2.out⟩
    · obtain ⟨q, rfl⟩ := Int.eq_ofNat_of_zero_le (show 0 ≤ o by omega)
      have hq : q < 16 := by omega
      have HE : Hid (quoE xs (q : Int) = 0) := by show _ = _; unfold quoE; rw [ho]; dsimp only; rw [if_neg hb]
      have HQ : Hid (decide (0 ≤ (q : Int) ∧ (q : Int) < 16) = true) := by show _ = _; rw [decide_eq_true_iff]; omega
      have HL0 : Hid (setO xs (q : Int) lm = if lm < 0 ∨ 65535 < lm then ([], 2) else if overB xs (q : Int) lm = true then ([], 13) else (layX xs 1 (2 * q) (putL lm.toNat 2), 0)) := by show _ = _; unfold setO; rw [HE.out]; rfl
      by_cases hl : lm < 0 ∨ 65535 < lm
      · have HL : Hid (setO xs (q : Int) lm = ([], 2)) := by show _ = _; rw [HL0.out, if_pos hl]
        clear ho hv hb HL0
        by_cases hl1 : lm < 0
        · clear hl
          go_enter Try.func26, Try.ntmps26
          go_wp2_with fail
          refine CO.out.mono ?_
          rintro e w1 ⟨rfl, hb1⟩
          have B1 := Lib.hid hb1
          have hz1 := hb1.size
          have G1 := Lib.hid (Blk.new w1 66 #[.int .i64 (xs.length : Int), .int .i64 (m : Int), .int .i64 1, .int .i64 2, .int .i64 3, .int .i64 (dataN m : Int)])
          have B2 := Lib.hid (B1.out.alloc hz1 (.cells #[.int .i64 (xs.length : Int), .int .i64 (m : Int), .int .i64 1, .int .i64 2, .int .i64 3, .int .i64 (dataN m : Int)] 66))
          have R2 := Lib.hid ((HR.out.below B2.out).mono B2.out.size)
          clear hb1 CO
          go_wp2_with fail
          refine (quo_is (q : Int) _).mono ?_
          rw [HQ.out]
          rintro e w' ⟨rfl, rfl⟩
          go_wp2
          go_ret2
          rw [HL.out]
          exact ⟨⟨_, rfl, own_nil _ _⟩, B2.out⟩
        · have hl2 : 65535 < lm := by omega
          clear hl
          go_enter Try.func26, Try.ntmps26
          go_wp2_with fail
          refine CO.out.mono ?_
          rintro e w1 ⟨rfl, hb1⟩
          have B1 := Lib.hid hb1
          have hz1 := hb1.size
          have G1 := Lib.hid (Blk.new w1 66 #[.int .i64 (xs.length : Int), .int .i64 (m : Int), .int .i64 1, .int .i64 2, .int .i64 3, .int .i64 (dataN m : Int)])
          have B2 := Lib.hid (B1.out.alloc hz1 (.cells #[.int .i64 (xs.length : Int), .int .i64 (m : Int), .int .i64 1, .int .i64 2, .int .i64 3, .int .i64 (dataN m : Int)] 66))
          have R2 := Lib.hid ((HR.out.below B2.out).mono B2.out.size)
          clear hb1 CO
          go_wp2_with fail
          refine (quo_is (q : Int) _).mono ?_
          rw [HQ.out]
          rintro e w' ⟨rfl, rfl⟩
          go_wp2
          go_ret2
          rw [HL.out]
          exact ⟨⟨_, rfl, own_nil _ _⟩, B2.out⟩
      obtain ⟨k, rfl⟩ := Int.eq_ofNat_of_zero_le (show 0 ≤ lm by omega)
      rw [if_neg hl, Int.toNat_natCast] at HL0
      have hk1 : decide ((k : Int) < 0) = false := by simp
      have hk2 : ¬ 65535 < (k : Int) := by omega
      have hkk : k ≤ 65535 := by omega
      obtain ⟨j0, q1, q2, q3, q4⟩ := info_parts str_info
      have J0 := Lib.hid (And.intro q1 (And.intro q2 (And.intro q3 q4)))
      obtain ⟨bb, oo, rfl, hbb, hc⟩ := row_get HR.out 1 (by omega)
      have hsz := hv.size 1 (by omega)
      have HLX : Hid (layX xs 1 (2 * q) (putL k 2) = xs.set 1 (layB (xs.getD 1 ⟨#[]⟩) (2 * q) (putL k 2))) := rfl
      generalize hs : xs.getD 1 ⟨#[]⟩ = s at hsz hc HLX
      have HS := Lib.hid hs
      obtain ⟨p, hp⟩ : ∃ p, 2 * q = p := ⟨_, rfl⟩
      rw [hp] at HLX HL0
      have p1 : (2 : Int) * (q : Int) = (p : Int) := by omega
      have p2 : p + 2 ≤ 128 := by omega
      obtain ⟨st, hst⟩ : ∃ st : ByteArray, (⟨(putL k 2).toArray⟩ : ByteArray) = st := ⟨_, rfl⟩
      have hstl : st.data.toList = putL k 2 := by rw [← hst]
      have hst2 : st.size = 2 := by
        rw [← hst]
        show (putL k 2).toArray.size = 2
        rw [List.size_toArray, putL_length]
      have CP : Hid (∀ (W : World) (u : Ext W), Calls Try.prog 66 #[.int .u64 k, .int .i64 2] u.val fun e w' => e = .returned (.string st) ∧ Below u.val.heap.size u.val w') := fun W u => by
        have := put_any k 2 u.val (by omega) (by omega)
        rw [hst] at this
        exact this
      have HLAY : Hid (layX xs 1 p (putL k 2) = xs.set 1 (s.extract 0 p ++ st ++ s.extract (p + 2) s.size)) := by
        show _ = _
        rw [HLX.out]
        congr 1
        apply WideShapes.bytes_inj
        have e1 := Lib.extract_data s 0 p
        have e2 : (s.extract (p + 2) s.size).data.toList = s.data.toList.drop (p + 2) := by
          rw [Lib.extract_data, List.take_of_length_le]
          rw [List.length_drop, Array.length_toList]; exact Nat.le_refl _
        rw [layB_list, putL_length]
        simp only [ByteArray.data_append, Array.toList_append, e1, e2, List.drop_zero, Nat.sub_zero, hstl]
      have ze : ∀ a b, a ≤ b → b ≤ 128 → (s.extract a b).size = b - a := fun a b h1 h2 => by rw [ByteArray.size_extract]; omega
      have ad1 := fun (w : World) => run_string_add_sum (P := Try.prog) (w := w) (s.extract 0 p) st (by rw [ze 0 p (by omega) (by omega)]; omega)
      have ad2 := fun (w : World) => run_string_add_sum (P := Try.prog) (w := w) (s.extract 0 p ++ st) (s.extract (p + 2) s.size) (by rw [ByteArray.size_append, ze 0 p (by omega) (by omega), ze (p + 2) s.size (by omega) (by omega)]; omega)
      have s1 : IntKind.i64.wrap ((p : Int) + 2) = (p : Int) + 2 := IntWalk.i64_in _ (by omega)
      have s2 : (0 : Int) ≤ (p : Int) + 2 := by omega
      have s3 : ((p : Int) + 2).toNat = p + 2 := by omega
      have s4 : (p : Int) ≤ (s.size : Int) := by omega
      have s5 : (p : Int) + 2 ≤ (s.size : Int) := by omega
      have s6 : (0 : Int) ≤ (p : Int) := by omega
      have s7 : (1 : Int) < (xs.length : Int) := by omega
      have s8 : IntKind.u64.wrap (k : Int) = (k : Int) := IntWalk.u64_in _ (by omega)
      have hul := usedO_le xs (q : Int)
      clear ho hv hb hl q1 q2 q3 q4 hst hp hs HLX HE ze hstl hsz
      have A' : Option Addr := some ⟨bb, oo, none⟩
      by_cases hk0 : k = 0
      · subst hk0
        have HO : Hid (overB xs (q : Int) 0 = false) := by show _ = _; unfold overB; simp
        have HL : Hid (setO xs (q : Int) ((0 : Nat) : Int) = (layX xs 1 p (putL 0 2), 0)) := by show _ = _; rw [HL0.out]; rw [show ((0 : Nat) : Int) = 0 from rfl, HO.out]; rfl
        clear HL0 HO
        have e0 : ((0 : Nat) : Int) = 0 := rfl
        rw [e0] at HL CP s8 ⊢
        clear e0
        go_enter Try.func26, Try.ntmps26
        go_wp2_with fail
        refine CO.out.mono ?_
        rintro e w1 ⟨rfl, hb1⟩
        have B1 := Lib.hid hb1
        have hz1 := hb1.size
        have G1 := Lib.hid (Blk.new w1 66 #[.int .i64 (xs.length : Int), .int .i64 (m : Int), .int .i64 1, .int .i64 2, .int .i64 3, .int .i64 (dataN m : Int)])
        have B2 := Lib.hid (B1.out.alloc hz1 (.cells #[.int .i64 (xs.length : Int), .int .i64 (m : Int), .int .i64 1, .int .i64 2, .int .i64 3, .int .i64 (dataN m : Int)] 66))
        have R2 := Lib.hid ((HR.out.below B2.out).mono B2.out.size)
        clear hb1 CO
        go_wp2_with fail
        refine (quo_is (q : Int) _).mono ?_
        rw [HQ.out]
        rintro e w' ⟨rfl, rfl⟩
        generalize hw2 : w1.alloc _ = w2 at *
        clear hw2
        have R3 := Lib.hid ((HR.out.below B2.out).mono B2.out.size)
        have c2 := G1.out.cell 2 rfl
        have HC : Hid (∀ j u, (xs.map Value.string)[j]? = some u → w2.cell? ((⟨bb, oo, none⟩ : Addr).add j) = some u) := fun j u hu => by
          have : (⟨bb, oo, none⟩ : Addr).add j = ⟨bb, oo + j, none⟩ := by unfold Addr.add; split <;> simp_all
          obtain ⟨b', o', hA, _, hcc⟩ := R3.out.at_ (by simp; omega)
          cases hA
          rw [this]; exact hcc j u hu
        have H1 := Lib.hid (str_cells xs)
        have HM : Hid (0 + xs.length ≤ maxLen) := by show _ ≤ _; unfold maxLen; omega
        have HY : Hid ((0 + xs.length) * 16 ≤ 140737488355328) := by show _ ≤ _; omega
        have hzW : w.heap.size ≤ w2.heap.size := B2.out.size
        have cs : w2.cell? ⟨bb, oo + 1, none⟩ = some (.string s) := (B2.out.cell (p := ⟨bb, oo + 1, none⟩) hbb).trans hc
        go_wp2_with (at_builtin; refine wpList_append_own _ rfl (.const (.slice none 0 0)) (.tmp 38) 22 rfl w.heap.size 9 j0 (.string ⟨#[]⟩) 1 16 Try.underlying22 J0.out.1 J0.out.2.1 J0.out.2.2.1 J0.out.2.2.2 rfl (by decide) _ 0 [] rfl (World.ownsRow_nil _ _ _ _) ⟨bb, oo, none⟩ xs.length c (xs.map .string) rfl (by rw [List.length_map, Nat.mul_one]) HC.out H1.out HM.out HY.out hzW ?_; intro v9 W2 own hg hv9; rw [Nat.zero_add, List.nil_append] at own; have hg0 : World.grownBy _ W2 none := hg; obtain ⟨gr, cr, rfl⟩ := Go.Joins.ownsRow_form own (by omega); have G4 := G1.out.grown hg0 (by simp); have c4 := G4.cell 2 rfl; have cs4 : W2.cell? ⟨bb, oo + 1, none⟩ = some (.string s) := ((B2.out.grown hg0 hzW (by intro k hk; cases hk)).cell (p := ⟨bb, oo + 1, none⟩) hbb).trans hc)
        have OR := Lib.hid own
        have B4 := Lib.hid (B2.out.grown hg0 hzW (by intro k hk; cases hk))
        have hgr : w.heap.size ≤ gr := (own.lt gr rfl).1
        clear hg hg0 hv9 own
        have u1 : ∀ u : Ext W2, u.val.cell? ⟨w1.heap.size, 2, none⟩ = some (.int .i64 1) := fun u => u.cell c4
        clear c2 cs c4 HC H1 HM HY
        refine wp_region_ext_tail 18 (by kernel_rfl) (by kernel_rfl) ?_
        simp only [List.take_succ_cons, List.take_zero, List.drop_succ_cons, List.drop_zero]
        repeat (go_big_quiet_step (first
          | (go_at_call 66; with_reducible exact Ext.call (CP.out _ _))))
        refine wpQuiet_nil ?_
        rintro _ ⟨u, rfl⟩
        have OR3 := Lib.hid (own_below OR.out u.below)
        have B5 := Lib.hid (B4.out.trans (u.below.mono B4.out.size))
        generalize u.val = W3 at *
        clear u1
        have d1 : W3.cell? ⟨gr, 1, none⟩ = some (.string (xs.getD 1 ⟨#[]⟩)) := by
          rw [OR3.out.cellAt 1 (by omega)]
          rw [List.getElem?_map, List.getD_eq_getElem?_getD, List.getElem?_eq_getElem (by omega)]; rfl
        have d2 : W3.frozen? ⟨gr, 1, none⟩ = false := OR3.out.frozenAt 1
        generalize xs.getD 1 ⟨#[]⟩ = s' at d1
        obtain ⟨o1, o2⟩ := World.ownsRow.stored OR3.out 1 (.string (s.extract 0 p ++ st ++ s.extract (p + 2) s.size))
        have OR4 := Lib.hid o1
        have B6 := Lib.hid (B5.out.setCell hgr (p := ⟨gr, 1, none⟩) (.string (s.extract 0 p ++ st ++ s.extract (p + 2) s.size)))
        clear o1 o2
        go_wp2
        go_ret2
        rw [HL.out]
        refine ⟨⟨_, rfl, ?_⟩, B6.out⟩
        unfold OwnRow
        rw [HLAY.out, List.length_set, List.map_set]
        exact OR4.out
      · have hkne : ¬ (k : Int) = 0 := by omega
        by_cases hov : k < usedO xs (q : Int)
        · have HO : Hid (overB xs (q : Int) (k : Int) = true) := by show _ = _; unfold overB; rw [decide_eq_true_iff]; omega
          have HL : Hid (setO xs (q : Int) (k : Int) = ([], 13)) := by show _ = _; rw [HL0.out, HO.out]; rfl
          have hov2 : (k : Int) < (usedO xs (q : Int) : Int) := by omega
          clear HL0 HO
          go_enter Try.func26, Try.ntmps26
          go_wp2_with fail
          refine CO.out.mono ?_
          rintro e w1 ⟨rfl, hb1⟩
          have B1 := Lib.hid hb1
          have hz1 := hb1.size
          have G1 := Lib.hid (Blk.new w1 66 #[.int .i64 (xs.length : Int), .int .i64 (m : Int), .int .i64 1, .int .i64 2, .int .i64 3, .int .i64 (dataN m : Int)])
          have B2 := Lib.hid (B1.out.alloc hz1 (.cells #[.int .i64 (xs.length : Int), .int .i64 (m : Int), .int .i64 1, .int .i64 2, .int .i64 3, .int .i64 (dataN m : Int)] 66))
          have R2 := Lib.hid ((HR.out.below B2.out).mono B2.out.size)
          clear hb1 CO
          go_wp2_with fail
          refine (quo_is (q : Int) _).mono ?_
          rw [HQ.out]
          rintro e w' ⟨rfl, rfl⟩
          go_wp2_with fail
          refine (used_quo _ c xs (q : Int) _ hx R2.out).mono ?_
          rintro e w3 ⟨rfl, hb3⟩
          have B3 := Lib.hid (B2.out.trans (hb3.mono B2.out.size))
          have G3 := Lib.hid (G1.out.below hb3 G1.out.lt)
          clear hb3
          generalize usedO xs (q : Int) = uo at *
          go_wp2
          go_ret2
          rw [HL.out]
          exact ⟨⟨_, rfl, own_nil _ _⟩, B3.out⟩
        · have HO : Hid (overB xs (q : Int) (k : Int) = false) := by show _ = _; unfold overB; rw [decide_eq_false_iff_not]; omega
          have HL : Hid (setO xs (q : Int) (k : Int) = (layX xs 1 p (putL k 2), 0)) := by show _ = _; rw [HL0.out, HO.out]; rfl
          have hov2 : ¬ (k : Int) < (usedO xs (q : Int) : Int) := by omega
          clear HL0 HO
          go_enter Try.func26, Try.ntmps26
          go_wp2_with fail
          refine CO.out.mono ?_
          rintro e w1 ⟨rfl, hb1⟩
          have B1 := Lib.hid hb1
          have hz1 := hb1.size
          have G1 := Lib.hid (Blk.new w1 66 #[.int .i64 (xs.length : Int), .int .i64 (m : Int), .int .i64 1, .int .i64 2, .int .i64 3, .int .i64 (dataN m : Int)])
          have B2 := Lib.hid (B1.out.alloc hz1 (.cells #[.int .i64 (xs.length : Int), .int .i64 (m : Int), .int .i64 1, .int .i64 2, .int .i64 3, .int .i64 (dataN m : Int)] 66))
          have R2 := Lib.hid ((HR.out.below B2.out).mono B2.out.size)
          clear hb1 CO
          go_wp2_with fail
          refine (quo_is (q : Int) _).mono ?_
          rw [HQ.out]
          rintro e w' ⟨rfl, rfl⟩
          go_wp2_with fail
          refine (used_quo _ c xs (q : Int) _ hx R2.out).mono ?_
          rintro e w3 ⟨rfl, hb3⟩
          have B3 := Lib.hid (B2.out.trans (hb3.mono B2.out.size))
          have G3 := Lib.hid (G1.out.below hb3 G1.out.lt)
          clear hb3
          generalize usedO xs (q : Int) = uo at *
          have R3 := Lib.hid ((HR.out.below B3.out).mono B3.out.size)
          have c2 := G3.out.cell 2 rfl
          have HC : Hid (∀ j u, (xs.map Value.string)[j]? = some u → w3.cell? ((⟨bb, oo, none⟩ : Addr).add j) = some u) := fun j u hu => by
            have : (⟨bb, oo, none⟩ : Addr).add j = ⟨bb, oo + j, none⟩ := by unfold Addr.add; split <;> simp_all
            obtain ⟨b', o', hA, _, hcc⟩ := R3.out.at_ (by simp; omega)
            cases hA
            rw [this]; exact hcc j u hu
          have H1 := Lib.hid (str_cells xs)
          have HM : Hid (0 + xs.length ≤ maxLen) := by show _ ≤ _; unfold maxLen; omega
          have HY : Hid ((0 + xs.length) * 16 ≤ 140737488355328) := by show _ ≤ _; omega
          have hzW : w.heap.size ≤ w3.heap.size := B3.out.size
          have cs : w3.cell? ⟨bb, oo + 1, none⟩ = some (.string s) := (B3.out.cell (p := ⟨bb, oo + 1, none⟩) hbb).trans hc
          go_wp2_with (at_builtin; refine wpList_append_own _ rfl (.const (.slice none 0 0)) (.tmp 38) 22 rfl w.heap.size 9 j0 (.string ⟨#[]⟩) 1 16 Try.underlying22 J0.out.1 J0.out.2.1 J0.out.2.2.1 J0.out.2.2.2 rfl (by decide) _ 0 [] rfl (World.ownsRow_nil _ _ _ _) ⟨bb, oo, none⟩ xs.length c (xs.map .string) rfl (by rw [List.length_map, Nat.mul_one]) HC.out H1.out HM.out HY.out hzW ?_; intro v9 W2 own hg hv9; rw [Nat.zero_add, List.nil_append] at own; have hg0 : World.grownBy _ W2 none := hg; obtain ⟨gr, cr, rfl⟩ := Go.Joins.ownsRow_form own (by omega); have G4 := G3.out.grown hg0 (by simp); have c4 := G4.cell 2 rfl; have cs4 : W2.cell? ⟨bb, oo + 1, none⟩ = some (.string s) := ((B3.out.grown hg0 hzW (by intro k hk; cases hk)).cell (p := ⟨bb, oo + 1, none⟩) hbb).trans hc)
          have OR := Lib.hid own
          have B4 := Lib.hid (B3.out.grown hg0 hzW (by intro k hk; cases hk))
          have hgr : w.heap.size ≤ gr := (own.lt gr rfl).1
          clear hg hg0 hv9 own
          have u1 : ∀ u : Ext W2, u.val.cell? ⟨w1.heap.size, 2, none⟩ = some (.int .i64 1) := fun u => u.cell c4
          clear c2 cs c4 HC H1 HM HY
          refine wp_region_ext_tail 18 (by kernel_rfl) (by kernel_rfl) ?_
          simp only [List.take_succ_cons, List.take_zero, List.drop_succ_cons, List.drop_zero]
          repeat (go_big_quiet_step (first
            | (go_at_call 66; with_reducible exact Ext.call (CP.out _ _))))
          refine wpQuiet_nil ?_
          rintro _ ⟨u, rfl⟩
          have OR3 := Lib.hid (own_below OR.out u.below)
          have B5 := Lib.hid (B4.out.trans (u.below.mono B4.out.size))
          generalize u.val = W3 at *
          clear u1
          have d1 : W3.cell? ⟨gr, 1, none⟩ = some (.string (xs.getD 1 ⟨#[]⟩)) := by
            rw [OR3.out.cellAt 1 (by omega)]
            rw [List.getElem?_map, List.getD_eq_getElem?_getD, List.getElem?_eq_getElem (by omega)]; rfl
          have d2 : W3.frozen? ⟨gr, 1, none⟩ = false := OR3.out.frozenAt 1
          generalize xs.getD 1 ⟨#[]⟩ = s' at d1
          obtain ⟨o1, o2⟩ := World.ownsRow.stored OR3.out 1 (.string (s.extract 0 p ++ st ++ s.extract (p + 2) s.size))
          have OR4 := Lib.hid o1
          have B6 := Lib.hid (B5.out.setCell hgr (p := ⟨gr, 1, none⟩) (.string (s.extract 0 p ++ st ++ s.extract (p + 2) s.size)))
          clear o1 o2
          go_wp2
          go_ret2
          rw [HL.out]
          refine ⟨⟨_, rfl, ?_⟩, B6.out⟩
          unfold OwnRow
          rw [HLAY.out, List.length_set, List.map_set]
          exact OR4.out
end Go.Proofs.Ytjmafegckfijbaa
