/-
  What opened does: an inode of a volume, as it stands there.
-/
import Derived.Test.YtoanladhikdcaaaGreatExtP
import Derived.Test.YtoanladhikdcaaaGreatInfra
namespace Go.Proofs.YtoanladhikdcaaaGreat
open Go.RowKit
set_option linter.unusedVariables false
set_option linter.unusedSimpArgs false
set_option maxRecDepth 100000
theorem exec_append {P : Program} {ρ : Operand → Value} {o : Oper} {w w' : World} {sl x : Operand} {t u : TypeId} {v y v' : Value} (ho : o.op = .call { callee := .builtin .append, args := #[sl, x], argTypes := #[t, u] }) (hs : ρ sl = v) (hx : ρ x = y)
    (hr : (Builtin.append_ #[t, u] o.type #[v, y]).run P w = .ok v' w') : (execOp ρ o).run P w = .ok (.value v') w' := by
  unfold execOp
  simp only [ho, resolve, invoke, builtin, Sem.run_bind, Sem.run_pure, Result.andThen_ok, List.map_toArray, List.map_cons, List.map_nil, hs, hx, hr]
/-- no file -/
def fileZ : Array Value := #[.slice none 0 0, .int .i64 0, .int .i64 0, .int .i64 0, .int .i64 0, .int .i64 0, .int .i64 0, .int .i64 0, .int .i64 0, .int .i64 0, .int .i64 0, .int .i64 0, .int .i64 0, .int .i64 0, .int .i64 0, .int .i64 0, .int .i64 0, .int .i64 0, .int .i64 0, .int .i64 0]
theorem fileZ_one : ∀ v ∈ fileZ, v.oneCell' = true := by intro v hv; unfold fileZ at hv; simp at hv; rcases hv with rfl | rfl <;> rfl
theorem fileC_one (A : Option Addr) (k c : Nat) (b m n : Nat) (l : List Nat) : ∀ v ∈ fileC (.slice A k c) b m n l, v.oneCell' = true := by
  intro v hv
  unfold fileC fileL at hv
  simp at hv
  rcases hv with rfl | rfl | rfl | rfl | rfl | rfl | rfl | rfl | ⟨_, _, rfl⟩ <;> rfl
def OpenPost (xs : List ByteArray) (n : Int) (w : World) (e : Ending) (w' : World) : Prop := Below w.heap.size w w' ∧
  if inoE xs n = 0 then ∃ gv c, e = .returned (.tuple #[.agg (fileC (.slice (some ⟨gv, 0, none⟩) xs.length c) xs.length (mO xs) n.toNat (getR xs n)), .int .i64 0]) ∧ w'.ownsRow w.heap.size 9 1 (.slice (some ⟨gv, 0, none⟩) xs.length c) xs.length (xs.map .string)
  else e = .returned (.tuple #[.agg fileZ, .int .i64 (inoE xs n)])
set_option maxHeartbeats 4000000 in
theorem opened_any (A : Option Addr) (c : Nat) (xs : List ByteArray) (n : Int) (w : World) (hx : xs.length ≤ 1000000) (h : RowAt w w.heap.size A (xs.map .string)) :
    Calls Tryz.prog 35 #[.slice A xs.length c, .int .i64 n] w (OpenPost xs n w) := by
  have B0 : Hid (Below w.heap.size w (w.alloc (.cells fileZ 75))) := (Below.refl _ _).alloc (Nat.le_refl _) _
  have R0 : Hid (RowAt (w.alloc (.cells fileZ 75)) (w.alloc (.cells fileZ 75)).heap.size A (xs.map .string)) := (h.below B0.out).mono (by simp)
  have HR := Lib.hid h
  have CG := Lib.hid (fun w h => get_ino A c xs n w hx h)
  obtain ⟨a0, a1, a2, a3, a4, a5, a6, a7, a8, a9, a10, a11, hg⟩ := len12 (getR_len xs n)
  have HG := Lib.hid hg
  rw [hg] at CG
  clear h hg
  unfold inoC at CG
  simp only [List.map_cons, List.map_nil] at CG
  by_cases h0 : inoE xs n = 0
  · obtain ⟨m, k, hv, rfl, hk1, hk2, hk3⟩ := inoE_ok h0
    have hl := hv.len
    have HM := Lib.hid (mO_vol hv)
    have H0 := Lib.hid h0
    rw [h0] at CG
    have CO := Lib.hid (fun w h => of_any A c xs w hx h)
    unfold OfPost ofE at CO
    rw [ofR_some.2 hv] at CO
    dsimp only at CO
    obtain ⟨i0, q1, q2, q3, q4⟩ := info_parts str_info
    have I0 := Lib.hid (And.intro q1 (And.intro q2 (And.intro q3 q4)))
    clear q1 q2 q3 q4 h0 hk3 hv
    go_enter Tryz.func35, Tryz.ntmps35
    go_wp2_with fail
    refine (CG.out _ R0.out).mono ?_
    rintro e w1 ⟨rfl, hb1⟩
    have B1 := Lib.hid (B0.out.trans (hb1.mono (by simp)))
    have G4 : Hid (Blk w1 w.heap.size 75 fileZ) := (Blk.new w _ _).below hb1 (by simp)
    have hlt1 := G4.out.lt
    have B2 := Lib.hid (B1.out.alloc B1.out.size (.cells #[.int .i64 (a0 : Int), .int .i64 (a1 : Int), .int .i64 (a2 : Int), .int .i64 (a3 : Int), .int .i64 (a4 : Int), .int .i64 (a5 : Int), .int .i64 (a6 : Int), .int .i64 (a7 : Int), .int .i64 (a8 : Int), .int .i64 (a9 : Int), .int .i64 (a10 : Int), .int .i64 (a11 : Int)] 35))
    have G5 := Lib.hid (G4.out.alloc (.cells #[.int .i64 (a0 : Int), .int .i64 (a1 : Int), .int .i64 (a2 : Int), .int .i64 (a3 : Int), .int .i64 (a4 : Int), .int .i64 (a5 : Int), .int .i64 (a6 : Int), .int .i64 (a7 : Int), .int .i64 (a8 : Int), .int .i64 (a9 : Int), .int .i64 (a10 : Int), .int .i64 (a11 : Int)] 35))
    have GI := Lib.hid (Blk.new w1 35 #[.int .i64 (a0 : Int), .int .i64 (a1 : Int), .int .i64 (a2 : Int), .int .i64 (a3 : Int), .int .i64 (a4 : Int), .int .i64 (a5 : Int), .int .i64 (a6 : Int), .int .i64 (a7 : Int), .int .i64 (a8 : Int), .int .i64 (a9 : Int), .int .i64 (a10 : Int), .int .i64 (a11 : Int)])
    have R2 := Lib.hid ((HR.out.below B2.out).mono B2.out.size)
    clear hb1 B0 R0 CG
    go_wp2_with fail
    refine (CO.out _ R2.out).mono ?_
    rintro e w2 ⟨rfl, hb2⟩
    have B3 := Lib.hid (B2.out.trans (hb2.mono B2.out.size))
    have G6 := Lib.hid (G5.out.below hb2 G5.out.lt)
    have GI2 := Lib.hid (GI.out.below hb2 GI.out.lt)
    have hz1 := B1.out.size
    have hz3 := B3.out.size
    clear hb2 CO G5 GI B2 R2
    generalize hri : w1.heap.size = ri at *
    clear hri
    go_wp2_with fail
    have GG := Lib.hid (Blk.new w2 54 #[.int .i64 (xs.length : Int), .int .i64 (m : Int), .int .i64 1, .int .i64 2, .int .i64 3, .int .i64 (dataN m : Int)])
    have B4 := Lib.hid (B3.out.alloc hz3 (.cells #[.int .i64 (xs.length : Int), .int .i64 (m : Int), .int .i64 1, .int .i64 2, .int .i64 3, .int .i64 (dataN m : Int)] 54))
    have G7 := Lib.hid (G6.out.alloc (.cells #[.int .i64 (xs.length : Int), .int .i64 (m : Int), .int .i64 1, .int .i64 2, .int .i64 3, .int .i64 (dataN m : Int)] 54))
    have GI3 := Lib.hid (GI2.out.alloc (.cells #[.int .i64 (xs.length : Int), .int .i64 (m : Int), .int .i64 1, .int .i64 2, .int .i64 3, .int .i64 (dataN m : Int)] 54))
    generalize w2.alloc _ = w4 at *
    generalize w2.heap.size = rg at *
    clear G6 GI2 B3 hz3
    have HC : Hid (∀ wb, Below w4.heap.size w4 wb → ∃ X w', (Builtin.append_ #[22, 22] 22 #[.slice none 0 0, .slice A xs.length c]).run Tryz.prog wb = .ok X w' ∧ (∃ gv cv, X = .slice (some ⟨gv, 0, none⟩) xs.length cv ∧ w'.ownsRow w.heap.size 9 1 (.slice (some ⟨gv, 0, none⟩) xs.length cv) xs.length (xs.map .string)) ∧ Below wb.heap.size wb w') := fun wb hwb => by
      have hB := B4.out.trans (hwb.mono B4.out.size)
      obtain ⟨b, o, rfl, hb, hc⟩ := HR.out.at_ (by simp; omega)
      obtain ⟨v', w', hr, own, hg, _⟩ := run_append_own (P := Tryz.prog) (w := wb) w.heap.size 22 22 9 i0 (.string ⟨#[]⟩) 1 16 Tryz.underlying22 I0.out.1 I0.out.2.1 I0.out.2.2.1 I0.out.2.2.2 rfl (by decide) (.slice none 0 0) 0 [] (World.ownsRow_nil _ _ _ _) ⟨b, o, none⟩ xs.length c (xs.map .string) (by rw [List.length_map, Nat.mul_one]) (fun j u hu => by
        have : (⟨b, o, none⟩ : Addr).add j = ⟨b, o + j, none⟩ := by unfold Addr.add; split <;> simp_all
        rw [this]; exact (hB.cell (p := ⟨b, o + j, none⟩) hb).trans (hc j u hu)) (str_cells xs) (by unfold maxLen; omega) (by omega) hB.size
      rw [Nat.zero_add, List.nil_append] at own
      obtain ⟨gv, cv, rfl⟩ := Go.Joins.ownsRow_form own (by omega)
      refine ⟨_, w', hr, ⟨gv, cv, rfl, own⟩, (Below.refl _ _).grown hg (Nat.le_refl _) (by intro k hk; cases hk)⟩
    apply wp_region_free (a2 := { tmps := #[.slice A xs.length c, .int .i64 (k : Int), undef, undef, .pointer (some ⟨w.heap.size, 0, none⟩), .int .i64 0, .pointer (some ⟨ri, 0, none⟩), .int .i64 0, .pointer (some ⟨rg, 0, none⟩), .tuple #[.agg #[.int .i64 (a0 : Int), .int .i64 (a1 : Int), .int .i64 (a2 : Int), .int .i64 (a3 : Int), .int .i64 (a4 : Int), .int .i64 (a5 : Int), .int .i64 (a6 : Int), .int .i64 (a7 : Int), .int .i64 (a8 : Int), .int .i64 (a9 : Int), .int .i64 (a10 : Int), .int .i64 (a11 : Int)], .int .i64 0], .slice A xs.length c, .int .i64 (k : Int), .tuple #[.agg #[.int .i64 (a0 : Int), .int .i64 (a1 : Int), .int .i64 (a2 : Int), .int .i64 (a3 : Int), .int .i64 (a4 : Int), .int .i64 (a5 : Int), .int .i64 (a6 : Int), .int .i64 (a7 : Int), .int .i64 (a8 : Int), .int .i64 (a9 : Int), .int .i64 (a10 : Int), .int .i64 (a11 : Int)], .int .i64 0], .agg #[.int .i64 (a0 : Int), .int .i64 (a1 : Int), .int .i64 (a2 : Int), .int .i64 (a3 : Int), .int .i64 (a4 : Int), .int .i64 (a5 : Int), .int .i64 (a6 : Int), .int .i64 (a7 : Int), .int .i64 (a8 : Int), .int .i64 (a9 : Int), .int .i64 (a10 : Int), .int .i64 (a11 : Int)], .int .i64 0, .int .i64 0, .bool false, undef, undef, .tuple #[.agg #[.int .i64 (xs.length : Int), .int .i64 (m : Int), .int .i64 1, .int .i64 2, .int .i64 3, .int .i64 (dataN m : Int)], .int .i64 0], .slice A xs.length c, .tuple #[.agg #[.int .i64 (xs.length : Int), .int .i64 (m : Int), .int .i64 1, .int .i64 2, .int .i64 3, .int .i64 (dataN m : Int)], .int .i64 0], .agg #[.int .i64 (xs.length : Int), .int .i64 (m : Int), .int .i64 1, .int .i64 2, .int .i64 3, .int .i64 (dataN m : Int)], .int .i64 0, .int .i64 0, .bool false, undef, undef, .slice A xs.length c, undef, .agg #[.int .i64 (xs.length : Int), .int .i64 (m : Int), .int .i64 1, .int .i64 2, .int .i64 3, .int .i64 (dataN m : Int)], .int .i64 (k : Int), .agg #[.int .i64 (a0 : Int), .int .i64 (a1 : Int), .int .i64 (a2 : Int), .int .i64 (a3 : Int), .int .i64 (a4 : Int), .int .i64 (a5 : Int), .int .i64 (a6 : Int), .int .i64 (a7 : Int), .int .i64 (a8 : Int), .int .i64 (a9 : Int), .int .i64 (a10 : Int), .int .i64 (a11 : Int)], undef], defers := [] }) 1 0 3 29 _ (fun X w' => ∃ gv cv, X = .slice (some ⟨gv, 0, none⟩) xs.length cv ∧ w'.ownsRow w.heap.size 9 1 (.slice (some ⟨gv, 0, none⟩) xs.length cv) xs.length (xs.map .string)) (by kernel_rfl) (by kernel_rfl) rfl
    case hΦ =>
      rintro X u u' ⟨gv, cv, rfl, ho⟩ hu
      exact ⟨gv, cv, rfl, own_below ho hu⟩
    case W1 =>
      intro wb hwb
      unfold ExtC
      simp only [List.take_succ_cons, List.take_zero, List.drop_succ_cons, List.drop_zero]
      repeat (go_big_quiet_step (fail))
      exact wpQuiet_nil rfl
    case MK =>
      intro wb hwb
      obtain ⟨X, w', hr, hX, hb⟩ := HC.out wb hwb
      exact ⟨X, w', exec_append rfl rfl rfl hr, hX, hb⟩
    case UM =>
      intro X wb hwb hX
      exact wpQuiet_nil rfl
    case W2 =>
      intro X wb hwb
      have g1 := Lib.hid (GG.out.below hwb GG.out.lt)
      have g2 := Lib.hid (GI3.out.below hwb GI3.out.lt)
      unfold ExtC
      simp only [List.take_succ_cons, List.take_zero, List.drop_succ_cons, List.drop_zero]
      go_frame
      repeat (first
        | (go_big_quiet_want; refine quiet_load_blk 54 (.tmp 8) rg 54 #[.int .i64 (xs.length : Int), .int .i64 (m : Int), .int .i64 1, .int .i64 2, .int .i64 3, .int .i64 (dataN m : Int)] _ rfl rfl (by rintro _ ⟨u, rfl⟩; exact g1.out.below u.below g1.out.lt) Tryz.underlying54 rfl (by kernel_rfl) ?_; go_frame; go_big_quiet_on)
        | (go_big_quiet_want; refine quiet_load_blk 35 (.tmp 6) ri 35 #[.int .i64 (a0 : Int), .int .i64 (a1 : Int), .int .i64 (a2 : Int), .int .i64 (a3 : Int), .int .i64 (a4 : Int), .int .i64 (a5 : Int), .int .i64 (a6 : Int), .int .i64 (a7 : Int), .int .i64 (a8 : Int), .int .i64 (a9 : Int), .int .i64 (a10 : Int), .int .i64 (a11 : Int)] _ rfl rfl (by rintro _ ⟨u, rfl⟩; exact g2.out.below u.below g2.out.lt) Tryz.underlying35 rfl (by kernel_rfl) ?_; go_frame; go_big_quiet_on)
        | go_big_quiet_step (fail))
      exact wpQuiet_nil rfl
    rintro X w5 hb5 ⟨gv, cv, rfl, ho⟩
    have G8 := Lib.hid (G7.out.below hb5 G7.out.lt)
    have B5 := Lib.hid (B4.out.trans (hb5.mono B4.out.size))
    have O5 := Lib.hid ho
    clear hb5 ho
    simp only [List.take_succ_cons, List.take_zero, List.drop_succ_cons, List.drop_zero]
    go_wp2_with (refine store_blk 75 (.tmp 4) (.tmp 33) w.heap.size 75 fileZ (fileC (.slice (some ⟨gv, 0, none⟩) xs.length cv) xs.length m k [a0, a1, a2, a3, a4, a5, a6, a7, a8, a9, a10, a11]) rfl rfl rfl rfl G8.out rfl (by kernel_rfl) (fileC_one _ _ _ _ _ _ _) ?_; intro w6 hr6 hg6)
    refine bodyPost_ret (results_ct rfl rfl rfl hr6 Tryz.underlying75 rfl (by kernel_rfl)) rfl ⟨?_, ?_⟩
    · exact B5.out.grown hg6 B5.out.size (fun k e => by cases e; exact Nat.le_refl _)
    · rw [if_pos H0.out, HM.out, HG.out, Int.toNat_natCast]
      exact ⟨gv, cv, rfl, O5.out.kept hg6 (.inr (by
        have := own_ne O5.out G8.out (by decide)
        intro e; exact this e.symm))⟩
  · have HG0 : Hid (getR xs n = List.replicate 12 0) := by show _ = _; unfold getR; rw [if_neg h0]
    have hn0 : (inoE xs n != 0) = true := by simpa using h0
    have H0 := Lib.hid h0
    generalize hie : inoE xs n = ie at *
    have HIE := Lib.hid hie
    clear h0 hie HG HG0
    go_enter Tryz.func35, Tryz.ntmps35
    go_wp2_with fail
    refine (CG.out _ R0.out).mono ?_
    rintro e w1 ⟨rfl, hb1⟩
    have B1 := Lib.hid (B0.out.trans (hb1.mono (by simp)))
    have G4 : Hid (Blk w1 w.heap.size 75 fileZ) := (Blk.new w _ _).below hb1 (by simp)
    have hlt1 := G4.out.lt
    have hz1 := B1.out.size
    clear hb1 B0 R0 CG
    go_wp2_with (refine store_blk 75 (.tmp 4) (.tmp 17) w.heap.size 75 fileZ fileZ rfl rfl rfl rfl (G4.out.alloc _) rfl (by kernel_rfl) fileZ_one ?_; intro w6 hr6 hg6)
    refine bodyPost_ret (results_ct rfl rfl rfl hr6 Tryz.underlying75 rfl (by kernel_rfl)) rfl ⟨?_, ?_⟩
    · exact (B1.out.alloc hz1 _).grown hg6 (by simp; omega) (fun k e => by cases e; exact Nat.le_refl _)
    · rw [HIE.out, if_neg H0.out]; rfl
end Go.Proofs.YtoanladhikdcaaaGreat
