/-
  What the document's Blocks of layer 19 tells.
-/
import Derived.Test.YtjmafegckfijbaaRExtCnt
import Derived.Test.YtjmafegckfijbaaExtBl
namespace Go.Proofs.Ytjmafegckfijbaa
open Go.RowKit
set_option linter.unusedVariables false
set_option linter.unusedSimpArgs false
set_option maxRecDepth 100000
theorem range_snoc (f : Nat → Int) (k : Nat) : (List.range (k + 1)).map f = (List.range k).map f ++ [f k] := by rw [List.range_succ, List.map_append]; rfl
set_option maxHeartbeats 4000000 in
theorem rblocks19_any (A : Option Addr) (c : Nat) (xs : List ByteArray) (n : Int) (w : World) (hx : xs.length ≤ 1000000) (h : RowAt w w.heap.size A (xs.map .string)) :
    Calls Try.prog 19 #[.slice A xs.length c, .int .i64 n] w fun e w' => (∃ v, e = .returned v ∧ OwnInts (blocksO xs n) w v w') ∧ Below w.heap.size w w' := by
  have B0 := Lib.hid ((Below.refl w.heap.size w).alloc (Nat.le_refl _) (.cells #[] 3))
  have HR := Lib.hid h
  have CG := Lib.hid (rget_ino A c xs n _ hx ((h.below B0.out).mono B0.out.size))
  have OW : Hid ((w.alloc (.cells #[] 3)).ownsRow w.heap.size 3 1 (.slice (some ⟨w.heap.size, 0, none⟩) 0 0) 0 []) := World.ownsRow_lit w #[] 0 (Nat.le_refl _) (by decide) rfl
  clear h
  by_cases h0 : inoE xs n = 0
  · obtain ⟨m, k, hv, rfl, hk1, hk2, hk3⟩ := inoE_ok h0
    have hfit := getR_fit hv hk1 hk2
    have HW0 : Hid (blocksO xs (k : Int) = (List.range (needN (sizeX (getR xs (k : Int))))).map (atF xs m (getR xs (k : Int)))) := by
      show _ = _
      unfold blocksO
      rw [if_neg (by rw [h0]; simp), mO_vol hv]
      rfl
    rw [h0] at CG
    generalize getR xs (k : Int) = l at *
    have HZ : Hid ((inoC l).size = 12) := by show _ = _; rw [inoC_size, hfit.1]
    have HI := Lib.hid (ino_info12 hfit.1)
    have CD := Lib.hid (fun w h => rdata_any A c xs m w hv h)
    have CA := Lib.hid (fun k hk w h => rat_any A c xs m k l w hv hfit hk h)
    have CS := Lib.hid (fun w => rsize_any l w hfit)
    have hsx := sizeX_le l
    have hcn := needN_le hsx
    have CB := Lib.hid (fun w => rblocks_any (sizeX l) w (by omega))
    generalize sizeX l = sx at *
    generalize needN sx = cn at *
    generalize dataN m = d at *
    obtain ⟨i0, q1, q2, q3, q4⟩ := info_parts i64_info
    have I0 := Lib.hid (And.intro q1 (And.intro q2 (And.intro q3 q4)))
    have HAF : Hid (∀ j, atF xs m l j = atI (atX xs m l j)) := fun j => rfl
    clear h0 hk3 hfit hv q1 q2 q3 q4
    go_enter Try.func19, Try.ntmps19
    go_wp2_with fail
    obtain ⟨w0, hw0⟩ : ∃ w0, w.alloc (.cells #[] 3) = w0 := ⟨_, rfl⟩
    rw [hw0] at CG OW B0 ⊢
    clear hw0
    refine CG.out.mono ?_
    rintro e w1 ⟨rfl, hb1⟩
    have B1 := Lib.hid (B0.out.trans (hb1.mono B0.out.size))
    have O1 := Lib.hid (own_below OW.out hb1)
    have hz1 := B1.out.size
    clear hb1 CG B0 OW
    go_wp2_with (refine store_blk 45 (.tmp 6) (.tmp 16) w1.heap.size 45 (inoC (List.replicate 12 0)) (inoC l) rfl rfl rfl rfl (Blk.new w1 _ _) (by rw [HZ.out]; rfl) HI.out (inoC_one _) ?_; intro w2 hr2 hg2)
    have G2 := Lib.hid hr2
    have B2 : Hid (Below w.heap.size w w2) := (B1.out.alloc hz1 _).grown hg2 (by simp; omega) (fun k e => by cases e; exact hz1)
    have O2 : Hid (w2.ownsRow w.heap.size 3 1 (.slice (some ⟨w.heap.size, 0, none⟩) 0 0) 0 []) := (O1.out.alloc _).kept hg2 (.inr (by
      have := own_ne (O1.out.alloc _) (Blk.new w1 45 (inoC (List.replicate 12 0))) (by decide)
      intro e; exact this e.symm))
    have R2 := Lib.hid ((HR.out.below B2.out).mono B2.out.size)
    clear hr2 hg2 B1 O1
    generalize w1.heap.size = gi at *
    refine (CD.out _ R2.out).mono ?_
    rintro e w3 ⟨rfl, hb3⟩
    have G3 := Lib.hid (G2.out.below hb3 G2.out.lt)
    have O3 : Hid (w3.ownsRow w.heap.size 3 1 (.slice (some ⟨w.heap.size, 0, none⟩) 0 0) ((List.range 0).map (atF xs m l)).length (intsC ((List.range 0).map (atF xs m l)))) := own_below O2.out hb3
    have B3 := Lib.hid (B2.out.trans (hb3.mono B2.out.size))
    clear hb3 G2 B2 R2 CD O2
    go_wp2
    go_loopw [5, 9] (fun v i wr => ∃ k : Nat, k ≤ cn ∧ i = .int .i64 k ∧ Hid (wr.ownsRow w.heap.size 3 1 v ((List.range k).map (atF xs m l)).length (intsC ((List.range k).map (atF xs m l)))) ∧ Hid (Blk wr gi 45 (inoC l)) ∧ Hid (Below w.heap.size w wr)) (fun _ i _ => cn - (intOf i).toNat)
    case atStart => exact ⟨0, by omega, rfl, O3, G3, B3⟩
    case round =>
      obtain ⟨k, hk, rfl, OK, G, B⟩ := hrel
      go_wp2_with (refine load_blk 45 (.tmp 6) gi 45 (inoC l) _ rfl rfl rfl G.out Try.underlying45 rfl HI.out ?_; go_frame)
      refine (CS.out _).mono ?_
      rintro e w4 ⟨rfl, hb4⟩
      replace G := Lib.hid (G.out.below hb4 G.out.lt)
      replace OK := Lib.hid (own_below OK.out hb4)
      replace B := Lib.hid (B.out.trans (hb4.mono B.out.size))
      clear hb4
      go_wp2_with fail
      refine (CB.out _).mono ?_
      rintro e w' ⟨rfl, rfl⟩
      by_cases hlt : k < cn
      · have h70 : k < 70 := by omega
        have hl1 : (k : Int) < (cn : Int) := by omega
        have hl2 : decide (k < cn) = true := by simpa using hlt
        have CAk := Lib.hid (CA.out k h70)
        have HSN : Hid ((List.range (k + 1)).map (atF xs m l) = (List.range k).map (atF xs m l) ++ [atF xs m l k]) := range_snoc _ _
        have HV := Lib.hid (HAF.out k)
        have htl : ((List.range k).map (atF xs m l)).length = k := by simp
        generalize (List.range k).map (atF xs m l) = ts at *
        generalize hvx : atF xs m l k = vx at *
        generalize atX xs m l k = at_ at *
        clear hvx
        go_wp2_with (refine load_blk 45 (.tmp 6) gi 45 (inoC l) _ rfl rfl rfl G.out Try.underlying45 rfl HI.out ?_; go_frame)
        refine (CAk.out _ ((HR.out.below B.out).mono B.out.size)).mono ?_
        rintro e w5 ⟨rfl, hb5⟩
        replace G := Lib.hid (G.out.below hb5 G.out.lt)
        replace OK := Lib.hid (own_below OK.out hb5)
        replace B := Lib.hid (B.out.trans (hb5.mono B.out.size))
        clear hb5 CAk
        have O4 : Hid ((w5.alloc (.cells #[.int .i64 vx] 3)).ownsRow w.heap.size 3 1 _ ts.length (intsC ts)) := World.ownsRow.alloc OK.out _
        have B4 := Lib.hid (B.out.alloc B.out.size (.cells #[.int .i64 vx] 3))
        have G4 := Lib.hid (G.out.alloc (.cells #[.int .i64 vx] 3))
        have HC : Hid (∀ j u, [Value.int .i64 vx][j]? = some u → (w5.alloc (.cells #[.int .i64 vx] 3)).cell? ((⟨w5.heap.size, 0, none⟩ : Addr).add j) = some u) := fun j u hu => by
          cases j with
          | zero => cases hu; exact (Blk.new w5 3 #[.int .i64 vx]).cell 0 rfl
          | succ j => simp at hu
        have H1 : Hid (∀ u ∈ [Value.int .i64 vx], u.oneCell' = true) := fun u hu => by simp at hu; subst hu; rfl
        have HM : Hid (ts.length + 1 ≤ maxLen) := by show _ ≤ _; unfold maxLen; omega
        have HY : Hid ((ts.length + 1) * 8 ≤ 140737488355328) := by show _ ≤ _; omega
        by_cases ha : at_ = 0
        · obtain rfl : vx = -1 := by rw [HV.out]; unfold atI; rw [if_pos ha]
          subst ha
          go_wp2_with (at_builtin; refine wpList_append_own _ rfl (.tmp 37) (.tmp 39) 26 rfl w.heap.size 3 i0 (.int .i64 0) 1 8 Try.underlying26 I0.out.1 I0.out.2.1 I0.out.2.2.1 I0.out.2.2.2 rfl (by decide) _ ts.length (intsC ts) rfl O4.out ⟨w5.heap.size, 0, none⟩ 1 1 [.int .i64 (-1)] rfl rfl HC.out H1.out HM.out HY.out B4.out.size ?_; intro v9 w9 own hg hv)
          have ON : Hid (w9.ownsRow w.heap.size 3 1 v9 ((List.range (k + 1)).map (atF xs m l)).length (intsC ((List.range (k + 1)).map (atF xs m l)))) := by
            rw [HSN.out, List.length_append, intsC_snoc]; exact own
          have GN2 := Lib.hid (G4.out.grown hg (own_ne O4.out G4.out (by decide)))
          have BN2 := Lib.hid (B4.out.grown hg B4.out.size (fun j e => (O4.out.lt j e).1))
          clear own hg hv
          go_wp2
          go_roundw
          case rel => exact ⟨k + 1, by omega, by go_num, ON, GN2, BN2⟩
          case measure => simp [intOf]; omega
        · obtain rfl : vx = (at_ : Int) := by rw [HV.out]; unfold atI; rw [if_neg ha]
          have ha2 : ((at_ : Int) == 0) = false := by simp; omega
          have ha3 : ¬ (at_ : Int) = 0 := by omega
          go_wp2_with (at_builtin; refine wpList_append_own _ rfl (.tmp 37) (.tmp 39) 26 rfl w.heap.size 3 i0 (.int .i64 0) 1 8 Try.underlying26 I0.out.1 I0.out.2.1 I0.out.2.2.1 I0.out.2.2.2 rfl (by decide) _ ts.length (intsC ts) rfl O4.out ⟨w5.heap.size, 0, none⟩ 1 1 [.int .i64 (at_ : Int)] rfl rfl HC.out H1.out HM.out HY.out B4.out.size ?_; intro v9 w9 own hg hv)
          have ON : Hid (w9.ownsRow w.heap.size 3 1 v9 ((List.range (k + 1)).map (atF xs m l)).length (intsC ((List.range (k + 1)).map (atF xs m l)))) := by
            rw [HSN.out, List.length_append, intsC_snoc]; exact own
          have GN2 := Lib.hid (G4.out.grown hg (own_ne O4.out G4.out (by decide)))
          have BN2 := Lib.hid (B4.out.grown hg B4.out.size (fun j e => (O4.out.lt j e).1))
          clear own hg hv
          go_wp2
          go_roundw
          case rel => exact ⟨k + 1, by omega, by go_num, ON, GN2, BN2⟩
          case measure => simp [intOf]; omega
      · obtain rfl : k = cn := by omega
        rw [← HW0.out] at OK
        go_wp2
        go_ret
        exact ⟨⟨_, rfl, OK.out⟩, B.out⟩
  · have HW0 : Hid (blocksO xs n = []) := by show _ = _; unfold blocksO; rw [if_pos h0]
    have HGZ : Hid (getR xs n = List.replicate 12 0) := by show _ = _; unfold getR; rw [if_neg h0]
    rw [HGZ.out] at CG
    have hn0 : (inoE xs n != 0) = true := by simpa using h0
    generalize inoE xs n = ie at *
    clear h0
    go_enter Try.func19, Try.ntmps19
    go_wp2_with fail
    obtain ⟨w0, hw0⟩ : ∃ w0, w.alloc (.cells #[] 3) = w0 := ⟨_, rfl⟩
    rw [hw0] at CG OW B0 ⊢
    clear hw0
    refine CG.out.mono ?_
    rintro e w1 ⟨rfl, hb1⟩
    have B1 := Lib.hid (B0.out.trans (hb1.mono B0.out.size))
    have O1 := Lib.hid (own_below OW.out hb1)
    have hz1 := B1.out.size
    clear hb1 CG B0 OW
    go_wp2_with (refine store_blk 45 (.tmp 6) (.tmp 16) w1.heap.size 45 (inoC (List.replicate 12 0)) (inoC (List.replicate 12 0)) rfl rfl rfl rfl (Blk.new w1 _ _) rfl (by kernel_rfl) (inoC_one _) ?_; intro w2 hr2 hg2)
    have B2 : Hid (Below w.heap.size w w2) := (B1.out.alloc hz1 _).grown hg2 (by simp; omega) (fun k e => by cases e; exact hz1)
    have O2 : Hid (w2.ownsRow w.heap.size 3 1 (.slice (some ⟨w.heap.size, 0, none⟩) 0 0) 0 []) := (O1.out.alloc _).kept hg2 (.inr (by
      have := own_ne (O1.out.alloc _) (Blk.new w1 45 (inoC (List.replicate 12 0))) (by decide)
      intro e; exact this e.symm))
    go_ret
    rw [HW0.out]
    exact ⟨⟨_, rfl, O2.out⟩, B2.out⟩
end Go.Proofs.Ytjmafegckfijbaa
