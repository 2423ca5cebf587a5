/-
  InodeCounts: the walk.
-/
import Derived.Test.YtclmocppphojfaaLawInoTwice
namespace Go.Proofs.Ytclmocppphojfaa
open Go.RowKit
set_option linter.unusedVariables false
set_option linter.unusedSimpArgs false
set_option maxRecDepth 100000
/-- is a number among some? -/
def hasB (gs : List Nat) (k : Int) : Bool := gs.any fun g => (g : Int) == k
set_option maxHeartbeats 1000000 in
theorem has_any (A : Option Addr) (c : Nat) (gs : List Nat) (k : Int) (w : World) (hx : gs.length ≤ 1000000) (h : RowAt w w.heap.size A (numsC gs)) :
    Calls Try.prog 44 #[.slice A gs.length c, .int .i64 k] w fun e w' => e = .returned (.bool (hasB gs k)) ∧ w = w' := by
  have HR := Lib.hid h
  clear h
  go_enter Try.func44, Try.ntmps44
  go_wp2
  go_loop [5] (fun i => ∃ j : Nat, j ≤ gs.length ∧ i = .int .i64 j ∧ Hid (∀ q (hq : q < gs.length), q < j → ((gs[q] : Nat) : Int) ≠ k)) (fun i => gs.length - (intOf i).toNat)
  case atStart => exact ⟨0, Nat.zero_le _, rfl, fun q hq h => by omega⟩
  case round =>
    obtain ⟨j, hj, rfl, HJ⟩ := hrel
    by_cases hlt : j < gs.length
    · obtain ⟨b, o, rfl, hb, hc⟩ := HR.out.at_ (by unfold numsC; simp; omega)
      have hcj : w.cell? ⟨b, o + j, none⟩ = some (.int .i64 ((gs[j] : Nat) : Int)) := hc j _ (by unfold numsC; simp [hlt])
      have i1 : (0 : Int) ≤ (j : Int) := by omega
      have i2 : (j : Int) < (gs.length : Int) := by omega
      by_cases he : ((gs[j] : Nat) : Int) = k
      · have t1 : (((gs[j] : Nat) : Int) == k) = true := by simpa using he
        have HP : Hid (hasB gs k = true) := by show _ = _; unfold hasB; rw [List.any_eq_true]; exact ⟨gs[j], List.getElem_mem _, t1⟩
        clear hc he
        generalize gs[j] = g at *
        go_wp2
        go_ret
        exact ⟨ret_bool HP.out.symm, rfl⟩
      · have t1 : (((gs[j] : Nat) : Int) == k) = false := by simpa using he
        have HE := Lib.hid he
        clear hc he
        go_wp2
        go_round
        case rel => exact ⟨j + 1, by omega, by go_num, fun q hq h => by
          by_cases e : q = j
          · subst e; exact HE.out
          · exact HJ.out q hq (by omega)⟩
        case measure => simp [intOf]; omega
    · go_wp2
      go_ret
      refine ⟨ret_bool ?_, rfl⟩
      symm
      unfold hasB
      rw [List.any_eq_false]
      intro g hg
      obtain ⟨q, hq, rfl⟩ := List.getElem_of_mem hg
      simpa using HJ.out q hq (by omega)
theorem hasB_all (xs : List ByteArray) (m : Nat) (k : Int) : hasB (allR xs m) k = true ↔ ∃ g : Nat, k = (g : Int) ∧ 1 ≤ g ∧ g ≤ m ∧ kindR xs g ≠ 0 := by
  unfold hasB allR
  rw [List.any_eq_true]
  simp only [List.mem_filter, List.mem_range'_1, bne_iff_ne, beq_iff_eq]
  constructor
  · rintro ⟨g, ⟨⟨a, b⟩, c⟩, rfl⟩; exact ⟨g, rfl, a, by omega, c⟩
  · rintro ⟨g, rfl, a, b, c⟩; exact ⟨g, ⟨⟨a, by omega⟩, c⟩, rfl⟩
theorem has_other {xs : List ByteArray} {m n : Nat} (hv : IsVol xs m) (h1 : 1 ≤ n) (h2 : n ≤ m) (l : List Nat) (k : Int) (hk : k ≠ (n : Int)) : hasB (allR (putV xs n l) m) k = hasB (allR xs m) k := by
  rw [Bool.eq_iff_iff, hasB_all, hasB_all]
  constructor
  · rintro ⟨g, rfl, a, b, c⟩; exact ⟨g, rfl, a, b, by rwa [kind_put_other hv h1 h2 a b (by omega)] at c⟩
  · rintro ⟨g, rfl, a, b, c⟩; exact ⟨g, rfl, a, b, by rwa [kind_put_other hv h1 h2 a b (by omega)]⟩
theorem has_same {xs : List ByteArray} {m n : Nat} (hv : IsVol xs m) (h1 : 1 ≤ n) (h2 : n ≤ m) {l : List Nat} (hl : FitN l) : hasB (allR (putV xs n l) m) (n : Int) = (((l.getD 0 0 : Nat) : Int) != 0) := by
  rw [Bool.eq_iff_iff, hasB_all]
  constructor
  · rintro ⟨g, e, a, b, c⟩
    obtain rfl : g = n := by omega
    rw [kind_put_same hv h1 h2 hl] at c
    simpa using c
  · intro c
    refine ⟨n, rfl, h1, h2, ?_⟩
    rw [kind_put_same hv h1 h2 hl]
    simpa using c
theorem allO_vol {xs : List ByteArray} {m : Nat} (hv : IsVol xs m) : allO xs = allR xs m := by unfold allO; rw [ofR_some.2 hv]
set_option maxHeartbeats 4000000 in
theorem law_counts (A : Option Addr) (c : Nat) (xs : List ByteArray) (n : Int) (x : List Int) (w : World) (hx : xs.length ≤ maxLen) (hs : ∀ s ∈ xs, s.size ≤ 140737488355328) (h : RowAt w w.heap.size A (xs.map .string)) (hlx : x.length = 12) (hrx : ∀ z ∈ x, -9223372036854775808 ≤ z ∧ z ≤ 9223372036854775807) :
    Calls Try.prog 13 #[.slice A xs.length c, .int .i64 n, .agg (intC x)] w fun e w' => e = .returned (.bool true) ∧ Below w.heap.size w w' := by
  have HR := Lib.hid h
  have HX := Lib.hid hx
  have HS := Lib.hid hs
  have PX := Lib.hid (putO_cases (xs := xs) (n := n) hlx)
  have CX := Lib.hid (fun (hx : xs.length ≤ 1000000) => put_read (n := n) A c hx hlx hrx)
  have LX := Lib.hid hlx
  have B0 : Hid (Below w.heap.size w (w.alloc (.cells (intC x) 50))) := (Below.refl _ _).alloc (Nat.le_refl _) _
  have G50 : Hid (Blk (w.alloc (.cells (intC x) 50)) w.heap.size 50 (intC x)) := Blk.new w _ _
  clear h hx hs hrx hlx
  go_enter Try.func13, Try.ntmps13
  go_wp2_with fail
  refine (alive18_any _).mono ?_
  rintro e w1 ⟨rfl, hb1⟩
  have B := Lib.hid (B0.out.trans (hb1.mono B0.out.size))
  have G5 := Lib.hid (G50.out.below hb1 G50.out.lt)
  have RV := Lib.hid ((HR.out.below B.out).mono B.out.size)
  clear hb1 B0 G50
  go_wp2_with fail
  refine (great18_any A c xs _ HX.out (fun s h => Nat.le_trans (HS.out s h) (by decide)) RV.out).mono ?_
  rintro e w' ⟨⟨r, rfl, rfl | ⟨rfl, hl80⟩⟩, rfl⟩
  · go_wp2
    go_ret
    exact ⟨rfl, B.out⟩
  have hx6 : xs.length ≤ 1000000 := by omega
  have HX6 := Lib.hid hx6
  by_cases hc1 : (putO xs n x).2 = 0
  case neg =>
    have t1 : ((putO xs n x).2 != 0) = true := by simpa using hc1
    clear hc1 PX
    generalize (putO xs n x).2 = code at *
    go_wp2_with (refine load_blk 50 (.tmp 5) w.heap.size 50 (intC x) _ rfl rfl rfl G5.out Try.underlying50 rfl (by rw [intC_size, LX.out]; kernel_rfl) ?_; go_frame)
    refine (CX.out HX6.out _ RV.out).mono ?_
    rintro e w2 ⟨⟨A2, k2, cc2, rfl⟩, hb⟩
    replace B := Lib.hid (B.out.trans (hb.mono B.out.size))
    clear hb
    go_wp2
    go_ret
    exact ⟨rfl, B.out⟩
  rcases PX.out with ⟨_, hc⟩ | ⟨q, k, nx, hv, rfl, hk1, hk2, rfl, hfx, _⟩
  · exact absurd hc1 hc
  have hvl := hv.len
  have ex : intC (nx.map (fun k : Nat => (k : Int))) = inoC nx := by unfold inoC intC; rw [List.map_map]; rfl
  rw [ex] at G5 ⊢
  have D1 := Lib.hid (put_good A c HX6.out hv hk1 hk2 hfx)
  have D2 := Lib.hid (fun w h => all_ino A c xs w HX6.out h)
  have D3 := Lib.hid (fun A c w h => all_ino A c (putV xs k nx) w (by rw [putV_length]; omega) h)
  rw [allO_vol hv] at D2
  rw [allO_vol (hv.putI hk1 hk2 nx)] at D3
  have HO : Hid (∀ j : Int, j ≠ (k : Int) → hasB (allR (putV xs k nx) q) j = hasB (allR xs q) j) := fun j hj => has_other hv hk1 hk2 nx j hj
  have HSA := Lib.hid (has_same hv hk1 hk2 hfx)
  have l1 := allR_len xs q
  have l2 := allR_len (putV xs k nx) q
  have SX : Hid ((Try.prog.info? 50).map (·.size) = some (inoC nx).size) := by show _ = _; rw [inoC_size, hfx.1]; kernel_rfl
  obtain ⟨x0, hx0, hg0⟩ : ∃ x0, nx.getD 0 0 = x0 ∧ (inoC nx)[0]? = some (.int .i64 (x0 : Int)) := ⟨_, rfl, by
    have : 0 < nx.length := by rw [hfx.1]; decide
    unfold inoC; simp [List.getD, this]⟩
  rw [hx0] at HSA
  have hya : (putV xs k nx).length = xs.length := putV_length _ _ _
  rw [hya] at D1 D3
  have HG0 := Lib.hid hg0
  generalize allR (putV xs k nx) q = gb at *
  generalize allR xs q = ga at *
  generalize putV xs k nx = ya at *
  clear hc1 hv hfx ex PX CX hya hg0 hx0
  go_wp2_with (refine load_blk 50 (.tmp 5) w.heap.size 50 (inoC nx) _ rfl rfl rfl G5.out Try.underlying50 rfl SX.out ?_; go_frame)
  refine (D1.out _ RV.out).mono ?_
  rintro e u1 ⟨⟨A2, cc2, rfl, hr⟩, hb⟩
  replace B := Lib.hid (B.out.trans (hb.mono B.out.size))
  replace RV := Lib.hid (RV.out.next hb)
  replace G5 := Lib.hid (G5.out.below hb G5.out.lt)
  clear hb
  have RA := Lib.hid hr
  clear hr
  go_wp2_with fail
  refine (D2.out _ RV.out).mono ?_
  rintro e u2 ⟨⟨v, rfl, hn⟩, hb⟩
  replace B := Lib.hid (B.out.trans (hb.mono B.out.size))
  replace RV := Lib.hid (RV.out.next hb)
  replace RA := Lib.hid (RA.out.next hb)
  replace G5 := Lib.hid (G5.out.below hb G5.out.lt)
  clear hb
  obtain ⟨AA, ca, rfl, hra⟩ := hn.read
  clear hn
  have NA := Lib.hid hra
  clear hra
  go_wp2_with fail
  refine (D3.out _ _ _ RA.out).mono ?_
  rintro e u3 ⟨⟨v, rfl, hn⟩, hb⟩
  replace B := Lib.hid (B.out.trans (hb.mono B.out.size))
  replace RV := Lib.hid (RV.out.next hb)
  replace RA := Lib.hid (RA.out.next hb)
  replace NA := Lib.hid (NA.out.next hb)
  replace G5 := Lib.hid (G5.out.below hb G5.out.lt)
  clear hb
  obtain ⟨AB, cb, rfl, hrb⟩ := hn.read
  clear hn
  have NB := Lib.hid hrb
  clear hrb
  generalize u3 = wz at *
  go_wp2
  go_loop [12] (fun i => ∃ j : Nat, 1 ≤ j ∧ j ≤ 65 ∧ i = .int .i64 j) (fun i => 65 - (intOf i).toNat)
  case atStart => exact ⟨1, by omega, by omega, rfl⟩
  case round =>
    obtain ⟨j, hj1, hj2, rfl⟩ := hrel
    by_cases hlt : j ≤ 64
    · have hlt' : (j : Int) ≤ 64 := by omega
      by_cases hjk : j = k
      · have t1 : ((j : Int) != (k : Int)) = false := by simp [hjk]
        clear hjk
        go_wp2
        go_round
        case rel => exact ⟨j + 1, by omega, by omega, by go_num⟩
        case measure => simp [intOf]; omega
      · have t1 : ((j : Int) != (k : Int)) = true := by simp; omega
        have CA := Lib.hid (has_any AA ca ga j wz (by omega) NA.out)
        have CB := Lib.hid (has_any AB cb gb j wz (by omega) NB.out)
        rw [HO.out j (by omega)] at CB
        generalize hasB ga (j : Int) = bb at *
        clear hjk
        go_wp2_with fail
        refine CA.out.mono ?_
        rintro e w' ⟨rfl, rfl⟩
        go_wp2_with fail
        refine CB.out.mono ?_
        rintro e w' ⟨rfl, rfl⟩
        cases bb
        all_goals
          go_wp2
          go_round
          case rel => exact ⟨j + 1, by omega, by omega, by go_num⟩
          case measure => simp [intOf]; omega
    · have hlt' : ¬ (j : Int) ≤ 64 := by omega
      have CB : Hid (∀ u : Ext wz, Calls Try.prog 44 #[.slice AB gb.length cb, .int .i64 (k : Int)] u.val fun e w' => e = .returned (.bool ((x0 : Int) != 0)) ∧ u.val = w') := fun u => by
        rw [← HSA.out]
        exact has_any AB cb gb k u.val (by omega) (NB.out.next u.below)
      have c0 : ∀ u : Ext wz, u.val.cell? ⟨w.heap.size, 0, none⟩ = some (.int .i64 (x0 : Int)) := fun u => u.cell (G5.out.cell 0 HG0.out)
      go_wp2_with fail
      refine wp_region_ext (by kernel_rfl) (by kernel_rfl) ?_
      repeat (go_big_quiet_step (first
        | (go_at_call 44; with_reducible exact Ext.call_same (CB.out _))))
      refine wpQuiet_nil ?_
      rintro _ ⟨u, rfl⟩
      replace B := Lib.hid (B.out.trans (u.below.mono B.out.size))
      generalize u.val = w9 at *
      go_wp2
      go_ret
      exact ⟨ret_bool (by simp), B.out⟩
end Go.Proofs.Ytclmocppphojfaa
