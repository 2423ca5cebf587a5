/-
  CpuLittle: the walk.
-/
import Derived.Test.YtcjakmnplkeldaaDoorCpuOps
import Derived.Test.YtcjakmnplkeldaaDoorLittlePlain
namespace Go.Proofs.YtcjakmnplkeldaaDoor
open Go.RowKit
set_option linter.unusedVariables false
set_option linter.unusedSimpArgs false
set_option maxRecDepth 100000
theorem cntN_one (R S : List Nat) : cntN (rd R S) 1 = 0 := by simp [cntN, rd]
theorem bd_get {a b : ByteArray} {k : Nat} (h1 : k < a.size) (h2 : k < b.size) : bd a b k = ((a[k].toNat : Int) != (b[k].toNat : Int)) := by
  unfold bd
  rw [List.getD_eq_getElem?_getD, List.getD_eq_getElem?_getD, List.getElem?_eq_getElem (by simpa using h1), List.getElem?_eq_getElem (by simpa using h2)]
  simp only [Option.getD_some]
  rw [show a.data.toList[k]'(by simpa using h1) = a[k] from rfl, show b.data.toList[k]'(by simpa using h2) = b[k] from rfl]
  by_cases e : a[k] = b[k]
  · rw [e]; simp
  · have : ¬ (a[k].toNat : Int) = (b[k].toNat : Int) := fun h => e (UInt8.toNat_inj.1 (by omega))
    rw [bne_iff_ne.2 e, bne_iff_ne.2 this]
theorem step_len {R : List Nat} {pc : Nat} {l : List Pte} {xs : List ByteArray} (hR : R.length = 16) : (stepR R pc l xs).R.length = 16 := by
  rcases (step_is R pc l xs).out with ⟨_, h, _⟩ | ⟨_, a, v, h, _⟩ <;> rw [h] <;> simp [hR]
/-- the heads of the loops -/
def LitC (R S : List Nat) (wz : World) (t i : Value) (wr : World) : Prop := ∃ k : Nat, 1 ≤ k ∧ k ≤ 16 ∧ i = .int .i64 k ∧ (∃ n : Nat, t = .int .i64 n ∧ n ≤ 16 ∧ Hid (n = cntN (rd R S) k)) ∧ ∃ q, wr = wz.drewN q
def LitF (xs ys : List ByteArray) (wz : World) (b i : Value) (wr : World) : Prop := ∃ k : Nat, k ≤ ys.length ∧ i = .int .i64 k ∧ (∃ n : Nat, b = .int .i64 n ∧ n ≤ 128 * k ∧ Hid (n = sumN (bdN xs ys) k)) ∧ ∃ q, wr = wz.drewN q
def LitM (l : List Pte) (k : Nat) (wz : World) (m j : Value) (wr : World) : Prop := ∃ t : Nat, t ≤ 16 ∧ j = .int .i64 t ∧ (∃ b, m = .bool b ∧ Hid (b = mayN l k t)) ∧ ∃ q, wr = wz.drewN q
def LitB (s r : ByteArray) (m : Nat) (wz : World) (b j : Value) (wr : World) : Prop := ∃ t : Nat, t ≤ 128 ∧ j = .int .i64 t ∧ (∃ n : Nat, b = .int .i64 n ∧ n ≤ m + t ∧ Hid (n = m + cntN (bd s r) t)) ∧ ∃ q, wr = wz.drewN q
theorem sum_step (xs ys : List ByteArray) (f : Nat) {n : Nat} (h : bdN xs ys f = n) : sumN (bdN xs ys) (f + 1) = sumN (bdN xs ys) f + n := by rw [sumN, h]
theorem may_step {l : List Pte} {k t : Nat} {p : Pte} (h : l[t]? = some p) : mayN l k (t + 1) = (mayN l k t || (p.is && (p.wr && p.fr == (k : Int)))) := by rw [mayN, h]
theorem cnt_yes {P : Nat → Bool} {k : Nat} (h : P k = true) : cntN P (k + 1) = cntN P k + 1 := by rw [cntN, if_pos h]
theorem cnt_no {P : Nat → Bool} {k : Nat} (h : P k = false) : cntN P (k + 1) = cntN P k := by rw [cntN, h]; rfl
set_option maxHeartbeats 4000000 in
theorem law_little (R : List Nat) (pc : Nat) (l : List Pte) (A : Option Addr) (c : Nat) (xs : List ByteArray) (w : World) (ht : Tab5 w) (hR : Regs R) (hp : pc < 4294967296) (hl : l.length = 16) (hx : xs.length ≤ maxLen) (hs : ∀ s ∈ xs, s.size ≤ 9223372036854775807)
    (h : RowAt w w.heap.size A (xs.map .string)) (h0 : A = none → xs.length = 0 ∧ c = 0) :
    Calls Tryd.prog 6 #[.agg (cpuC R pc), .agg (pteL l).toArray, .slice A xs.length c] w fun e w' => e = .returned (.bool true) ∧ Below w.heap.size w w' := by
  have HT := Lib.hid ht
  have HR := Lib.hid hR
  have HL := Lib.hid hl
  have HX := Lib.hid hx
  have HS := Lib.hid hs
  have HA := Lib.hid h
  have H0 := Lib.hid h0
  clear ht hR hl hx hs h h0
  have C0 : Hid (Blk ((w.alloc (.cells (cpuC R pc) 25)).alloc (.cells (pteL l).toArray 29)) w.heap.size 25 (cpuC R pc)) := (Blk.new w _ _).alloc _
  have S0 : Hid (Blk ((w.alloc (.cells (cpuC R pc) 25)).alloc (.cells (pteL l).toArray 29)) (w.heap.size + 1) 29 (pteL l).toArray) := by
    have := Blk.new (w.alloc (.cells (cpuC R pc) 25)) 29 (pteL l).toArray
    rwa [World.size_alloc] at this
  have B0 : Hid (Below w.heap.size w ((w.alloc (.cells (cpuC R pc) 25)).alloc (.cells (pteL l).toArray 29))) := ((Below.refl _ _).alloc (Nat.le_refl _) _).alloc (by simp) _
  go_enter Tryd.func6, Tryd.ntmps6
  go_wp2_with fail
  refine (alive14_any _ (HT.out.later B0.out)).mono ?_
  rintro e w0 ⟨rfl, hb⟩
  have Cc := Lib.hid (C0.out.below hb C0.out.lt)
  have S := Lib.hid (S0.out.below hb S0.out.lt)
  have B := Lib.hid (B0.out.trans (hb.mono B0.out.size))
  clear hb C0 S0 B0
  have RA := Lib.hid ((HA.out.below B.out).mono B.out.size)
  go_wp2_with fail
  refine (great14_any A c xs w0 HX.out HS.out RA.out).mono ?_
  rintro e w' ⟨he, rfl⟩
  rcases he with rfl | ⟨rfl, hsm⟩
  · go_wp2
    go_ret
    exact ⟨rfl, B.out⟩
  have HM := Lib.hid hsm
  have x16 : xs.length ≤ 16 := hsm.1
  have PL := Lib.hid (step_little (pc := pc) HR.out.1 HL.out hsm)
  have PA := Lib.hid (fun w => step_out (rfl : stepR R pc l xs = stepR R pc l xs) A c w HR.out hp HL.out (by omega))
  have RO := Lib.hid (step_len (pc := pc) (l := l) (xs := xs) HR.out.1)
  clear hsm
  generalize stepR R pc l xs = o at *
  obtain ⟨Q, qc, ys, kd, nn⟩ := o
  try dsimp only at PL PA RO
  go_wp2_with (first
    | (refine load_blk 25 (.tmp 3) w.heap.size 25 (cpuC R pc) _ rfl rfl rfl Cc.out Tryd.underlying25 rfl (cpu_size HR.out.1) ?_; go_frame)
    | (refine load_blk 29 (.tmp 4) (w.heap.size + 1) 29 (pteL l).toArray _ rfl rfl rfl S.out Tryd.underlying29 rfl (space_size HL.out) ?_; go_frame))
  refine (PA.out _ RA.out H0.out (HT.out.later B.out)).mono ?_
  rintro e wa ⟨⟨A', c', rfl, hra, h0a, _⟩, hba⟩
  try dsimp only at hra h0a
  have RX := Lib.hid ((RA.out.below hba).mono hba.size)
  replace Cc := Lib.hid (Cc.out.below hba Cc.out.lt)
  replace S := Lib.hid (S.out.below hba S.out.lt)
  replace B := Lib.hid (B.out.trans (hba.mono B.out.size))
  have RY := Lib.hid hra
  clear hba hra h0a RA
  have hln : ((ys.length : Int) != (xs.length : Int)) = false := by have := PL.out.1; simp; omega
  have QL := RO
  rcases PL.out.2 with ⟨hk, hQ, hq, hy⟩ | ⟨hk, hlit⟩
  · obtain rfl : Q = R := hQ
    obtain rfl : qc = pc := hq
    obtain rfl : ys = xs := hy
    clear PL
    have heq := fun w => cpuC_eql (pc := qc) QL.out w
    have hor : (kd == 2 || kd == 3) = true := by rcases hk with rfl | rfl <;> rfl
    rcases hk with rfl | rfl
    all_goals
      go_wp2_with (first
        | (refine store_blk 25 (.tmp 7) (.tmp 26) wa.heap.size 25 zC (cpuC Q qc) rfl rfl rfl rfl ((Blk.new wa _ _).alloc _) (by rw [cpuC_size, QL.out]; rfl) (cpu_size QL.out) (cpuC_one _ _) ?_; intro wa4 hra4 hga4; go_frame)
        | (refine store_blk 34 (.tmp 9) (.tmp 28) (wa.heap.size + 1) 34 zE (evC _ nn) rfl rfl rfl rfl (ev_new hga4) rfl ev_info (evC_one _ _) ?_; intro wa5 hra5 hga5; have ke0 : wa5.cell? ⟨wa.heap.size + 1, 0, none⟩ = some (.int .i64 _) := Blk.cell hra5 0 rfl; go_frame)
        | (refine load_blk 25 (.tmp 7) wa.heap.size 25 (cpuC Q qc) _ rfl rfl rfl (hra4.grown hga5 (ne_blk (by omega))) Tryd.underlying25 rfl (cpu_size QL.out) ?_; go_frame)
        | (refine load_blk 25 (.tmp 3) w.heap.size 25 (cpuC Q qc) _ rfl rfl rfl (two_keep hga4 hga5 Cc.out) Tryd.underlying25 rfl (cpu_size QL.out) ?_; go_frame))
      have CS := Lib.hid (same14_any A' A c' c ys ys wa5 HX.out HX.out (two_row hga4 hga5 RY.out) (two_row hga4 hga5 RX.out))
      replace B := Lib.hid (two_below hga4 hga5 B.out)
      clear hra4 hga4 hra5 hga5
      rw [show sameN ys ys = 1 from if_pos rfl] at CS
      refine CS.out.mono ?_
      rintro e wz ⟨rfl, hbz⟩
      replace B := Lib.hid (B.out.trans (hbz.mono B.out.size))
      clear hbz
      go_wp2
      go_ret
      exact ⟨rfl, B.out⟩
  · clear PL
    have k2 : (kd == 2) = false := by rcases hk with rfl | rfl <;> rfl
    have k3 : (kd == 3) = false := by rcases hk with rfl | rfl <;> rfl
    have HLT := Lib.hid hlit
    clear hk hlit
    go_wp2_with (first
      | (refine store_blk 25 (.tmp 7) (.tmp 26) wa.heap.size 25 zC (cpuC Q qc) rfl rfl rfl rfl ((Blk.new wa _ _).alloc _) (by rw [cpuC_size, QL.out]; rfl) (cpu_size QL.out) (cpuC_one _ _) ?_; intro wa4 hra4 hga4; go_frame)
      | (refine store_blk 34 (.tmp 9) (.tmp 28) (wa.heap.size + 1) 34 zE (evC _ nn) rfl rfl rfl rfl (ev_new hga4) rfl ev_info (evC_one _ _) ?_; intro wa5 hra5 hga5; have ke0 : wa5.cell? ⟨wa.heap.size + 1, 0, none⟩ = some (.int .i64 _) := Blk.cell hra5 0 rfl; go_frame))
    have D := Lib.hid (hra4.grown hga5 (ne_blk (by omega)))
    replace Cc := Lib.hid (two_keep hga4 hga5 Cc.out)
    replace S := Lib.hid (two_keep hga4 hga5 S.out)
    replace B := Lib.hid (two_below hga4 hga5 B.out)
    replace RY := Lib.hid (two_row hga4 hga5 RY.out)
    replace RX := Lib.hid (two_row hga4 hga5 RX.out)
    clear hra4 hga4 hra5 hga5 ke0 PA HT H0 HA
    generalize wa.heap.size = gd at *
    generalize hgc : w.heap.size = gc at *
    have HGC := Lib.hid hgc
    clear hgc
    have HLN : Hid (ys.length = xs.length) := by have := hln; simp at this; show _ = _; omega
    clear hln
    go_loopw [10, 12] (fun t i wr => LitC R Q wa5 t i wr) (fun _ i _ => 16 - (intOf i).toNat)
    case atStart => exact ⟨1, Nat.le_refl _, by omega, rfl, ⟨0, rfl, by omega, (cntN_one R Q).symm⟩, 0, rfl⟩
    case round =>
      obtain ⟨k, hk1, hk, rfl, ⟨n, rfl, hn, HN⟩, q, rfl⟩ := hrel
      by_cases hlt : k < 16
      · obtain ⟨x, hx⟩ : ∃ x, Q.getD k 0 = x := ⟨_, rfl⟩
        obtain ⟨y, hy⟩ : ∃ y, R.getD k 0 = y := ⟨_, rfl⟩
        have c1 : wa5.cell? ⟨gd, k, none⟩ = some (.int .u32 (x : Int)) := by rw [← hx]; exact D.out.cell k (cpuC_reg (by rw [QL.out]; exact hlt))
        have c2 : wa5.cell? ⟨gc, k, none⟩ = some (.int .u32 (y : Int)) := by rw [← hy]; exact Cc.out.cell k (cpuC_reg (by rw [HR.out.1]; exact hlt))
        have u1 : (k : Int) < 16 := by omega
        have hrd : rd R Q k = (x != y) := by unfold rd; rw [hx, hy]; simp [hk1]
        by_cases he : x = y
        · have HC := Lib.hid (cnt_no (P := rd R Q) (k := k) (by rw [hrd, he]; simp))
          have h1 : ((x : Int) != (y : Int)) = false := by rw [he]; simp
          clear he hrd hx hy
          go_wp2
          go_quiet (fail)
          go_wp2
          go_roundw
          case rel => exact ⟨k + 1, by omega, by omega, by go_num, ⟨n, rfl, hn, HN.out.trans HC.out.symm⟩, _, rfl⟩
          case measure => simp [intOf]; omega
        · have HC := Lib.hid (cnt_yes (P := rd R Q) (k := k) (by rw [hrd]; simpa using he))
          have h1 : ((x : Int) != (y : Int)) = true := by simp; omega
          have hn2 := cntN_le (rd R Q) k
          have hn3 : n ≤ k := by have := HN.out; omega
          clear he hrd hx hy hn2
          go_wp2
          go_quiet (fail)
          go_wp2
          go_roundw
          case rel => exact ⟨k + 1, by omega, by omega, by go_num, ⟨n + 1, by go_num, by omega, by have := HN.out; have := HC.out; show _ = _; omega⟩, _, rfl⟩
          case measure => simp [intOf]; omega
      · have N16 : Hid (n = cntN (rd R Q) 16) := by have e : k = 16 := by omega
                                                    rw [← e]; exact HN.out
        have n1 : n ≤ 1 := by have := N16.out; have := HLT.out.turned; omega
        have u1 : ¬ (k : Int) < 16 := by omega
        clear HN hlt
        go_wp2
        have d0 : wa5.cell? ⟨gd, 0, none⟩ = some (.int .u32 0) := by have := D.out.cell 0 (cpuC_reg (by rw [QL.out]; omega)); rw [HLT.out.r0] at this; exact this
        go_loopw [11, 13] (fun b i wr => LitF xs ys wa5 b i wr) (fun _ i _ => ys.length - (intOf i).toNat)
        case atStart => exact ⟨0, Nat.zero_le _, rfl, ⟨0, rfl, by omega, rfl⟩, _, rfl⟩
        case round =>
          obtain ⟨f, hf, rfl, ⟨m, rfl, hm, HM2⟩, q2, rfl⟩ := hrel
          have y16 : ys.length ≤ 16 := by have := HLN.out; omega
          by_cases hlf : f < ys.length
          · have hlx : f < xs.length := by have := HLN.out; omega
            obtain ⟨s, hs⟩ : ∃ s, ys[f] = s := ⟨_, rfl⟩
            obtain ⟨r, hr⟩ : ∃ r, xs[f] = r := ⟨_, rfl⟩
            have hs8 : s.size = 128 := by rw [← hs]; exact HLT.out.size f hlf
            have hr8 : r.size = 128 := by rw [← hr]; exact HM.out.2 _ (List.getElem_mem hlx)
            have hbe : bdN xs ys f = cntN (bd s r) 128 := by unfold bdN; simp [hlf, hlx, hs, hr]
            have MB := Lib.hid (sum_step xs ys f hbe)
            have MAY : Hid (∀ j, bd s r j = true → mayN l f 16 = true) := fun j hj => HLT.out.may f j hlf (by simpa [hlf, hlx, hs, hr] using hj)
            obtain ⟨b1, o1, rfl, hb1, hc1⟩ := RY.out.at_ (by simp; omega)
            obtain ⟨b2, o2, rfl, hb2, hc2⟩ := RX.out.at_ (by simp; omega)
            have g1 : wa5.cell? ⟨b1, o1 + f, none⟩ = some (.string s) := hc1 f _ (by simp [hlf, hs])
            have g2 : wa5.cell? ⟨b2, o2 + f, none⟩ = some (.string r) := hc2 f _ (by simp [hlx, hr])
            have t8 : ((s.size : Int) != 128) = false := by rw [hs8]; rfl
            clear hc1 hc2 hs hr hbe
            go_wp2
            go_loopw [14, 15] (fun m j wr => LitM l f wa5 m j wr) (fun _ j _ => 16 - (intOf j).toNat)
            case atStart => exact ⟨0, by omega, rfl, ⟨false, rfl, rfl⟩, _, rfl⟩
            case round =>
              obtain ⟨t, ht, rfl, ⟨b, rfl, HB⟩, q3, rfl⟩ := hrel
              by_cases hlt : t < 16
              · have hlp : t < l.length := by have := HL.out; omega
                have hpl := pteL_get l t hlp
                obtain ⟨p, hp2⟩ : ∃ p, l[t] = p := ⟨_, rfl⟩
                rw [hp2] at hpl
                have p0 : wa5.cell? ⟨gc + 1, t * 3, none⟩ = some (.bool p.is) := S.out.cell _ (by rw [Nat.mul_comm]; simpa using hpl.1)
                have p1 : wa5.cell? ⟨gc + 1, t * 3 + 1, none⟩ = some (.bool p.wr) := S.out.cell _ (by rw [Nat.mul_comm t]; simpa using hpl.2.1)
                have p2 : wa5.cell? ⟨gc + 1, t * 3 + 2, none⟩ = some (.int .i64 p.fr) := S.out.cell _ (by rw [Nat.mul_comm t]; simpa using hpl.2.2)
                have HS2 := Lib.hid (may_step (k := f) (List.getElem?_eq_some_iff.2 ⟨hlp, hp2⟩))
                have ti : (t : Int) < 16 := by omega
                obtain ⟨pi, pw, pf⟩ := p
                dsimp only at p0 p1 p2
                have HB2 := Lib.hid (show mayN l f (t + 1) = (b || (pi && (pw && pf == (f : Int)))) by rw [HS2.out, ← HB.out])
                clear hpl hp2 HS2 HB
                by_cases hpf : pf = (f : Int)
                all_goals
                  have hpf2 : (pf == (f : Int)) = decide (pf = (f : Int)) := by rw [Bool.eq_iff_iff]; simp
                  have HB3 := Lib.hid (HB2.out.trans (by rw [hpf2]))
                  clear HB2 hpf2
                · have e1 : (pf == (f : Int)) = true := by simpa using hpf
                  have HB4 : Hid (mayN l f (t + 1) = (b || (pi && pw))) := HB3.out.trans (by simp [hpf])
                  clear hpf HB3
                  cases b <;> cases pi <;> cases pw
                  all_goals
                    go_wp2
                    go_roundw
                    case rel => exact ⟨t + 1, by omega, by go_num, ⟨_, rfl, HB4.out.symm⟩, _, rfl⟩
                    case measure => simp [intOf]; omega
                · have e1 : (pf == (f : Int)) = false := by simpa using hpf
                  have HB4 : Hid (mayN l f (t + 1) = b) := HB3.out.trans (by simp [hpf])
                  clear hpf HB3
                  cases b <;> cases pi <;> cases pw
                  all_goals
                    go_wp2
                    go_roundw
                    case rel => exact ⟨t + 1, by omega, by go_num, ⟨_, rfl, HB4.out.symm⟩, _, rfl⟩
                    case measure => simp [intOf]; omega
              · have HBM : Hid (∀ j, bd s r j = true → b = true) := fun j hj => by
                  have e : t = 16 := by omega
                  rw [HB.out, e]; exact MAY.out j hj
                have ti : ¬ (t : Int) < 16 := by omega
                clear hlt HB MAY
                have HS8 := Lib.hid hs8
                have HR8 := Lib.hid hr8
                clear hs8 hr8
                go_wp2
                go_loopw [11, 16] (fun b j wr => LitB s r m wa5 b j wr) (fun _ j _ => 128 - (intOf j).toNat)
                case atStart => exact ⟨0, by omega, rfl, ⟨m, rfl, by omega, rfl⟩, _, rfl⟩
                case round =>
                  obtain ⟨j, hj, rfl, ⟨x, rfl, hx, HXX⟩, q4, rfl⟩ := hrel
                  by_cases hjl : j < 128
                  · have j1 : j < s.size := by have := HS8.out; omega
                    have j2 : j < r.size := by have := HR8.out; omega
                    have ju : (j : Int) < 128 := by omega
                    have hbg := bd_get j1 j2
                    by_cases he : bd s r j = true
                    · have hb : b = true := HBM.out j he
                      have e1 : ((s[j].toNat : Int) != (r[j].toNat : Int)) = true := by rw [← hbg]; exact he
                      have HC := Lib.hid (cnt_yes he)
                      clear hbg he
                      go_wp2
                      go_quiet (fail)
                      go_wp2
                      go_roundw
                      case rel => exact ⟨j + 1, by omega, by go_num, ⟨x + 1, by go_num, by omega, by have := HXX.out; have := HC.out; show _ = _; omega⟩, _, rfl⟩
                      case measure => simp [intOf]; omega
                    · have e1 : ((s[j].toNat : Int) != (r[j].toNat : Int)) = false := by rw [← hbg]; simpa using he
                      have HC := Lib.hid (cnt_no (P := bd s r) (k := j) (by simpa using he))
                      clear hbg he
                      go_wp2
                      go_quiet (fail)
                      go_wp2
                      go_roundw
                      case rel => exact ⟨j + 1, by omega, by go_num, ⟨x, rfl, by omega, HXX.out.trans (by rw [HC.out])⟩, _, rfl⟩
                      case measure => simp [intOf]; omega
                  · have HE : Hid (x = sumN (bdN xs ys) (f + 1)) := by
                      have e : j = 128 := by omega
                      have h1 := HXX.out
                      have h2 := HM2.out
                      have h3 := MB.out
                      rw [e] at h1
                      show _ = _
                      omega
                    have ju : ¬ (j : Int) < 128 := by omega
                    clear hjl HXX
                    go_wp2
                    go_roundw
                    case rel => exact ⟨f + 1, by omega, by go_num, ⟨x, rfl, by omega, HE.out⟩, _, rfl⟩
                    case measure => simp [intOf]; omega
          · have ME : m = sumN (bdN xs ys) ys.length := by
              have e : f = ys.length := by omega
              rw [← e]; exact HM2.out
            have m4 : m ≤ 4 := by have := HLT.out.bytes; omega
            have hz : n = 0 ∨ m = 0 := by have h1 := HLT.out.either; have h2 := N16.out; omega
            have fu : ¬ (f : Int) < (ys.length : Int) := by omega
            have n1' : (n : Int) ≤ 1 := by omega
            have m4' : (m : Int) ≤ 4 := by omega
            clear hlf ME HM2
            by_cases hn0 : n = 0
            · have z1 : ((n : Int) == 0) = true := by simp [hn0]
              clear hn0 hz
              go_wp2
              go_ret
              exact ⟨rfl, by rw [HGC.out]; exact below_drewN B.out _⟩
            · have z1 : ((n : Int) == 0) = false := by simp [hn0]
              have z2 : ((m : Int) == 0) = true := by simp; omega
              clear hn0 hz
              go_wp2
              go_ret
              exact ⟨rfl, by rw [HGC.out]; exact below_drewN B.out _⟩
end Go.Proofs.YtcjakmnplkeldaaDoor
