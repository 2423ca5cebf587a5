/-
  CpuApart: the walk.
-/
import Derived.Test.YtcjakmnplkeldaaDoorCpuOps
import Derived.Test.YtcjakmnplkeldaaDoorApart14
namespace Go.Proofs.YtcjakmnplkeldaaDoor
open Go.RowKit
set_option linter.unusedVariables false
set_option linter.unusedSimpArgs false
set_option maxRecDepth 100000
/-- the heads of the loops -/
def ApR (l : List Pte) (xs : List ByteArray) (z : ByteArray) (w0 : World) (v i : Value) (wr : World) : Prop := ∃ k : Nat, k ≤ xs.length ∧ i = .int .i64 k ∧ Hid (wr.ownsRow w0.heap.size 9 1 v k ((apL l xs z k).map .string)) ∧ Hid (Below w0.heap.size w0 wr)
def ApM (l : List Pte) (k : Nat) (w0 : World) (m j : Value) (wr : World) : Prop := ∃ t : Nat, t ≤ 16 ∧ j = .int .i64 t ∧ (∃ b, m = .bool b ∧ Hid (b = seenN l k t)) ∧ wr = w0
theorem stepA_len {R : List Nat} {pc : Nat} {l : List Pte} {xs : List ByteArray} (hR : R.length = 16) : (stepR R pc l xs).R.length = 16 := by
  rcases (step_is R pc l xs).out with ⟨_, h, _⟩ | ⟨_, a, v, h, _⟩ <;> rw [h] <;> simp [hR]
theorem seen_step {l : List Pte} {k t : Nat} {p : Pte} (h : l[t]? = some p) : seenN l k (t + 1) = (seenN l k t || (p.is && p.fr == (k : Int))) := by rw [seenN, h]
theorem apE_yes {l : List Pte} {xs : List ByteArray} {z : ByteArray} {k : Nat} (h : seenN l k 16 = true) (hk : k < xs.length) : apE l xs z k = xs[k] := by unfold apE; rw [if_pos h]; simp [hk]
theorem apE_no {l : List Pte} {xs : List ByteArray} {z : ByteArray} {k : Nat} (h : seenN l k 16 = false) : apE l xs z k = z := by unfold apE; rw [h]; rfl
theorem ap_grow {l : List Pte} {xs : List ByteArray} {z s : ByteArray} {k : Nat} {w0 wr w9 : World} {v v9 : Value} (he : apE l xs z k = s) (hb : Below w0.heap.size w0 wr) (ho : wr.ownsRow w0.heap.size 9 1 v k ((apL l xs z k).map .string))
    (own : w9.ownsRow w0.heap.size 9 1 v9 (k + 1) ((apL l xs z k).map .string ++ [.string s])) (hg : (wr.alloc (.cells #[.string s] 9)).grownBy w9 v.ownBlock) :
    w9.ownsRow w0.heap.size 9 1 v9 (k + 1) ((apL l xs z (k + 1)).map .string) ∧ Below w0.heap.size w0 w9 := by
  refine ⟨by rw [apL_succ, List.map_append, he]; exact own, (hb.alloc hb.size _).grown hg (by have := hb.size; simp; omega) (fun b hk => ?_)⟩
  rcases ho.2 with ⟨rfl, _⟩ | ⟨g, cap, cur, rfl, hbg, _⟩
  · cases hk
  · cases hk; exact hbg
set_option maxHeartbeats 4000000 in
theorem law_apart14 (R : List Nat) (pc : Nat) (l : List Pte) (A : Option Addr) (c : Nat) (xs : List ByteArray) (z : ByteArray) (w : World) (ht : Tab5 w) (hR : Regs R) (hp : pc < 4294967296) (hl : l.length = 16) (hx : xs.length ≤ maxLen) (hs : ∀ s ∈ xs, s.size ≤ 9223372036854775807) (hzs : z.size ≤ 9223372036854775807)
    (h : RowAt w w.heap.size A (xs.map .string)) (h0 : A = none → xs.length = 0 ∧ c = 0) :
    Calls Tryd.prog 7 #[.agg (cpuC R pc), .agg (pteL l).toArray, .slice A xs.length c, .string z] w fun e w' => e = .returned (.bool true) ∧ Below w.heap.size w w' := by
  have HT := Lib.hid ht
  have HR := Lib.hid hR
  have HL := Lib.hid hl
  have HX := Lib.hid hx
  have HS := Lib.hid hs
  have HA := Lib.hid h
  have H0 := Lib.hid h0
  clear ht hR hl hx hs h h0
  have C0 : Hid (Blk ((w.alloc (.cells (cpuC R pc) 25)).alloc (.cells (pteL l).toArray 29)) w.heap.size 25 (cpuC R pc)) := (Blk.new w _ _).alloc _
  have S0 : Hid (Blk ((w.alloc (.cells (cpuC R pc) 25)).alloc (.cells (pteL l).toArray 29)) (w.heap.size + 1) 29 (pteL l).toArray) := by
    have := Blk.new (w.alloc (.cells (cpuC R pc) 25)) 29 (pteL l).toArray
    rwa [World.size_alloc] at this
  have B0 : Hid (Below w.heap.size w ((w.alloc (.cells (cpuC R pc) 25)).alloc (.cells (pteL l).toArray 29))) := ((Below.refl _ _).alloc (Nat.le_refl _) _).alloc (by simp) _
  go_enter Tryd.func7, Tryd.ntmps7
  go_wp2_with fail
  refine (alive14_any _ (HT.out.later B0.out)).mono ?_
  rintro e w0 ⟨rfl, hb⟩
  have Cc := Lib.hid (C0.out.below hb C0.out.lt)
  have S := Lib.hid (S0.out.below hb S0.out.lt)
  have B := Lib.hid (B0.out.trans (hb.mono B0.out.size))
  clear hb C0 S0 B0
  have RA := Lib.hid ((HA.out.below B.out).mono B.out.size)
  go_wp2_with fail
  refine (great14_any A c xs w0 HX.out HS.out RA.out).mono ?_
  rintro e w' ⟨he, rfl⟩
  rcases he with rfl | ⟨rfl, hsm⟩
  · go_wp2
    go_ret
    exact ⟨rfl, B.out⟩
  by_cases hz8 : ¬ z.size = 128
  · have e1 : ((z.size : Int) != 128) = true := by simp; omega
    clear hz8
    go_wp2
    go_ret
    exact ⟨rfl, B.out⟩
  have e1 : ((z.size : Int) != 128) = false := by simp; omega
  have HZ : Hid (z.size = 128) := by show _ = _; omega
  have HM := Lib.hid hsm
  have x16 : xs.length ≤ 16 := hsm.1
  clear hsm hz8
  obtain ⟨i0, hi, hz0, hz1, hz2⟩ := info_parts str_info
  have I0 := Lib.hid (And.intro hi (And.intro hz0 (And.intro hz1 hz2)))
  clear hi hz0 hz1 hz2
  go_wp2
  go_loopw [9, 10] (fun v i wr => ApR l xs z w0 v i wr) (fun _ i _ => xs.length - (intOf i).toNat)
  case atStart => exact ⟨0, Nat.zero_le _, rfl, ⟨by simp [apL], .inl ⟨rfl, rfl⟩⟩, Below.refl _ _⟩
  case round =>
    obtain ⟨k, hk, rfl, OW, BW⟩ := hrel
    by_cases hlt : k < xs.length
    · have S1 := Lib.hid (S.out.below BW.out S.out.lt)
      have R1 := Lib.hid ((RA.out.below BW.out).mono BW.out.size)
      obtain ⟨x, hxk⟩ : ∃ x, xs[k] = x := ⟨_, rfl⟩
      have HXK := Lib.hid hxk
      obtain ⟨b1, o1, rfl, hb1, hc1⟩ := R1.out.at_ (by simp; omega)
      have g1 : wr.cell? ⟨b1, o1 + k, none⟩ = some (.string x) := hc1 k _ (by simp [hlt, hxk])
      clear hc1 hxk hb1
      go_wp2
      obtain ⟨wo, hwo⟩ : ∃ wo : World, wo = wr := ⟨_, rfl⟩
      subst hwo
      go_loopw [11, 12] (fun m j w2 => ApM l k wo m j w2) (fun _ j _ => 16 - (intOf j).toNat)
      case atStart => exact ⟨0, by omega, rfl, ⟨false, rfl, rfl⟩, rfl⟩
      case round =>
        obtain ⟨t, ht, rfl, ⟨b, rfl, HB⟩, hw2⟩ := hrel
        subst hw2
        by_cases hlt2 : t < 16
        · have hlp : t < l.length := by have := HL.out; omega
          have hpl := pteL_get l t hlp
          obtain ⟨p, hp2⟩ : ∃ p, l[t] = p := ⟨_, rfl⟩
          rw [hp2] at hpl
          have p0 : wr.cell? ⟨w.heap.size + 1, t * 3, none⟩ = some (.bool p.is) := S1.out.cell _ (by rw [Nat.mul_comm]; simpa using hpl.1)
          have p2 : wr.cell? ⟨w.heap.size + 1, t * 3 + 2, none⟩ = some (.int .i64 p.fr) := S1.out.cell _ (by rw [Nat.mul_comm t]; simpa using hpl.2.2)
          have HS2 := Lib.hid (seen_step (k := k) (List.getElem?_eq_some_iff.2 ⟨hlp, hp2⟩))
          have ti : (t : Int) < 16 := by omega
          obtain ⟨pi, pw, pf⟩ := p
          dsimp only at p0 p2
          have HB2 := Lib.hid (show seenN l k (t + 1) = (b || (pi && pf == (k : Int))) by rw [HS2.out, ← HB.out])
          clear hpl hp2 HS2 HB
          by_cases hpf : pf = (k : Int)
          · have e2 : (pf == (k : Int)) = true := by simpa using hpf
            have HB4 : Hid (seenN l k (t + 1) = (b || pi)) := HB2.out.trans (by rw [e2]; simp)
            clear hpf HB2
            cases b <;> cases pi
            all_goals
              go_wp2
              go_roundw
              case rel => exact ⟨t + 1, by omega, by go_num, ⟨_, rfl, HB4.out.symm⟩, rfl⟩
              case measure => simp [intOf]; omega
          · have e2 : (pf == (k : Int)) = false := by simpa using hpf
            have HB4 : Hid (seenN l k (t + 1) = b) := HB2.out.trans (by rw [e2]; simp)
            clear hpf HB2
            cases b <;> cases pi
            all_goals
              go_wp2
              go_roundw
              case rel => exact ⟨t + 1, by omega, by go_num, ⟨_, rfl, HB4.out.symm⟩, rfl⟩
              case measure => simp [intOf]; omega
        · have HBM : Hid (b = seenN l k 16) := by
            have e : t = 16 := by omega
            rw [← e]; exact HB.out
          have ti : ¬ (t : Int) < 16 := by omega
          clear hlt2 HB
          have HM1 : Hid (k + 1 ≤ maxLen) := by show _ ≤ _; unfold maxLen; omega
          have HY : Hid ((k + 1) * 16 ≤ 140737488355328) := by show _ ≤ _; omega
          have HBS : ∀ s : ByteArray, Hid (w0.heap.size ≤ (wr.alloc (.cells #[.string s] 9)).heap.size) := fun s => by show _ ≤ _; have := BW.out.size; simp; omega
          have HC : ∀ s : ByteArray, Hid (∀ j u, [Value.string s][j]? = some u → (wr.alloc (.cells #[.string s] 9)).cell? ((⟨wr.heap.size, 0, none⟩ : Addr).add j) = some u) := fun s j u hu => by
            cases j with
            | zero => cases hu; exact (Blk.new wr 9 #[.string s]).cell 0 rfl
            | succ j => simp at hu
          have H1 : ∀ s : ByteArray, Hid (∀ u ∈ [Value.string s], u.oneCell' = true) := fun s u hu => by simp at hu; subst hu; rfl
          have OW2 := fun s : ByteArray => Lib.hid (own_below OW.out ((Below.refl _ _).alloc (Nat.le_refl _) (.cells #[.string s] 9)))
          cases b
          · have HE : Hid (apE l xs z k = z) := apE_no HBM.out.symm
            have HCz := HC z
            have H1z := H1 z
            have OWz := OW2 z
            have HBz := HBS z
            clear HC H1 OW2 HBM HBS
            go_wp2_with (at_builtin; refine wpList_append_own _ rfl (.tmp 62) (.tmp 64) 30 rfl w0.heap.size 9 i0 (.string ⟨#[]⟩) 1 16 Tryd.underlying30 I0.out.1 I0.out.2.1 I0.out.2.2.1 I0.out.2.2.2 rfl (by decide) _ k _ rfl OWz.out ⟨wr.heap.size, 0, none⟩ 1 1 [.string z] rfl rfl HCz.out H1z.out HM1.out HY.out HBz.out ?_; intro v9 w9 own hg hv)
            have GR := Lib.hid (ap_grow HE.out BW.out OW.out own hg)
            clear own hg hv
            go_wp2
            go_roundw
            case rel => exact ⟨k + 1, by omega, by go_num, GR.out.1, GR.out.2⟩
            case measure => simp [intOf]; omega
          · have HE : Hid (apE l xs z k = x) := (apE_yes HBM.out.symm hlt).trans HXK.out
            have HCz := HC x
            have H1z := H1 x
            have OWz := OW2 x
            have HBz := HBS x
            clear HC H1 OW2 HBM HBS
            go_wp2_with (at_builtin; refine wpList_append_own _ rfl (.tmp 55) (.tmp 60) 30 rfl w0.heap.size 9 i0 (.string ⟨#[]⟩) 1 16 Tryd.underlying30 I0.out.1 I0.out.2.1 I0.out.2.2.1 I0.out.2.2.2 rfl (by decide) _ k _ rfl OWz.out ⟨wr.heap.size, 0, none⟩ 1 1 [.string x] rfl rfl HCz.out H1z.out HM1.out HY.out HBz.out ?_; intro v9 w9 own hg hv)
            have GR := Lib.hid (ap_grow HE.out BW.out OW.out own hg)
            clear own hg hv
            go_wp2
            go_roundw
            case rel => exact ⟨k + 1, by omega, by go_num, GR.out.1, GR.out.2⟩
            case measure => simp [intOf]; omega
    · obtain rfl : k = xs.length := by omega
      replace Cc := Lib.hid (Cc.out.below BW.out Cc.out.lt)
      replace S := Lib.hid (S.out.below BW.out S.out.lt)
      replace RA := Lib.hid ((RA.out.below BW.out).mono BW.out.size)
      replace B := Lib.hid (B.out.trans (BW.out.mono B.out.size))
      obtain ⟨A1, c1, rfl, rz, z0⟩ := own_read OW.out
      have RZ := Lib.hid rz
      have Z0 := Lib.hid z0
      clear rz z0 OW BW hlt
      have TT := Lib.hid (apL_small (l := l) HM.out HZ.out)
      have PA := Lib.hid (fun w => step_out (rfl : stepR R pc l xs = stepR R pc l xs) A c w HR.out hp HL.out (by omega))
      have PB := fun w => step_out (rfl : stepR R pc l (apL l xs z xs.length) = stepR R pc l (apL l xs z xs.length)) A1 c1 w HR.out hp HL.out (by rw [apL_length]; omega)
      rw [apL_length] at PB
      have QB := Lib.hid PB
      clear PB
      have RO := Lib.hid (stepA_len (pc := pc) (l := l) (xs := xs) HR.out.1)
      have AL := step_ap (xs := xs) (z := z) HL.out R pc
      have ZL := Lib.hid (apL_length l xs z xs.length)
      generalize apL l xs z xs.length = zs at *
      generalize stepR R pc l xs = o at *
      generalize stepR R pc l zs = u at *
      obtain ⟨Q, qc, ys, kd, nn⟩ := o
      obtain ⟨Q2, qc2, us, kd2, nn2⟩ := u
      obtain ⟨a1, a2, a3, a4, tw⟩ := AL
      dsimp only at a1 a2 a3 a4 tw
      subst a1 a2 a3 a4
      have TW := Lib.hid tw
      clear tw
      try dsimp only at PA QB RO
      go_wp2_with (first
        | (refine load_blk 25 (.tmp 4) w.heap.size 25 (cpuC R pc) _ rfl rfl rfl Cc.out Tryd.underlying25 rfl (cpu_size HR.out.1) ?_; go_frame)
        | (refine load_blk 29 (.tmp 5) (w.heap.size + 1) 29 (pteL l).toArray _ rfl rfl rfl S.out Tryd.underlying29 rfl (space_size HL.out) ?_; go_frame))
      refine (PA.out _ RA.out H0.out (HT.out.later B.out)).mono ?_
      rintro e wa ⟨⟨Aa, ca, rfl, hra, h0a, _⟩, hba⟩
      try dsimp only at hra h0a
      have RM := Lib.hid hra
      replace Cc := Lib.hid (Cc.out.below hba Cc.out.lt)
      replace S := Lib.hid (S.out.below hba S.out.lt)
      replace RA := Lib.hid ((RA.out.below hba).mono hba.size)
      replace RZ := Lib.hid ((RZ.out.below hba).mono hba.size)
      replace B := Lib.hid (B.out.trans (hba.mono B.out.size))
      clear hba hra h0a
      go_wp2_with (first
        | (refine store_blk 25 (.tmp 13) (.tmp 71) wa.heap.size 25 zC (cpuC Q2 qc2) rfl rfl rfl rfl ((Blk.new wa _ _).alloc _) (by rw [cpuC_size, RO.out]; rfl) (cpu_size RO.out) (cpuC_one _ _) ?_; intro wa4 hra4 hga4; go_frame)
        | (refine store_blk 34 (.tmp 15) (.tmp 73) (wa.heap.size + 1) 34 zE (evC kd2 nn2) rfl rfl rfl rfl (ev_new hga4) rfl ev_info (evC_one _ _) ?_; intro wa5 hra5 hga5; go_frame)
        | (refine load_blk 25 (.tmp 4) w.heap.size 25 (cpuC R pc) _ rfl rfl rfl (two_keep hga4 hga5 Cc.out) Tryd.underlying25 rfl (cpu_size HR.out.1) ?_; go_frame)
        | (refine load_blk 29 (.tmp 5) (w.heap.size + 1) 29 (pteL l).toArray _ rfl rfl rfl (two_keep hga4 hga5 S.out) Tryd.underlying29 rfl (space_size HL.out) ?_; go_frame))
      replace RM := Lib.hid (two_row hga4 hga5 RM.out)
      replace RA := Lib.hid (two_row hga4 hga5 RA.out)
      replace RZ := Lib.hid (two_row hga4 hga5 RZ.out)
      have Ca := Lib.hid (hra4.grown hga5 (ne_blk (by omega)))
      have Ea := Lib.hid hra5
      replace B := Lib.hid (two_below hga4 hga5 B.out)
      clear hra4 hga4 hra5 hga5 Cc S
      refine (QB.out _ RZ.out Z0.out (HT.out.later B.out)).mono ?_
      rintro e wb ⟨⟨Ab, cb, rfl, hrb, h0b, _⟩, hbb⟩
      try dsimp only at hrb h0b
      have RN := Lib.hid hrb
      replace Ca := Lib.hid (Ca.out.below hbb Ca.out.lt)
      replace Ea := Lib.hid (Ea.out.below hbb Ea.out.lt)
      replace RA := Lib.hid ((RA.out.below hbb).mono hbb.size)
      replace RZ := Lib.hid ((RZ.out.below hbb).mono hbb.size)
      replace RM := Lib.hid ((RM.out.below hbb).mono hbb.size)
      replace B := Lib.hid (B.out.trans (hbb.mono B.out.size))
      clear hbb hrb h0b
      have heq := fun w => cpuC_neq (pc := qc2) RO.out w
      have ly : ys.length = xs.length := TW.out.len.1
      have lu : us.length = xs.length := TW.out.len.2.trans ZL.out
      have l1 : ((ys.length : Int) != (us.length : Int)) = false := by rw [ly, lu]; simp
      have l2 : ((ys.length : Int) != (xs.length : Int)) = false := by rw [ly]; simp
      have LY := Lib.hid ly
      have LU := Lib.hid lu
      clear ly lu
      go_wp2_with (first
        | (refine store_blk 25 (.tmp 16) (.tmp 79) wb.heap.size 25 zC (cpuC Q2 qc2) rfl rfl rfl rfl ((Blk.new wb _ _).alloc _) (by rw [cpuC_size, RO.out]; rfl) (cpu_size RO.out) (cpuC_one _ _) ?_; intro wb4 hrb4 hgb4; go_frame)
        | (refine store_blk 34 (.tmp 18) (.tmp 81) (wb.heap.size + 1) 34 zE (evC kd2 nn2) rfl rfl rfl rfl (ev_new hgb4) rfl ev_info (evC_one _ _) ?_; intro wb5 hrb5 hgb5; have ke0 : wb5.cell? ⟨wa.heap.size + 1, 0, none⟩ = some (.int .i64 _) := Blk.cell (two_keep hgb4 hgb5 Ea.out) 0 rfl; have ke1 : wb5.cell? ⟨wa.heap.size + 1, 1, none⟩ = some (.int .u32 _) := Blk.cell (two_keep hgb4 hgb5 Ea.out) 1 rfl; have kf0 : wb5.cell? ⟨wb.heap.size + 1, 0, none⟩ = some (.int .i64 _) := Blk.cell hrb5 0 rfl; have kf1 : wb5.cell? ⟨wb.heap.size + 1, 1, none⟩ = some (.int .u32 _) := Blk.cell hrb5 1 rfl; go_frame)
        | (refine load_blk 25 (.tmp 13) wa.heap.size 25 (cpuC Q2 qc2) _ rfl rfl rfl (two_keep hgb4 hgb5 Ca.out) Tryd.underlying25 rfl (cpu_size RO.out) ?_; go_frame)
        | (refine load_blk 25 (.tmp 16) wb.heap.size 25 (cpuC Q2 qc2) _ rfl rfl rfl (hrb4.grown hgb5 (ne_blk (by omega))) Tryd.underlying25 rfl (cpu_size RO.out) ?_; go_frame))
      replace RM := Lib.hid (two_row hgb4 hgb5 RM.out)
      replace RN := Lib.hid (two_row hgb4 hgb5 RN.out)
      replace RA := Lib.hid (two_row hgb4 hgb5 RA.out)
      replace RZ := Lib.hid (two_row hgb4 hgb5 RZ.out)
      replace B := Lib.hid (two_below hgb4 hgb5 B.out)
      clear hrb4 hgb4 hrb5 hgb5 Ca Ea ke0 ke1 kf0 kf1 heq l1 l2 PA QB HT HA
      go_loopw [19] (fun i wr => ∃ k : Nat, k ≤ xs.length ∧ i = .int .i64 k ∧ ∃ q, wr = wb5.drewN q) (fun i _ => xs.length - (intOf i).toNat)
      case atStart => exact ⟨0, Nat.zero_le _, rfl, 0, rfl⟩
      case round =>
        obtain ⟨k, hk, rfl, q, rfl⟩ := hrel
        by_cases hlt : k < xs.length
        · have k1 : k < ys.length := by have := LY.out; omega
          have k2 : k < us.length := by have := LU.out; omega
          have k3 : k < zs.length := by have := ZL.out; omega
          obtain ⟨x, hx⟩ : ∃ x, xs[k] = x := ⟨_, rfl⟩
          obtain ⟨y, hy⟩ : ∃ y, ys[k] = y := ⟨_, rfl⟩
          obtain ⟨u, hu⟩ : ∃ u, us[k] = u := ⟨_, rfl⟩
          obtain ⟨v, hv⟩ : ∃ v, zs[k] = v := ⟨_, rfl⟩
          have hx' : xs[k]? = some x := List.getElem?_eq_some_iff.2 ⟨hlt, hx⟩
          have hy' : ys[k]? = some y := List.getElem?_eq_some_iff.2 ⟨k1, hy⟩
          have hu' : us[k]? = some u := List.getElem?_eq_some_iff.2 ⟨k2, hu⟩
          have hv' : zs[k]? = some v := List.getElem?_eq_some_iff.2 ⟨k3, hv⟩
          obtain ⟨b1, o1, rfl, _, hc1⟩ := RA.out.at_ (by simp; omega)
          obtain ⟨b2, o2, rfl, _, hc2⟩ := RM.out.at_ (by simp; omega)
          obtain ⟨b3, o3, rfl, _, hc3⟩ := RN.out.at_ (by simp; omega)
          obtain ⟨b4, o4, rfl, _, hc4⟩ := RZ.out.at_ (by simp; omega)
          have g1 : wb5.cell? ⟨b1, o1 + k, none⟩ = some (.string x) := hc1 k _ (by simp [hx'])
          have g2 : wb5.cell? ⟨b2, o2 + k, none⟩ = some (.string y) := hc2 k _ (by simp [hy'])
          have g3 : wb5.cell? ⟨b3, o3 + k, none⟩ = some (.string u) := hc3 k _ (by simp [hu'])
          have g4 : wb5.cell? ⟨b4, o4 + k, none⟩ = some (.string v) := hc4 k _ (by simp [hv'])
          have hsame := TW.out.same (i := k)
          have hoth := TW.out.other (i := k)
          rw [hx', hv', hy', hu'] at hsame
          rw [hx', hv', hy', hu'] at hoth
          clear hc1 hc2 hc3 hc4 hx hy hu hv hx' hy' hu' hv'
          have ki : (k : Int) < (xs.length : Int) := by omega
          have ki1 : (k : Int) < (ys.length : Int) := by omega
          have ki2 : (k : Int) < (us.length : Int) := by omega
          by_cases he : v = x
          · have e2 : (!y.toList == u.toList) = false := by
              have := hsame (by rw [he])
              injection this with this
              rw [this]; exact str_eq _
            have e3 : (v.toList == x.toList) = true := by rw [he]; simp
            have e4 : (!v.toList == x.toList) = false := by rw [he]; exact str_eq _
            clear he hsame hoth
            go_wp2
            go_quiet (fail)
            go_wp2
            go_roundw
            case rel => exact ⟨k + 1, by omega, by go_num, _, rfl⟩
            case measure => simp [intOf]; omega
          · have h12 := hoth (fun h => he (Option.some.inj h))
            have hyx : y = x := Option.some.inj h12.1
            have huv : u = v := Option.some.inj h12.2
            have e2 : (!y.toList == x.toList) = false := by rw [hyx]; exact str_eq _
            have e3 : (v.toList == x.toList) = false := by have := str_ne he; simpa using this
            have e4 : (!v.toList == x.toList) = true := str_ne he
            have e5 : (!u.toList == v.toList) = false := by rw [huv]; exact str_eq _
            clear he hsame hoth h12 hyx huv
            go_wp2
            go_quiet (fail)
            go_wp2
            go_roundw
            case rel => exact ⟨k + 1, by omega, by go_num, _, rfl⟩
            case measure => simp [intOf]; omega
        · have kn : ¬ (k : Int) < (ys.length : Int) := by have := LY.out; omega
          clear hlt
          go_wp2
          go_ret
          exact ⟨rfl, below_drewN B.out _⟩
end Go.Proofs.YtcjakmnplkeldaaDoor
