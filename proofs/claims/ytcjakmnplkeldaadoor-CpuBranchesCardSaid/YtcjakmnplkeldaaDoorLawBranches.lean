/-
  CpuBranches: the walk.
-/
import Derived.Test.YtcjakmnplkeldaaDoorLawReturns
import Derived.Test.YtcjakmnplkeldaaDoorBrPlain
namespace Go.Proofs.YtcjakmnplkeldaaDoor
open Go.RowKit
set_option linter.unusedVariables false
set_option linter.unusedSimpArgs false
set_option maxRecDepth 100000
theorem regC_neq {R : List Nat} (h : R.length = 16) (w : World) : (binOp .neq 23 (.agg (regC R)) (.agg (regC R))).run Tryd.prog w = .ok (.bool false) w := by
  have := regC_eql h w
  rw [run_eql_struct] at this
  rw [run_neq_struct]
  generalize (Op.equalIn 10000 23 (.agg (regC R)) (.agg (regC R))).run Tryd.prog w = r at *
  cases r with
  | ok b w' => simp only [Result.andThen_ok] at this ⊢; injection this with h1 h2; injection h1 with h1; rw [h1, h2]; rfl
  | halt x w' => cases this
set_option maxHeartbeats 4000000 in
theorem taken14_any (op x y a b gf gc : Nat) (n : Int) (w : World) (ht : Tab5 w) (h1 : 25 ≤ op) (h2 : op ≤ 28) (hx : x ≤ 15) (hy : y ≤ 15) (n1 : -32768 ≤ n) (n2 : n ≤ 32767) (n0 : n ≠ 0) (ha : a < 4294967296) (hb : b < 4294967296)
    (hf : Blk w gf 56 #[.int .i16 n]) (hc : Blk w gc 25 (cpuC (brR a b) 0)) :
    Calls Tryd.prog 21 #[.int .u8 op, .int .u8 x, .int .u8 y, .pointer (some ⟨gf, 0, none⟩), .pointer (some ⟨gc, 0, none⟩)] w fun e w' => e = .returned (.int .i64 (tkN op ((brR a b).getD x 0) ((brR a b).getD y 0))) ∧ Below w.heap.size w w' := by
  have HT := Lib.hid ht
  have F := Lib.hid hf
  have Cc := Lib.hid hc
  have RR := Lib.hid (brR_regs ha hb)
  have RL := Lib.hid RR.out.1
  have PA := Lib.hid (fun A w => step_out (br_step (a := a) (b := b) (zeros 128) h1 h2 hx hy n1 n2) A 2 w RR.out (by decide) pages16 (by show 2 ≤ 1000000; decide))
  have CO := Lib.hid (fun w => one_any (brI op x y n) w (by show op < 256; omega) (by show -2147483648 ≤ n; omega) (by show n < 2147483648; omega))
  have NE := Lib.hid (brP_ne (op := op) (p := (brR a b).getD x 0) (q := (brR a b).getD y 0) n1 n2 n0)
  generalize pgB [(encR (brI op x y n)).1] = pg at *
  generalize zeros 128 = z at *
  unfold tkN
  generalize hPC : brP op ((brR a b).getD x 0) ((brR a b).getD y 0) n = pc at *
  generalize tkR op ((brR a b).getD x 0) ((brR a b).getD y 0) = tk at *
  clear hPC
  have w32 : wrap32 n = n := by unfold wrap32; omega
  unfold brI insE at CO
  dsimp only at CO
  clear ht hf hc ha hb h1 h2 hx hy
  have f0 := F.out.cell 0 rfl
  go_enter Tryd.func21, Tryd.ntmps21
  go_wp2_with fail
  refine (CO.out _).mono ?_
  rintro e w1 ⟨⟨gl, rfl, hgl, hgw1⟩, hb1⟩
  have G := Lib.hid hgl
  have B := Lib.hid hb1
  replace F := Lib.hid (F.out.below hb1 F.out.lt)
  replace Cc := Lib.hid (Cc.out.below hb1 Cc.out.lt)
  clear hgl hb1 f0
  go_wp2_with (first
    | (refine store_blk 29 (.tmp 10) (.tmp 23) w1.heap.size 29 (pteL (List.replicate 16 ⟨false, false, 0⟩)).toArray (pteL onePages).toArray rfl rfl rfl rfl (Blk.new w1 _ _) rfl (space_size rfl) (by decide) ?_; intro w2 hs2 hg2; have S2 := Lib.hid hs2; have C2 := Lib.hid ((Cc.out.alloc _).grown hg2 (ne_blk (by have := Cc.out.lt; omega))); clear hs2; go_frame)
    | (refine load_blk 25 (.tmp 4) gc 25 (cpuC (brR a b) 0) _ rfl rfl rfl C2.out Tryd.underlying25 rfl (cpu_size RL.out) ?_; go_frame)
    | (refine load_blk 29 (.tmp 10) w1.heap.size 29 (pteL onePages).toArray _ rfl rfl rfl S2.out Tryd.underlying29 rfl (space_size rfl) ?_; go_frame))
  have S := S2
  replace Cc := C2
  replace G := Lib.hid ((G.out.alloc _).grown hg2 (ne_blk (by have := G.out.lt; omega)))
  replace F := Lib.hid ((F.out.alloc _).grown hg2 (ne_blk (by have := F.out.lt; omega)))
  replace B := Lib.hid ((B.out.alloc B.out.size _).grown hg2 (by have := B.out.size; simp; omega) (fun k hk => by cases hk; exact B.out.size))
  clear S2 C2 hg2
  refine (PA.out _ _ G.out.two (fun e => by cases e) (HT.out.later B.out)).mono ?_
  rintro e wa3 ⟨⟨Aa, ca, rfl, hra, h0a, _⟩, hba⟩
  replace S := Lib.hid (S.out.below hba S.out.lt)
  replace G := Lib.hid (G.out.below hba G.out.lt)
  replace F := Lib.hid (F.out.below hba F.out.lt)
  replace Cc := Lib.hid (Cc.out.below hba Cc.out.lt)
  replace B := Lib.hid (B.out.trans (hba.mono B.out.size))
  clear hba
  have heq := fun w => regC_neq RL.out w
  go_wp2_with (first
    | (refine store_blk 25 (.tmp 11) (.tmp 29) wa3.heap.size 25 zC (cpuC (brR a b) pc) rfl rfl rfl rfl ((Blk.new wa3 _ _).alloc _) rfl (cpu_size RL.out) (cpuC_one _ _) ?_; intro wa4 hra4 hga4; go_frame)
    | (refine store_blk 34 (.tmp 13) (.tmp 31) (wa3.heap.size + 1) 34 zE (evC 0 0) rfl rfl rfl rfl (ev_new hga4) rfl ev_info (evC_one _ _) ?_; intro wa5 hra5 hga5; go_frame)
    | (refine load_blk 34 (.tmp 13) (wa3.heap.size + 1) 34 #[.int .i64 0, .int .u32 0] _ rfl rfl rfl hra5 Tryd.underlying34 rfl ev_info ?_; go_frame))
  have RA := Lib.hid (two_row hga4 hga5 hra)
  have RG := Lib.hid (two_row hga4 hga5 G.out.two)
  replace F := Lib.hid (two_keep hga4 hga5 F.out)
  replace Cc := Lib.hid (two_keep hga4 hga5 Cc.out)
  have Ca := Lib.hid (hra4.grown hga5 (ne_blk (by omega)))
  replace B := Lib.hid (two_below hga4 hga5 B.out)
  have CS := Lib.hid (same14_any Aa (some ⟨gl, 0, none⟩) ca 2 [pg, z] [pg, z] wa5 (by show 2 ≤ maxLen; decide) (by show 2 ≤ maxLen; decide) RA.out RG.out)
  rw [show sameN [pg, z] [pg, z] = 1 from if_pos rfl] at CS
  clear hra hra4 hga4 hra5 hga5 RA RG h0a
  refine CS.out.mono ?_
  rintro e wz ⟨rfl, hbz⟩
  replace F := Lib.hid (F.out.below hbz F.out.lt)
  replace Cc := Lib.hid (Cc.out.below hbz Cc.out.lt)
  replace Ca := Lib.hid (Ca.out.below hbz Ca.out.lt)
  replace B := Lib.hid (B.out.trans (hbz.mono B.out.size))
  clear hbz CS
  have f0 := F.out.cell 0 rfl
  have kp : wz.cell? ⟨wa3.heap.size, 16, none⟩ = some (.int .u32 (pc : Int)) := Ca.out.cell 16 (cpuC_pc RL.out)
  cases tk
  · obtain rfl := NE.out.1.2 rfl
    go_wp2_with (first
      | (refine load_regs (.tmp 42) wa3.heap.size (brR a b) 4 rfl rfl rfl Ca.out RL.out ?_; go_frame)
      | (refine load_regs (.tmp 44) gc (brR a b) 0 rfl rfl rfl Cc.out RL.out ?_; go_frame))
    go_ret
    exact ⟨rfl, B.out⟩
  · have p4 : ((pc : Int) == 4) = false := by
      have := NE.out.1
      simp at this ⊢
      omega
    have pe : ((pc : Int) == (4 + 4 * (n % 4294967296) % 4294967296) % 4294967296) = true := by
      have := NE.out.2 rfl
      simp only [beq_iff_eq]
      exact this
    clear NE
    go_wp2_with (first
      | (refine load_regs (.tmp 42) wa3.heap.size (brR a b) pc rfl rfl rfl Ca.out RL.out ?_; go_frame)
      | (refine load_regs (.tmp 44) gc (brR a b) 0 rfl rfl rfl Cc.out RL.out ?_; go_frame))
    go_ret
    exact ⟨rfl, B.out⟩
set_option maxHeartbeats 4000000 in
theorem law_branches (a b : Nat) (n : Int) (w : World) (ht : Tab5 w) (ha : a < 4294967296) (hb : b < 4294967296) (n1 : -32768 ≤ n) (n2 : n ≤ 32767) : Calls Tryd.prog 9 #[.int .u32 a, .int .u32 b, .int .i16 n] w fun e w' => e = .returned (.bool true) ∧ Below w.heap.size w w' := by
  have HT := Lib.hid ht
  have HA := Lib.hid ha
  have HB := Lib.hid hb
  have LW := Lib.hid (br_law a b ha hb)
  have F0 : Hid (Blk (w.alloc (.cells #[.int .i16 n] 56)) w.heap.size 56 #[.int .i16 n]) := Blk.new w _ _
  have B0 : Hid (Below w.heap.size w (w.alloc (.cells #[.int .i16 n] 56))) := (Below.refl _ _).alloc (Nat.le_refl _) _
  clear ht ha hb
  go_enter Tryd.func9, Tryd.ntmps9
  go_wp2_with fail
  refine (alive14_any _ (HT.out.later B0.out)).mono ?_
  rintro e w0 ⟨rfl, hb0⟩
  have B := Lib.hid (B0.out.trans (hb0.mono B0.out.size))
  have F := Lib.hid (F0.out.below hb0 F0.out.lt)
  clear hb0 F0 B0
  have f0 := F.out.cell 0 rfl
  by_cases n0 : n = 0
  · subst n0
    go_wp2
    go_ret
    exact ⟨rfl, B.out⟩
  have t0 : (n == 0) = false := by simpa using n0
  have TK := Lib.hid (fun op x y gf gc w ht h1 h2 hx hy hf hc => taken14_any op x y a b gf gc n w ht h1 h2 hx hy n1 n2 n0 HA.out HB.out hf hc)
  go_wp2_with (first
    | (refine store_blk 25 (.tmp 7) (.tmp 17) w0.heap.size 25 zC (cpuC (brR a b) 0) rfl rfl rfl rfl (Blk.new w0 _ _) rfl (cpu_size rfl) (cpuC_one _ _) ?_; intro w1 hr1 hg1; go_frame))
  replace F := Lib.hid ((F.out.alloc _).grown hg1 (ne_blk (by have := F.out.lt; omega)))
  have Cc := Lib.hid hr1
  replace B := Lib.hid ((B.out.alloc B.out.size _).grown hg1 (by have := B.out.size; simp; omega) (fun k hk => by cases hk; exact B.out.size))
  clear hr1 hg1 f0
  refine (TK.out 25 1 2 _ _ _ (HT.out.later B.out) (by decide) (by decide) (by decide) (by decide) F.out Cc.out).mono ?_
  rintro e w2 ⟨rfl, hb2⟩
  replace F := Lib.hid (F.out.below hb2 F.out.lt)
  replace Cc := Lib.hid (Cc.out.below hb2 Cc.out.lt)
  replace B := Lib.hid (B.out.trans (hb2.mono B.out.size))
  clear hb2
  have T2 : Hid (Tab5 w2) := HT.out.later B.out
  have C1 : Hid (∀ u : Ext w2, Calls Tryd.prog 21 #[.int .u8 26, .int .u8 1, .int .u8 2, .pointer (some ⟨w.heap.size, 0, none⟩), .pointer (some ⟨w0.heap.size, 0, none⟩)] u.val fun e w' => e = .returned (.int .i64 (tkN 26 a b)) ∧ Below u.val.heap.size u.val w') := fun u => TK.out 26 1 2 _ _ _ (T2.out.later u.below) (by decide) (by decide) (by decide) (by decide) (F.out.below u.below F.out.lt) (Cc.out.below u.below Cc.out.lt)
  have C2 : Hid (∀ u : Ext w2, Calls Tryd.prog 21 #[.int .u8 27, .int .u8 1, .int .u8 2, .pointer (some ⟨w.heap.size, 0, none⟩), .pointer (some ⟨w0.heap.size, 0, none⟩)] u.val fun e w' => e = .returned (.int .i64 (tkN 27 a b)) ∧ Below u.val.heap.size u.val w') := fun u => TK.out 27 1 2 _ _ _ (T2.out.later u.below) (by decide) (by decide) (by decide) (by decide) (F.out.below u.below F.out.lt) (Cc.out.below u.below Cc.out.lt)
  have C3 : Hid (∀ u : Ext w2, Calls Tryd.prog 21 #[.int .u8 27, .int .u8 2, .int .u8 1, .pointer (some ⟨w.heap.size, 0, none⟩), .pointer (some ⟨w0.heap.size, 0, none⟩)] u.val fun e w' => e = .returned (.int .i64 (tkN 27 b a)) ∧ Below u.val.heap.size u.val w') := fun u => TK.out 27 2 1 _ _ _ (T2.out.later u.below) (by decide) (by decide) (by decide) (by decide) (F.out.below u.below F.out.lt) (Cc.out.below u.below Cc.out.lt)
  have C4 : Hid (∀ u : Ext w2, Calls Tryd.prog 21 #[.int .u8 28, .int .u8 1, .int .u8 2, .pointer (some ⟨w.heap.size, 0, none⟩), .pointer (some ⟨w0.heap.size, 0, none⟩)] u.val fun e w' => e = .returned (.int .i64 (tkN 28 a b)) ∧ Below u.val.heap.size u.val w') := fun u => TK.out 28 1 2 _ _ _ (T2.out.later u.below) (by decide) (by decide) (by decide) (by decide) (F.out.below u.below F.out.lt) (Cc.out.below u.below Cc.out.lt)
  have C5 : Hid (∀ u : Ext w2, Calls Tryd.prog 21 #[.int .u8 28, .int .u8 2, .int .u8 1, .pointer (some ⟨w.heap.size, 0, none⟩), .pointer (some ⟨w0.heap.size, 0, none⟩)] u.val fun e w' => e = .returned (.int .i64 (tkN 28 b a)) ∧ Below u.val.heap.size u.val w') := fun u => TK.out 28 2 1 _ _ _ (T2.out.later u.below) (by decide) (by decide) (by decide) (by decide) (F.out.below u.below F.out.lt) (Cc.out.below u.below Cc.out.lt)
  have e25 : (brR a b).getD 1 0 = a := rfl
  have e25' : (brR a b).getD 2 0 = b := rfl
  rw [e25, e25']
  have s25 : ∀ op a b, 0 ≤ tkN op a b ∧ tkN op a b ≤ 1 := fun op a b => by unfold tkN; split <;> decide
  have b1 := s25 25 a b
  have b2 := s25 26 a b
  have b3 := s25 27 a b
  have b4 := s25 27 b a
  have b5 := s25 28 a b
  have b6 := s25 28 b a
  clear s25
  obtain ⟨m1, m2, m3, m4⟩ := LW.out
  generalize tkN 25 a b = x1 at *
  generalize tkN 26 a b = x2 at *
  generalize tkN 27 a b = x3 at *
  generalize tkN 27 b a = x4 at *
  generalize tkN 28 a b = x5 at *
  generalize tkN 28 b a = x6 at *
  have z1 : wrap64 (x1 + x2) = 1 := by unfold wrap64; omega
  have z2 : wrap64 (x1 + x3) = x1 + x3 := by unfold wrap64; omega
  have z3 : wrap64 (x1 + x5) = x1 + x5 := by unfold wrap64; omega
  have z5 : wrap64 (x1 + x3 + x4) = 1 := by unfold wrap64; omega
  have z6 : wrap64 (x1 + x5 + x6) = 1 := by unfold wrap64; omega
  have z4 : ((x1 == 1) == ((a : Int) == (b : Int))) = true := by
    by_cases h : a = b
    · simp [h, m4.2 h]
    · have : ¬ x1 = 1 := fun e => h (m4.1 e)
      rw [show (x1 == 1) = false by simpa using this, show ((a : Int) == (b : Int)) = false by simp; omega]
      rfl
  have M := Lib.hid (And.intro m1 (And.intro m2 m3))
  clear m1 m2 m3 m4 LW e25 e25' b1 b2 b3 b4 b5 b6
  have BX : Hid (Below w2.heap.size w2 w2) := Below.refl _ _
  go_wp2_with fail
  refine (C1.out ⟨_, BX.out⟩).mono ?_
  rintro e v1 ⟨rfl, hb1⟩
  replace BX := Lib.hid (BX.out.trans (hb1.mono BX.out.size))
  clear hb1
  go_wp2_with fail
  refine (C2.out ⟨_, BX.out⟩).mono ?_
  rintro e v2 ⟨rfl, hb2⟩
  replace BX := Lib.hid (BX.out.trans (hb2.mono BX.out.size))
  clear hb2
  go_wp2_with fail
  refine (C3.out ⟨_, BX.out⟩).mono ?_
  rintro e v3 ⟨rfl, hb3⟩
  replace BX := Lib.hid (BX.out.trans (hb3.mono BX.out.size))
  clear hb3
  go_wp2_with fail
  refine (C4.out ⟨_, BX.out⟩).mono ?_
  rintro e v4 ⟨rfl, hb4⟩
  replace BX := Lib.hid (BX.out.trans (hb4.mono BX.out.size))
  clear hb4
  go_wp2_with fail
  refine (C5.out ⟨_, BX.out⟩).mono ?_
  rintro e v5 ⟨rfl, hb5⟩
  replace BX := Lib.hid (BX.out.trans (hb5.mono BX.out.size))
  clear hb5
  go_wp2
  go_ret
  exact ⟨rfl, B.out.trans (BX.out.mono B.out.size)⟩
end Go.Proofs.YtcjakmnplkeldaaDoor
