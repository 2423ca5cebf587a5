/-
  CpuSteps: the walk.
-/
import Derived.Test.YtcjakmnplkeldaaDoorCpuOps
import Derived.Test.YtcjakmnplkeldaaDoorRefStep
import Derived.Test.YtcjakmnplkeldaaDoorLittlePlain
namespace Go.Proofs.YtcjakmnplkeldaaDoor
open Go.RowKit
set_option linter.unusedVariables false
set_option linter.unusedSimpArgs false
set_option maxRecDepth 100000
theorem stepS_len {R : List Nat} {pc : Nat} {l : List Pte} {xs : List ByteArray} (hR : R.length = 16) : (stepR R pc l xs).R.length = 16 := by
  rcases (step_is R pc l xs).out with ⟨_, h, _⟩ | ⟨_, a, v, h, _⟩ <;> rw [h] <;> simp [hR]
theorem storeR_len {xs ys : List ByteArray} {l : List Pte} {t sz u : Nat} (h : storeR xs l t sz u = some ys) : ys.length = xs.length := by
  unfold storeR at h
  split at h
  · split at h
    · injection h with h
      rw [← h, List.length_set]
    · cases h
  · cases h
theorem stepS_xs {R : List Nat} {pc : Nat} {l : List Pte} {xs : List ByteArray} : (stepR R pc l xs).xs.length = xs.length := by
  rcases (step_is R pc l xs).out with ⟨_, _, _, h⟩ | ⟨_, a, v, _, h | ⟨_, t, sz, u, h, _⟩⟩
  · rw [h]
  · rw [h]
  · exact storeR_len h
theorem rstep_out {R : List Nat} {pc : Nat} {l : List Pte} {xs : List ByteArray} {o : StepO} (ho : stepR R pc l xs = o) (A : Option Addr) (c : Nat) (w : World) (hR : Regs R) (hp : pc < 4294967296) (hl : l.length = 16) (hx : xs.length ≤ 1000000) (h : RowAt w w.heap.size A (xs.map .string)) (h0 : A = none → xs.length = 0 ∧ c = 0) :
    Calls Tryd.prog 14 #[.agg (cpuC R pc), .agg (pteL l).toArray, .slice A xs.length c] w fun e w' => (∃ A' c', e = .returned (.tuple #[.agg (cpuC o.R o.pc), .slice A' o.xs.length c', .agg (evC o.kind o.n)]) ∧ RowAt w' w'.heap.size A' (o.xs.map .string) ∧ Hid (A' = none → o.xs.length = 0 ∧ c' = 0)) ∧ Below w.heap.size w w' :=
  (rstep_any R pc l A c xs w hR hp hl hx h h0).mono fun e w' hq => by
    rw [ho] at hq
    obtain ⟨A', c', he, h1, h2, hb⟩ := hq
    exact ⟨⟨A', c', he, h1, h2⟩, hb⟩
set_option maxHeartbeats 4000000 in
theorem law_steps (R : List Nat) (pc : Nat) (l : List Pte) (A : Option Addr) (c : Nat) (xs : List ByteArray) (w : World) (ht : Tab5 w) (hR : Regs R) (hp : pc < 4294967296) (hl : l.length = 16) (hx : xs.length ≤ maxLen) (hs : ∀ s ∈ xs, s.size ≤ 9223372036854775807)
    (h : RowAt w w.heap.size A (xs.map .string)) (h0 : A = none → xs.length = 0 ∧ c = 0) :
    Calls Tryd.prog 3 #[.agg (cpuC R pc), .agg (pteL l).toArray, .slice A xs.length c] w fun e w' => e = .returned (.bool true) ∧ Below w.heap.size w w' := by
  have HT := Lib.hid ht
  have HR := Lib.hid hR
  have HL := Lib.hid hl
  have HX := Lib.hid hx
  have HS := Lib.hid hs
  have HA := Lib.hid h
  have H0 := Lib.hid h0
  clear ht hR hl hx hs h h0
  have C0 : Hid (Blk ((w.alloc (.cells (cpuC R pc) 25)).alloc (.cells (pteL l).toArray 29)) w.heap.size 25 (cpuC R pc)) := (Blk.new w _ _).alloc _
  have S0 : Hid (Blk ((w.alloc (.cells (cpuC R pc) 25)).alloc (.cells (pteL l).toArray 29)) (w.heap.size + 1) 29 (pteL l).toArray) := by
    have := Blk.new (w.alloc (.cells (cpuC R pc) 25)) 29 (pteL l).toArray
    rwa [World.size_alloc] at this
  have B0 : Hid (Below w.heap.size w ((w.alloc (.cells (cpuC R pc) 25)).alloc (.cells (pteL l).toArray 29))) := ((Below.refl _ _).alloc (Nat.le_refl _) _).alloc (by simp) _
  go_enter Tryd.func3, Tryd.ntmps3
  go_wp2_with fail
  refine (alive14_any _ (HT.out.later B0.out)).mono ?_
  rintro e w0 ⟨rfl, hb⟩
  have Cc := Lib.hid (C0.out.below hb C0.out.lt)
  have S := Lib.hid (S0.out.below hb S0.out.lt)
  have B := Lib.hid (B0.out.trans (hb.mono B0.out.size))
  clear hb C0 S0 B0
  have RA := Lib.hid ((HA.out.below B.out).mono B.out.size)
  go_wp2_with fail
  refine (great14_any A c xs w0 HX.out HS.out RA.out).mono ?_
  rintro e w' ⟨he, rfl⟩
  rcases he with rfl | ⟨rfl, hsm⟩
  · go_wp2
    go_ret
    exact ⟨rfl, B.out⟩
  have x16 : xs.length ≤ 16 := hsm.1
  clear hsm
  have PA := Lib.hid (fun w => step_out (rfl : stepR R pc l xs = stepR R pc l xs) A c w HR.out hp HL.out (by omega))
  have PB := Lib.hid (fun w => rstep_out (rfl : stepR R pc l xs = stepR R pc l xs) A c w HR.out hp HL.out (by omega))
  have RO := Lib.hid (stepS_len (pc := pc) (l := l) (xs := xs) HR.out.1)
  have XL := Lib.hid (stepS_xs (R := R) (pc := pc) (l := l) (xs := xs))
  generalize stepR R pc l xs = o at *
  obtain ⟨Q, qc, ys, kd, nn⟩ := o
  try dsimp only at PA PB RO XL
  go_wp2_with (first
    | (refine load_blk 25 (.tmp 3) w.heap.size 25 (cpuC R pc) _ rfl rfl rfl Cc.out Tryd.underlying25 rfl (cpu_size HR.out.1) ?_; go_frame)
    | (refine load_blk 29 (.tmp 4) (w.heap.size + 1) 29 (pteL l).toArray _ rfl rfl rfl S.out Tryd.underlying29 rfl (space_size HL.out) ?_; go_frame))
  refine (PA.out _ RA.out H0.out (HT.out.later B.out)).mono ?_
  rintro e wa ⟨⟨Aa, ca, rfl, hra, h0a, _⟩, hba⟩
  try dsimp only at hra h0a
  have RM := Lib.hid hra
  replace Cc := Lib.hid (Cc.out.below hba Cc.out.lt)
  replace S := Lib.hid (S.out.below hba S.out.lt)
  replace RA := Lib.hid ((RA.out.below hba).mono hba.size)
  replace B := Lib.hid (B.out.trans (hba.mono B.out.size))
  clear hba hra h0a
  go_wp2_with (first
    | (refine store_blk 25 (.tmp 7) (.tmp 22) wa.heap.size 25 zC (cpuC Q qc) rfl rfl rfl rfl ((Blk.new wa _ _).alloc _) (by rw [cpuC_size, RO.out]; rfl) (cpu_size RO.out) (cpuC_one _ _) ?_; intro wa4 hra4 hga4; go_frame)
    | (refine store_blk 34 (.tmp 9) (.tmp 24) (wa.heap.size + 1) 34 zE (evC kd nn) rfl rfl rfl rfl (ev_new hga4) rfl ev_info (evC_one _ _) ?_; intro wa5 hra5 hga5; go_frame)
    | (refine load_blk 25 (.tmp 3) w.heap.size 25 (cpuC R pc) _ rfl rfl rfl (two_keep hga4 hga5 Cc.out) Tryd.underlying25 rfl (cpu_size HR.out.1) ?_; go_frame)
    | (refine load_blk 29 (.tmp 4) (w.heap.size + 1) 29 (pteL l).toArray _ rfl rfl rfl (two_keep hga4 hga5 S.out) Tryd.underlying29 rfl (space_size HL.out) ?_; go_frame))
  replace RM := Lib.hid (two_row hga4 hga5 RM.out)
  replace RA := Lib.hid (two_row hga4 hga5 RA.out)
  have Ca := Lib.hid (hra4.grown hga5 (ne_blk (by omega)))
  have Ea := Lib.hid hra5
  replace B := Lib.hid (two_below hga4 hga5 B.out)
  clear hra4 hga4 hra5 hga5 Cc S
  refine (PB.out _ RA.out H0.out).mono ?_
  rintro e wb ⟨⟨Ab, cb, rfl, hrb, h0b⟩, hbb⟩
  try dsimp only at hrb h0b
  have RN := Lib.hid hrb
  replace Ca := Lib.hid (Ca.out.below hbb Ca.out.lt)
  replace Ea := Lib.hid (Ea.out.below hbb Ea.out.lt)
  replace RM := Lib.hid ((RM.out.below hbb).mono hbb.size)
  replace B := Lib.hid (B.out.trans (hbb.mono B.out.size))
  clear hbb hrb h0b RA
  have heq := fun w => cpuC_eql (pc := qc) RO.out w
  go_wp2_with (first
    | (refine store_blk 25 (.tmp 10) (.tmp 30) wb.heap.size 25 zC (cpuC Q qc) rfl rfl rfl rfl ((Blk.new wb _ _).alloc _) (by rw [cpuC_size, RO.out]; rfl) (cpu_size RO.out) (cpuC_one _ _) ?_; intro wb4 hrb4 hgb4; go_frame)
    | (refine store_blk 34 (.tmp 12) (.tmp 32) (wb.heap.size + 1) 34 zE (evC kd nn) rfl rfl rfl rfl (ev_new hgb4) rfl ev_info (evC_one _ _) ?_; intro wb5 hrb5 hgb5; have ke0 : wb5.cell? ⟨wa.heap.size + 1, 0, none⟩ = some (.int .i64 _) := Blk.cell (two_keep hgb4 hgb5 Ea.out) 0 rfl; have ke1 : wb5.cell? ⟨wa.heap.size + 1, 1, none⟩ = some (.int .u32 _) := Blk.cell (two_keep hgb4 hgb5 Ea.out) 1 rfl; have kf0 : wb5.cell? ⟨wb.heap.size + 1, 0, none⟩ = some (.int .i64 _) := Blk.cell hrb5 0 rfl; have kf1 : wb5.cell? ⟨wb.heap.size + 1, 1, none⟩ = some (.int .u32 _) := Blk.cell hrb5 1 rfl; go_frame)
    | (refine load_blk 25 (.tmp 7) wa.heap.size 25 (cpuC Q qc) _ rfl rfl rfl (two_keep hgb4 hgb5 Ca.out) Tryd.underlying25 rfl (cpu_size RO.out) ?_; go_frame)
    | (refine load_blk 25 (.tmp 10) wb.heap.size 25 (cpuC Q qc) _ rfl rfl rfl (hrb4.grown hgb5 (ne_blk (by omega))) Tryd.underlying25 rfl (cpu_size RO.out) ?_; go_frame))
  have yl : ys.length ≤ maxLen := by rw [XL.out]; exact HX.out
  have CS := Lib.hid (same14_any Aa Ab ca cb ys ys wb5 yl yl (two_row hgb4 hgb5 RM.out) (two_row hgb4 hgb5 RN.out))
  replace B := Lib.hid (two_below hgb4 hgb5 B.out)
  clear hrb4 hgb4 hrb5 hgb5 ke0 ke1 kf0 kf1 heq
  rw [show sameN ys ys = 1 from if_pos rfl] at CS
  refine CS.out.mono ?_
  rintro e wz ⟨rfl, hbz⟩
  replace B := Lib.hid (B.out.trans (hbz.mono B.out.size))
  clear hbz
  go_wp2
  go_ret
  exact ⟨rfl, B.out⟩
end Go.Proofs.YtcjakmnplkeldaaDoor
