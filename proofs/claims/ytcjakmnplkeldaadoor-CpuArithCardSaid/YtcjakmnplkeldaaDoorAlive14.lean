/-
  What hibernaclelaw14.alive tells.
-/
import Derived.Test.YtcjakmnplkeldaaDoorOne
import Derived.Test.YtcjakmnplkeldaaDoorCpuStep
namespace Go.Proofs.YtcjakmnplkeldaaDoor
open Go.RowKit
set_option linter.unusedVariables false
set_option linter.unusedSimpArgs false
set_option maxRecDepth 100000
theorem alive_s1 : stepR (List.replicate 16 0) 0 onePages [pgB [(encR ⟨14, 1, 0, 0, -1⟩).1], zeros 128] = ⟨0 :: 4294967295 :: List.replicate 14 0, 4, [pgB [(encR ⟨14, 1, 0, 0, -1⟩).1], zeros 128], 0, 0⟩ := by kernel_rfl
theorem alive_s2 : stepR (List.replicate 16 0) 0 onePages [pgB [(encR ⟨4, 1, 2, 0, 0⟩).1], zeros 128] = ⟨0 :: 4294967295 :: List.replicate 14 0, 4, [pgB [(encR ⟨4, 1, 2, 0, 0⟩).1], zeros 128], 0, 0⟩ := by kernel_rfl
theorem alive_s3 : stepR (List.replicate 16 0) 2 onePages [pgB [(encR ⟨4, 1, 2, 0, 0⟩).1], zeros 128] = ⟨List.replicate 16 0, 2, [pgB [(encR ⟨4, 1, 2, 0, 0⟩).1], zeros 128], 2, 2⟩ := by kernel_rfl
theorem zregs : Regs (List.replicate 16 0) := ⟨rfl, fun r hr => by rw [List.eq_of_mem_replicate hr]; decide⟩
theorem pages16 : onePages.length = 16 := rfl
/-- a row of a block of strings -/
theorem Blk.two {w : World} {g : Nat} {s t : ByteArray} (h : Blk w g 9 #[.string s, .string t]) : RowAt w w.heap.size (some ⟨g, 0, none⟩) ([s, t].map .string) := Blk.row h
/-- one step, as it is used: the values spelled out -/
theorem step_out {R : List Nat} {pc : Nat} {l : List Pte} {xs : List ByteArray} {o : StepO} (ho : stepR R pc l xs = o) (A : Option Addr) (c : Nat) (w : World) (hR : Regs R) (hp : pc < 4294967296) (hl : l.length = 16) (hx : xs.length ≤ 1000000) (h : RowAt w w.heap.size A (xs.map .string)) (h0 : A = none → xs.length = 0 ∧ c = 0) (ht : Tab5 w) :
    Calls Tryd.prog 13 #[.agg (cpuC R pc), .agg (pteL l).toArray, .slice A xs.length c] w fun e w' => (∃ A' c', e = .returned (.tuple #[.agg (cpuC o.R o.pc), .slice A' o.xs.length c', .agg (evC o.kind o.n)]) ∧ RowAt w' w'.heap.size A' (o.xs.map .string) ∧ (A' = none → o.xs.length = 0 ∧ c' = 0) ∧ w'.ownsRow w.heap.size 9 1 (.slice A' o.xs.length c') o.xs.length (o.xs.map .string)) ∧ Below w.heap.size w w' :=
  (step_any R pc l A c xs w hR hp hl hx h h0 ht).mono fun e w' hq => by
    rw [ho] at hq
    obtain ⟨v, he, hown, hb⟩ := hq
    obtain ⟨A', c', rfl, hr, h0'⟩ := own_read hown
    exact ⟨⟨A', c', he, hr, h0', hown⟩, hb⟩
theorem blk_ne {w : World} {g g' : Nat} {t t' : TypeId} {cs cs' : Array Value} (h : Blk w g t cs) (h' : Blk w g' t' cs') (hne : t ≠ t') : g ≠ g' := fun e => by
  subst e
  unfold Blk at h h'
  rw [h] at h'
  injection h' with h'
  injection h' with _ h3
  exact hne h3
/-- two blocks laid behind a world, then stored into -/
theorem ev_new {w w' : World} {oc : Obj} {cs : Array Value} (hg : ((w.alloc oc).alloc (.cells cs 34)).grownBy w' (some w.heap.size)) : Blk w' (w.heap.size + 1) 34 cs := by
  have := Blk.new (w.alloc oc) 34 cs
  rw [World.size_alloc] at this
  exact this.grown hg (ne_blk (by omega))
theorem two_keep {w w4 w5 : World} {o1 o2 : Obj} (hg4 : ((w.alloc o1).alloc o2).grownBy w4 (some w.heap.size)) (hg5 : w4.grownBy w5 (some (w.heap.size + 1))) {g : Nat} {t : TypeId} {cs : Array Value} (h : Blk w g t cs) : Blk w5 g t cs :=
  (((h.alloc _).alloc _).grown hg4 (ne_blk (by have := h.lt; omega))).grown hg5 (ne_blk (by have := h.lt; omega))
theorem two_below {b w w4 w5 : World} {o1 o2 : Obj} (hg4 : ((w.alloc o1).alloc o2).grownBy w4 (some w.heap.size)) (hg5 : w4.grownBy w5 (some (w.heap.size + 1))) (h : Below b.heap.size b w) : Below b.heap.size b w5 := by
  have h2 := (h.alloc h.size o1).alloc (by have := h.size; simp; omega) o2
  have h3 := h2.grown hg4 h2.size (fun k hk => by cases hk; exact h.size)
  exact h3.grown hg5 h3.size (fun k hk => by cases hk; have := h.size; omega)
set_option maxHeartbeats 4000000 in
theorem alive14_any (w : World) (ht : Tab5 w) : Calls Tryd.prog 11 #[] w fun e w' => e = .returned (.bool true) ∧ Below w.heap.size w w' := by
  have HT := Lib.hid ht
  clear ht
  have CO1 := Lib.hid (fun w => one_any ⟨14, 1, 0, 0, -1⟩ w (by decide) (by decide) (by decide))
  have CO2 := Lib.hid (fun w => one_any ⟨4, 1, 2, 0, 0⟩ w (by decide) (by decide) (by decide))
  have P1 := Lib.hid (fun A w => step_out alive_s1 A 2 w zregs (by decide) pages16 (by decide))
  have P2 := Lib.hid (fun A w => step_out alive_s2 A 2 w zregs (by decide) pages16 (by decide))
  have P3 := Lib.hid (fun A w => step_out alive_s3 A 2 w zregs (by decide) pages16 (by decide))
  generalize pgB [(encR ⟨14, 1, 0, 0, -1⟩).1] = b1 at *
  generalize pgB [(encR ⟨4, 1, 2, 0, 0⟩).1] = b2 at *
  generalize zeros 128 = z at *
  go_enter Tryd.func11, Tryd.ntmps11
  go_wp2_with fail
  refine (CO1.out _).mono ?_
  rintro e w1 ⟨⟨g1, rfl, hg1, hgw1⟩, hb1⟩
  have G1 := Lib.hid hg1
  have B := Lib.hid hb1
  have B1s := hb1.size
  clear hg1 hb1
  go_wp2_with (first
    | (refine store_blk 29 (.tmp 2) (.tmp 16) w1.heap.size 29 (pteL (List.replicate 16 ⟨false, false, 0⟩)).toArray (pteL onePages).toArray rfl rfl rfl rfl (Blk.new w1 _ _) rfl (space_size rfl) (by decide) ?_; intro w2 hs2 hg2; have S2 := Lib.hid hs2; have G2 := Lib.hid ((G1.out.alloc _).grown hg2 (ne_blk (by have := G1.out.lt; omega))); have B2 := Lib.hid ((B.out.alloc B.out.size _).grown hg2 (by have := B.out.size; simp; omega) (fun k hk => by cases hk; exact B.out.size)); clear hs2 hg2; go_frame)
    | (refine load_blk 29 (.tmp 2) w1.heap.size 29 (pteL onePages).toArray _ rfl rfl rfl S2.out Tryd.underlying29 rfl (space_size rfl) ?_; go_frame))
  have S := S2
  have G := G2
  replace B := B2
  clear S2 G2 G1 B2
  refine (P1.out _ _ G.out.two (fun e => by cases e) (HT.out.later B.out)).mono ?_
  rintro e wa3 ⟨⟨Aa, ca, rfl, _, _, _⟩, hba⟩
  replace S := Lib.hid (S.out.below hba S.out.lt)
  replace G := Lib.hid (G.out.below hba G.out.lt)
  replace B := Lib.hid (B.out.trans (hba.mono B.out.size))
  clear hba
  go_wp2_with (first
    | (refine store_blk 25 (.tmp 3) (.tmp 22) wa3.heap.size 25 zC (cpuC (0 :: 4294967295 :: List.replicate 14 0) 4) rfl rfl rfl rfl ((Blk.new wa3 _ _).alloc _) rfl (cpu_size rfl) (cpuC_one _ _) ?_; intro wa4 hra4 hga4; go_frame)
    | (refine store_blk 34 (.tmp 5) (.tmp 24) (wa3.heap.size + 1) 34 zE (evC 0 0) rfl rfl rfl rfl (ev_new hga4) rfl ev_info (evC_one _ _) ?_; intro wa5 hra5 hga5; go_frame))
  replace S := Lib.hid (two_keep hga4 hga5 S.out)
  replace G := Lib.hid (two_keep hga4 hga5 G.out)
  have Ca := Lib.hid (hra4.grown hga5 (ne_blk (by omega)))
  have Ea := Lib.hid hra5
  replace B := Lib.hid (two_below hga4 hga5 B.out)
  clear hra4 hga4 hra5 hga5
  have S0lt := S.out.lt
  refine (CO2.out _).mono ?_
  rintro e w6 ⟨⟨g6, rfl, hg6, hgw6⟩, hb6⟩
  replace S := Lib.hid (S.out.below hb6 S.out.lt)
  replace G := Lib.hid (G.out.below hb6 G.out.lt)
  replace Ca := Lib.hid (Ca.out.below hb6 Ca.out.lt)
  replace Ea := Lib.hid (Ea.out.below hb6 Ea.out.lt)
  replace B := Lib.hid (B.out.trans (hb6.mono B.out.size))
  replace G := Lib.hid hg6
  have hga : w1.heap.size ≠ g6 := by have := hgw6; have := S0lt; omega
  clear hg6 hb6
  go_wp2_with (first
    | (refine store_blk 29 (.tmp 2) (.tmp 29) w1.heap.size 29 (pteL onePages).toArray (pteL onePages).toArray rfl rfl rfl rfl S.out rfl (space_size rfl) (by decide) ?_; intro w7 hs7 hg7; have S7 := Lib.hid hs7; go_frame)
    | (refine load_blk 29 (.tmp 2) w1.heap.size 29 (pteL onePages).toArray _ rfl rfl rfl S7.out Tryd.underlying29 rfl (space_size rfl) ?_; go_frame))
  replace G := Lib.hid (G.out.grown hg7 (ne_blk (blk_ne G.out S.out (by decide))))
  replace Ca := Lib.hid (Ca.out.grown hg7 (ne_blk (blk_ne Ca.out S.out (by decide))))
  replace Ea := Lib.hid (Ea.out.grown hg7 (ne_blk (blk_ne Ea.out S.out (by decide))))
  replace B := Lib.hid (B.out.grown hg7 B.out.size (fun k hk => by cases hk; have := B1s; omega))
  replace S := S7
  clear S7 hs7 hg7 hga
  refine (P2.out _ _ G.out.two (fun e => by cases e) (HT.out.later B.out)).mono ?_
  rintro e wb3 ⟨⟨Ab, cb, rfl, _, _, _⟩, hbb⟩
  replace S := Lib.hid (S.out.below hbb S.out.lt)
  replace G := Lib.hid (G.out.below hbb G.out.lt)
  replace Ca := Lib.hid (Ca.out.below hbb Ca.out.lt)
  replace Ea := Lib.hid (Ea.out.below hbb Ea.out.lt)
  replace B := Lib.hid (B.out.trans (hbb.mono B.out.size))
  clear hbb
  go_wp2_with (first
    | (refine store_blk 25 (.tmp 6) (.tmp 35) wb3.heap.size 25 zC (cpuC (0 :: 4294967295 :: List.replicate 14 0) 4) rfl rfl rfl rfl ((Blk.new wb3 _ _).alloc _) rfl (cpu_size rfl) (cpuC_one _ _) ?_; intro wb4 hrb4 hgb4; go_frame)
    | (refine store_blk 34 (.tmp 8) (.tmp 37) (wb3.heap.size + 1) 34 zE (evC 0 0) rfl rfl rfl rfl (ev_new hgb4) rfl ev_info (evC_one _ _) ?_; intro wb5 hrb5 hgb5; go_frame)
    | (refine load_blk 29 (.tmp 2) w1.heap.size 29 (pteL onePages).toArray _ rfl rfl rfl (two_keep hgb4 hgb5 S.out) Tryd.underlying29 rfl (space_size rfl) ?_; go_frame))
  replace S := Lib.hid (two_keep hgb4 hgb5 S.out)
  replace G := Lib.hid (two_keep hgb4 hgb5 G.out)
  replace Ca := Lib.hid (two_keep hgb4 hgb5 Ca.out)
  replace Ea := Lib.hid (two_keep hgb4 hgb5 Ea.out)
  have Cb := Lib.hid (hrb4.grown hgb5 (ne_blk (by omega)))
  have Eb := Lib.hid hrb5
  replace B := Lib.hid (two_below hgb4 hgb5 B.out)
  clear hrb4 hgb4 hrb5 hgb5
  refine (P3.out _ _ G.out.two (fun e => by cases e) (HT.out.later B.out)).mono ?_
  rintro e wc3 ⟨⟨Ac, cc, rfl, _, _, _⟩, hbc⟩
  replace S := Lib.hid (S.out.below hbc S.out.lt)
  replace G := Lib.hid (G.out.below hbc G.out.lt)
  replace Ca := Lib.hid (Ca.out.below hbc Ca.out.lt)
  replace Ea := Lib.hid (Ea.out.below hbc Ea.out.lt)
  replace Cb := Lib.hid (Cb.out.below hbc Cb.out.lt)
  replace Eb := Lib.hid (Eb.out.below hbc Eb.out.lt)
  replace B := Lib.hid (B.out.trans (hbc.mono B.out.size))
  clear hbc
  go_wp2_with (first
    | (refine store_blk 25 (.tmp 9) (.tmp 43) wc3.heap.size 25 zC (cpuC (List.replicate 16 0) 2) rfl rfl rfl rfl ((Blk.new wc3 _ _).alloc _) rfl (cpu_size rfl) (cpuC_one _ _) ?_; intro wc4 hrc4 hgc4; go_frame)
    | (refine store_blk 34 (.tmp 11) (.tmp 45) (wc3.heap.size + 1) 34 zE (evC 2 2) rfl rfl rfl rfl (ev_new hgc4) rfl ev_info (evC_one _ _) ?_; intro wc5 hrc5 hgc5; have k1 : wc5.cell? ⟨wa3.heap.size, 1, none⟩ = some (.int .u32 4294967295) := (two_keep hgc4 hgc5 Ca.out).cell 1 rfl; have k2 : wc5.cell? ⟨wa3.heap.size, 16, none⟩ = some (.int .u32 4) := (two_keep hgc4 hgc5 Ca.out).cell 16 rfl; have k3 : wc5.cell? ⟨wb3.heap.size, 1, none⟩ = some (.int .u32 4294967295) := (two_keep hgc4 hgc5 Cb.out).cell 1 rfl; have ke0 : wc5.cell? ⟨wa3.heap.size + 1, 0, none⟩ = some (.int .i64 0) := Blk.cell (two_keep hgc4 hgc5 Ea.out) 0 rfl; have ke1 : wc5.cell? ⟨wa3.heap.size + 1, 1, none⟩ = some (.int .u32 0) := Blk.cell (two_keep hgc4 hgc5 Ea.out) 1 rfl; have kf0 : wc5.cell? ⟨wb3.heap.size + 1, 0, none⟩ = some (.int .i64 0) := Blk.cell (two_keep hgc4 hgc5 Eb.out) 0 rfl; have kf1 : wc5.cell? ⟨wb3.heap.size + 1, 1, none⟩ = some (.int .u32 0) := Blk.cell (two_keep hgc4 hgc5 Eb.out) 1 rfl; have kg0 : wc5.cell? ⟨wc3.heap.size + 1, 0, none⟩ = some (.int .i64 2) := Blk.cell hrc5 0 rfl; have kg1 : wc5.cell? ⟨wc3.heap.size + 1, 1, none⟩ = some (.int .u32 2) := Blk.cell hrc5 1 rfl; go_frame))
  have BF := Lib.hid (two_below hgc4 hgc5 B.out)
  go_ret
  exact ⟨rfl, BF.out⟩
end Go.Proofs.YtcjakmnplkeldaaDoor
