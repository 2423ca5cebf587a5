/-
  What geom.Of, turned, Take, Give, Used and Room do.
-/
import Derived.Test.YtoanladhikdcaaaGreatGeomOf
import Derived.Test.YtoanladhikdcaaaGreatInfra
import Derived.RegionTactic
import Derived.BigRegion
namespace Go.Proofs.YtoanladhikdcaaaGreat
open Go.RowKit
set_option linter.unusedVariables false
set_option linter.unusedSimpArgs false

theorem of_any (A : Option Addr) (c : Nat) (xs : List ByteArray) (w : World) (hx : xs.length ≤ 1000000) (h : RowAt w w.heap.size A (xs.map .string)) :
    Calls Tryz.prog 58 #[.slice A xs.length c] w (OfPost xs w) := by
  by_cases hn : ∀ s ∈ xs, s.size = 128
  · exact of_good A c xs w hx h hn
  · exact of_bad A c xs w hx h hn
/-- a new slice of strings, known whole -/
def NewRow (ys : List ByteArray) (w : World) (v : Value) (w' : World) : Prop := ∃ g, v = .slice (some ⟨g, 0, none⟩) ys.length ys.length ∧ w.heap.size ≤ g ∧ Blk w' g 9 (ys.map .string).toArray
theorem str_info : (Tryz.prog.info? 9).map (fun i => (i.zero, i.size, i.bytes)) = some (some (.string ⟨#[]⟩), 1, 16) := by kernel_rfl
theorem u8_info : (Tryz.prog.info? 5).map (fun i => (i.zero, i.size, i.bytes)) = some (some (.int .u8 0), 1, 1) := by kernel_rfl
theorem str_sz : (Tryz.prog.info? 9).map (·.size) = some 1 := by kernel_rfl
theorem u8_sz (w : World) : (sizeOf 5).run Tryz.prog w = .ok 1 w := by kernel_rfl
theorem str_cells (xs : List ByteArray) : ∀ v ∈ xs.map Value.string, v.oneCell' = true := by
  intro v hv
  obtain ⟨x, _, rfl⟩ := List.mem_map.1 hv
  rfl
/-- the byte that is turned -/
theorem turn_byte (s : ByteArray) (i : Nat) (h : i / 8 < s.size) : bits .xor .u8 (s[i / 8].toNat : Int) (2 ^ (i % 8) % 256) = (((turnL s.data.toList i).getD (i / 8) 0).toNat : Int) := by
  have h1 := two_pow_lt i
  have e : ((2 : Int) ^ (i % 8) % 256) = ((2 ^ (i % 8) : Nat) : Int) := by
    have : ((2 : Int) ^ (i % 8)) = ((2 ^ (i % 8) : Nat) : Int) := by simp
    rw [this]
    generalize (2 : Nat) ^ (i % 8) = q at h1
    omega
  rw [e, u8_xor_nat _ _ (s[i / 8].toNat_lt) h1]
  unfold turnL
  have hl : i / 8 < s.data.toList.length := by simpa using h
  rw [getD_set _ _ _ _ _ hl, if_pos rfl, UInt8.toNat_xor, toNat_two_pow]
  have : s.data.toList.getD (i / 8) 0 = s[i / 8] := by simp only [List.getD, List.getElem?_eq_getElem hl]; rfl
  rw [this]
theorem turn_cells (s : ByteArray) (i : Nat) (h : i / 8 < s.size) (z : Int) (hz : z = (((turnL s.data.toList i).getD (i / 8) 0).toNat : Int)) :
    ((s.data.toList.map fun x => Value.int .u8 (x.toNat : Int)).toArray.setIfInBounds (i / 8) (.int .u8 z)) = ((turnB s i).data.toList.map fun x => Value.int .u8 (x.toNat : Int)).toArray := by
  have hl : i / 8 < s.data.toList.length := by simpa using h
  rw [List.setIfInBounds_toArray, turnB_list]
  congr 1
  subst hz
  unfold turnL
  rw [getD_set _ _ _ _ _ hl, if_pos rfl, List.map_set]
set_option maxRecDepth 100000 in
set_option maxHeartbeats 2000000 in
theorem turned_any (A : Option Addr) (c : Nat) (xs : List ByteArray) (i : Nat) (w : World) (h16 : 3 ≤ xs.length) (hx : xs.length ≤ 1000000) (h2 : (xs.getD 2 ⟨#[]⟩).size = 128) (hi : i < 1024) (h : RowAt w w.heap.size A (xs.map .string)) :
    Calls Tryz.prog 107 #[.slice A xs.length c, .int .i64 i] w fun e w' => ∃ v, e = .returned v ∧ NewRow (turnV xs i) w v w' ∧ Below w.heap.size w w' := by
  obtain ⟨i0, q1, q2, q3, q4⟩ := info_parts str_info
  obtain ⟨i1, r1, r2, r3, r4⟩ := info_parts u8_info
  have HR := Lib.hid h
  obtain ⟨b, o, rfl, hb, hc⟩ := row_get h 2 (by omega)
  generalize hs : xs.getD 2 ⟨#[]⟩ = s at h2 hc
  have HS := Lib.hid hs
  have H2 := Lib.hid h2
  have h3 : i / 8 < s.size := by omega
  have HT := Lib.hid (turn_byte s i h3)
  have HC := Lib.hid hc
  clear h hs hc h2
  have I0 := Lib.hid (And.intro q1 (And.intro q2 (And.intro q3 q4)))
  have I1 := Lib.hid (And.intro r1 (And.intro r2 (And.intro r3 r4)))
  clear q1 q2 q3 q4 r1 r2 r3 r4
  go_enter Tryz.func107, Tryz.ntmps107
  go_wp2_with (first
    | (refine make_blk 58 (.const (.int .i64 128)) (.const (.int .i64 128)) 5 i1 (.int .u8 0) 128 128 128 rfl rfl Tryz.underlying58 I1.out.1 I1.out.2.1 I1.out.2.2.1 rfl rfl rfl rfl rfl (by rw [I1.out.2.2.2]; decide) (by decide) ?_; intro w1 g1 hg1; have G1 := Lib.hid g1; have B1 := Lib.hid ((Below.refl w.heap.size w).grown hg1 (Nat.le_refl _) (by intro k hk; cases hk)); have hc1 : w1.cell? ⟨b, o + 2, none⟩ = some (.string s) := (B1.out.cell (p := ⟨b, o + 2, none⟩) hb).trans HC.out; clear g1 hg1)
    | (refine copy_str_blk (.tmp 8) (.tmp 11) 58 9 5 w.heap.size 128 128 5 (Array.replicate 128 (.int .u8 0)) s rfl rfl Tryz.underlying58 u8_sz rfl rfl G1.out (by simp) H2.out ?_; intro w2 g2 hg2; have G2 := Lib.hid g2; have hz1 : w.heap.size ≤ w1.heap.size := B1.out.size; have B2 := Lib.hid (B1.out.grown hg2 hz1 (by intro k hk; cases hk; exact Nat.le_refl _)); clear g2 hg2 hc1))
  have k1 : w2.cell? ⟨w.heap.size, i / 8, none⟩ = some (.int .u8 (s[i / 8].toNat : Int)) := G2.out.cell (i / 8) (by
    have : i / 8 < s.data.toList.length := by simpa using h3
    simp only [List.getElem?_toArray, List.getElem?_map, List.getElem?_eq_getElem this, Option.map_some]; rfl)
  have k2 := G2.out.frozen (i / 8)
  have k3 : (i : Int) / 8 < 128 := by omega
  have k4 : IntKind.i64.wrap ((i : Int) / 8) = (i : Int) / 8 := IntWalk.i64_in _ (by omega)
  have k5 : IntKind.i64.wrap ((i : Int) % 8) = (i : Int) % 8 := IntWalk.i64_in _ (by omega)
  have k6 : (0 : Int) ≤ (i : Int) / 8 := by omega
  have k7 : ((i : Int) / 8).toNat = i / 8 := by omega
  have k8 : (0 : Int) ≤ (i : Int) % 8 := by omega
  have k9 : ((i : Int) % 8).toNat = i % 8 := by omega
  go_frame
  go_region
  rw [HT.out]
  generalize hw3 : World.drew _ = w3
  have G3 : Hid (Blk w3 w.heap.size 5 ((turnB s i).data.toList.map fun x => Value.int .u8 (x.toNat : Int)).toArray) := by
    rw [← turn_cells s i h3 _ rfl, ← hw3]; exact (G2.out.set_ (i / 8) _).drew
  have B3 : Hid (Below w.heap.size w w3) := hw3 ▸ (B2.out.setCell (Nat.le_refl _) _).drew
  have R3 : Hid (RowAt w3 w3.heap.size (some ⟨b, o, none⟩) (xs.map .string)) := (HR.out.below B3.out).mono B3.out.size
  have hz3 : w.heap.size < w3.heap.size := G3.out.lt
  clear hw3 k1 k2 k3 k4 k5 k6 k7 k8 k9
  generalize hst : turnB s i = st at G3
  have hsz : st.size = 128 := by rw [← hst, turnB_size]; exact H2.out
  have HSZ := Lib.hid hsz
  have HST := Lib.hid hst
  clear hst hsz
  have F2 : Hid ((xs.map Value.string).toArray[2]? = some (.string s)) := by
    show _ = _
    rw [← HS.out, getD_eq xs 2 (by omega)]
    simp only [List.getElem?_toArray, List.getElem?_map]
    rw [List.getElem?_eq_getElem (by omega)]; rfl
  have hl2 : (2 : Int) < (xs.length : Int) := by omega
  have N1 : Hid (some w.heap.size ≠ some w3.heap.size) := by intro e; injection e; omega
  have s1 : (xs.map Value.string).length = xs.length := by simp
  have S1 := Lib.hid s1
  have s2 : (Array.replicate xs.length (Value.string ⟨#[]⟩)).size = xs.length := by simp
  have S2 := Lib.hid s2
  have S3 : Hid (0 < xs.length) := by show 0 < xs.length; omega
  have LE : Hid (∀ k, (some w3.heap.size : Option Nat) = some k → w.heap.size ≤ k) := by intro k hk; cases hk; omega
  clear s1 s2
  go_wp2_with (first
    | (refine make_blk 22 (.tmp 24) (.tmp 24) 9 i0 (.string ⟨#[]⟩) xs.length xs.length xs.length rfl rfl Tryz.underlying22 I0.out.1 I0.out.2.1 I0.out.2.2.1 rfl rfl rfl rfl rfl (by rw [I0.out.2.2.2]; omega) (by unfold maxLen; omega) ?_; intro w4 g4 hg4; have G4 := Lib.hid g4; have G3' := Lib.hid (G3.out.grown hg4 (by simp)); have B4 := Lib.hid (B3.out.grown hg4 B3.out.size (by intro k hk; cases hk)); have R4 := Lib.hid ((HR.out.below B4.out).mono B4.out.size); clear g4 hg4)
    | (refine copy_row_blk (.tmp 26) (.tmp 27) 22 22 9 w3.heap.size xs.length xs.length 9 (Array.replicate xs.length (.string ⟨#[]⟩)) w4.heap.size (some ⟨b, o, none⟩) c (xs.map .string) rfl rfl Tryz.underlying22 str_sz rfl rfl G4.out S2.out S1.out S3.out R4.out (str_cells xs) ?_; intro w5 g5 hg5; have G5 := Lib.hid g5; have G3'' := Lib.hid (G3'.out.grown hg5 N1.out); have B5 := Lib.hid (B4.out.grown hg5 B4.out.size LE.out); have hcv := conv_blk (P := Tryz.prog) 128 G3''.out HSZ.out 128 Tryz.underlying58 Tryz.underlying5 Tryz.underlying9; have hcl : w5.cell? ⟨w3.heap.size, 2, none⟩ = some (.string s) := G5.out.cell 2 F2.out; have hfr := G5.out.frozen 2; clear g5 hg5))
  go_ret
  have ht : turnV xs i = xs.set 2 st := by unfold turnV; rw [HS.out, HST.out]
  refine ⟨_, rfl, ⟨w3.heap.size, by rw [turnV_length]; rfl, by omega, ?_⟩, B5.out.setCell (by show w.heap.size ≤ w3.heap.size; omega) _⟩
  have := G5.out.set_ 2 (.string st)
  rw [List.setIfInBounds_toArray, ← List.map_set] at this
  rw [ht]; exact this
end Go.Proofs.YtoanladhikdcaaaGreat
