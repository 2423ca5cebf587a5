/-
  Joined in one text: RExtA, RExtCnt, RExtBl, RExtRd.
-/
import Derived.Test.YtoanladhikdcaaaGreatRInoGet
import Derived.Test.YtoanladhikdcaaaGreatExtA
import Derived.Test.YtoanladhikdcaaaGreatExtM
import Derived.Laws.IdiomStrings
namespace Go.Proofs.YtoanladhikdcaaaGreat
open Go.RowKit
set_option linter.unusedVariables false
set_option linter.unusedSimpArgs false
set_option maxRecDepth 100000
/-- the number of a block that files may have, or 0 -/
def goodN (xs : List ByteArray) (m b : Nat) : Nat := if datB xs m b = true then b else 0
theorem rgood_any (A : Option Addr) (c : Nat) (xs : List ByteArray) (m b : Nat) (w : World) (hx : xs.length ≤ 1000000) :
    Calls Tryz.prog 52 #[.slice A xs.length c, .int .i64 (dataN m : Nat), .int .i64 b] w fun e w' => e = .returned (.int .i64 (goodN xs m b : Nat)) ∧ w = w' := by
  have HD : Hid (goodN xs m b = if dataN m ≤ b ∧ b < xs.length then b else 0) := by show _ = _; unfold goodN datB; simp only [decide_eq_true_eq]
  generalize goodN xs m b = gn at *
  generalize dataN m = d at *
  generalize xs.length = q at *
  by_cases h1 : b < d
  · have k1 : (b : Int) < (d : Int) := by omega
    go_enter Tryz.func52, Tryz.ntmps52
    go_wp2
    go_ret
    exact ⟨ret_int (by rw [HD.out, if_neg (by omega)]; rfl), rfl⟩
  · have k1 : ¬ (b : Int) < (d : Int) := by omega
    by_cases h2 : q ≤ b
    · have k2 : (q : Int) ≤ (b : Int) := by omega
      go_enter Tryz.func52, Tryz.ntmps52
      go_wp2
      go_ret
      exact ⟨ret_int (by rw [HD.out, if_neg (by omega)]; rfl), rfl⟩
    · have k2 : ¬ (q : Int) ≤ (b : Int) := by omega
      go_enter Tryz.func52, Tryz.ntmps52
      go_wp2
      go_ret
      exact ⟨ret_int (by rw [HD.out, if_pos (by omega)]), rfl⟩
theorem rdata_any (A : Option Addr) (c : Nat) (xs : List ByteArray) (m : Nat) (w : World) (hv : IsVol xs m) (h : RowAt w w.heap.size A (xs.map .string)) :
    Calls Tryz.prog 51 #[.slice A xs.length c] w fun e w' => e = .returned (.int .i64 (dataN m : Nat)) ∧ Below w.heap.size w w' := by
  have hl := hv.len
  have CO := Lib.hid (rof_any A c xs w (by omega) h)
  unfold OfPost ofE at CO
  rw [ofR_some.2 hv] at CO
  dsimp only at CO
  clear h hv
  go_enter Tryz.func51, Tryz.ntmps51
  go_wp2_with fail
  refine CO.out.mono ?_
  rintro e w1 ⟨rfl, hb1⟩
  have B1 := Lib.hid hb1
  have hz1 := hb1.size
  clear hb1
  go_wp2
  go_ret
  exact ⟨rfl, B1.out.alloc hz1 _⟩
theorem numAt_twoB {bs : List UInt8} {p : Nat} (h : p + 2 ≤ bs.length) : numAt bs p 2 = (bs.getD p 0).toNat + 256 * (bs.getD (p + 1) 0).toNat := by
  unfold numAt
  rw [List.drop_eq_getElem_cons (by omega), List.drop_eq_getElem_cons (show p + 1 < bs.length by omega)]
  simp only [List.take_succ_cons, List.take_zero, leN, Nat.mul_zero, Nat.add_zero, List.getD_eq_getElem?_getD]
  rw [List.getElem?_eq_getElem (by omega), List.getElem?_eq_getElem (by omega)]
  rfl
theorem rtwo19_any (s : ByteArray) (p : Nat) (w : World) (hs : p + 2 ≤ s.size) (hz : s.size ≤ 1000000) :
    Calls Tryz.prog 84 #[.string s, .int .i64 p] w fun e w' => e = .returned (.int .i64 (numAt s.data.toList p 2 : Nat)) ∧ Below w.heap.size w w' := by
  have h1 : p < s.size := by omega
  have h2 : p + 1 < s.size := by omega
  have HN : Hid (numAt s.data.toList p 2 = s[p].toNat + 256 * s[p + 1].toNat) := by
    show _ = _
    have hdl : s.data.toList.length = s.size := by rw [Array.length_toList]; rfl
    rw [numAt_twoB (by omega), List.getD_eq_getElem?_getD, List.getD_eq_getElem?_getD, List.getElem?_eq_getElem (by omega), List.getElem?_eq_getElem (by omega)]
    rfl
  have a1 := s[p].toNat_lt
  have a2 := s[p + 1].toNat_lt
  have s1 : IntKind.i64.wrap ((p : Int) + 1) = (p : Int) + 1 := IntWalk.i64_in _ (by omega)
  have s2 : ((p : Int) + 1).toNat = p + 1 := by omega
  have s3 : (0 : Int) ≤ (p : Int) + 1 := by omega
  have s4 : (p : Int) + 1 < (s.size : Int) := by omega
  have s5 : (p : Int) < (s.size : Int) := by omega
  have s6 : (0 : Int) ≤ (p : Int) := by omega
  have s7 : IntKind.i64.wrap (s[p].toNat : Int) = (s[p].toNat : Int) := IntWalk.i64_in _ (by omega)
  have s8 : IntKind.i64.wrap (s[p + 1].toNat : Int) = (s[p + 1].toNat : Int) := IntWalk.i64_in _ (by omega)
  have s9 : IntKind.i64.wrap ((256 : Int) * (s[p + 1].toNat : Int)) = (256 : Int) * (s[p + 1].toNat : Int) := IntWalk.i64_in _ (by omega)
  have s10 : IntKind.i64.wrap ((s[p].toNat : Int) + (256 : Int) * (s[p + 1].toNat : Int)) = (s[p].toNat : Int) + (256 : Int) * (s[p + 1].toNat : Int) := IntWalk.i64_in _ (by omega)
  go_enter Tryz.func84, Tryz.ntmps84
  go_wp2_with fail
  refine wp_region_ext (by kernel_rfl) (by kernel_rfl) ?_
  repeat (go_big_quiet_step (fail))
  refine wpQuiet_nil ?_
  rintro _ ⟨u, rfl⟩
  have UB := Lib.hid u.below
  generalize u.val = W2 at *
  go_wp2
  go_ret
  exact ⟨ret_int (by rw [HN.out]; push_cast; rfl), UB.out⟩
theorem rsize_any (l : List Nat) (w : World) (hl : FitN l) :
    Calls Tryz.prog 46 #[.agg (inoC l)] w fun e w' => e = .returned (.int .i64 (sizeX l : Nat)) ∧ Below w.heap.size w w' := by
  have h3 := fit_lt hl 3
  obtain ⟨a0, a1, a2, a3, a4, a5, a6, a7, a8, a9, a10, a11, rfl⟩ := len12 hl.1
  have HS : Hid (sizeX [a0, a1, a2, a3, a4, a5, a6, a7, a8, a9, a10, a11] = min a3 8960) := rfl
  have h3' : a3 < 4294967296 := h3
  unfold inoC
  simp only [List.map_cons, List.map_nil]
  clear hl h3
  by_cases hb : 8960 < a3
  · have k1 : (8960 : Int) < (a3 : Int) := by omega
    go_enter Tryz.func46, Tryz.ntmps46
    go_wp2
    go_ret
    exact ⟨ret_int (by rw [HS.out]; omega), (Below.refl _ _).alloc (Nat.le_refl _) _⟩
  · have k1 : ¬ (8960 : Int) < (a3 : Int) := by omega
    go_enter Tryz.func46, Tryz.ntmps46
    go_wp2
    go_ret
    exact ⟨ret_int (by rw [HS.out]; omega), (Below.refl _ _).alloc (Nat.le_refl _) _⟩
theorem rblocks_any (n : Nat) (w : World) (hn : n ≤ 1000000) : Calls Tryz.prog 49 #[.int .i64 n] w fun e w' => e = .returned (.int .i64 (needN n : Nat)) ∧ w = w' := by
  have HN : Hid (((n : Int) + 127) / 128 = ((needN n : Nat) : Int)) := by show _ = _; unfold needN; omega
  go_enter Tryz.func49, Tryz.ntmps49
  go_wp2
  go_ret
  exact ⟨ret_int HN.out, rfl⟩
set_option maxHeartbeats 2000000 in
theorem rat_any (A : Option Addr) (c : Nat) (xs : List ByteArray) (m k : Nat) (l : List Nat) (w : World) (hv : IsVol xs m) (hl : FitN l) (hk : k < 70) (h : RowAt w w.heap.size A (xs.map .string)) :
    Calls Tryz.prog 54 #[.slice A xs.length c, .int .i64 (dataN m : Nat), .agg (inoC l), .int .i64 k] w fun e w' => e = .returned (.int .i64 (atX xs m l k : Nat)) ∧ Below w.heap.size w w' := by
  have hvl := hv.len
  have hx : xs.length ≤ 1000000 := by omega
  have HA : Hid (∀ r, rawX xs m l k = r → atX xs m l k = goodN xs m r) := fun r hr => by unfold atX goodN; rw [hr]
  have CG := Lib.hid (fun (b : Nat) (w : World) => rgood_any A c xs m b w hx)
  have B0 : Hid (Below w.heap.size w (w.alloc (.cells (inoC l) 35))) := (Below.refl _ _).alloc (Nat.le_refl _) _
  have cellI : ∀ i, i < 12 → (inoC l)[i]? = some (.int .i64 ((l.getD i 0 : Nat) : Int)) := fun i hi => by
    unfold inoC
    have : i < l.length := by rw [hl.1]; exact hi
    simp [this]
  have HZ : Hid (∀ i, i < xs.length → (xs.getD i ⟨#[]⟩).size = 128) := fun i hi => hv.size i hi
  have HRow := Lib.hid h
  by_cases h6 : k < 6
  · have HR : Hid (rawX xs m l k = l.getD (4 + k) 0) := by show _ = _; unfold rawX; rw [if_pos h6]
    have hc := cellI (4 + k) (by omega)
    have k1 : (k : Int) < 6 := by omega
    have k2 : (0 : Int) ≤ (k : Int) := by omega
    have HF := Lib.hid (HA.out _ HR.out)
    clear cellI HR
    generalize l.getD (4 + k) 0 = r at *
    go_enter Tryz.func54, Tryz.ntmps54
    go_wp2_with fail
    refine (CG.out r _).mono ?_
    rintro e w' ⟨rfl, rfl⟩
    go_wp2
    go_ret
    exact ⟨ret_int (by rw [HF.out]), B0.out⟩
  · have HR : Hid (rawX xs m l k = if datB xs m (l.getD 10 0) = true then numAt (blkL xs (l.getD 10 0)) (2 * (k - 6)) 2 else 0) := by show _ = _; unfold rawX; rw [if_neg h6]
    have hc := cellI 10 (by omega)
    have k1 : ¬ (k : Int) < 6 := by omega
    have hli := fit_lt hl 10
    have HG : Hid (goodN xs m (l.getD 10 0) = if datB xs m (l.getD 10 0) = true then l.getD 10 0 else 0) := rfl
    clear cellI
    generalize l.getD 10 0 = i at *
    cases hd : datB xs m i with
    | false =>
      have HF : Hid (atX xs m l k = 0) := by
        show _ = _
        rw [HA.out 0 (by rw [HR.out, hd]; rfl)]
        unfold goodN
        rw [datB_zero]; rfl
      rw [hd] at HG
      have CG0 := Lib.hid (fun w => CG.out i w)
      rw [HG.out] at CG0
      clear hd HG
      go_enter Tryz.func54, Tryz.ntmps54
      go_wp2_with fail
      refine (CG0.out _).mono ?_
      rintro e w' ⟨rfl, rfl⟩
      go_wp2
      go_ret
      exact ⟨ret_int (by rw [HF.out]; rfl), B0.out⟩
    | true =>
      rw [hd, if_pos rfl] at HG HR
      have hdd := datB_iff.1 hd
      have hi3 := datB_pos hd
      have CG0 := Lib.hid (fun w => CG.out i w)
      rw [HG.out] at CG0
      obtain ⟨bb, oo, rfl, hbb, hcc⟩ := row_get HRow.out i hdd.2
      have hsz := HZ.out i hdd.2
      obtain ⟨p, hp⟩ : ∃ p, 2 * (k - 6) = p := ⟨_, rfl⟩
      rw [hp] at HR
      have p1 : (2 : Int) * ((k : Int) - 6) = (p : Int) := by omega
      unfold blkL at HR
      generalize xs.getD i ⟨#[]⟩ = s at *
      have CT := Lib.hid (fun w => rtwo19_any s p w (by omega) (by omega))
      have hrl : numAt s.data.toList p 2 < 65536 := numAt_lt _ _ 2
      generalize numAt s.data.toList p 2 = r at *
      have HF := Lib.hid (HA.out r HR.out)
      have hcw : (w.alloc (.cells (inoC l) 35)).cell? ⟨bb, oo + i, none⟩ = some (.string s) := (B0.out.cell (p := ⟨bb, oo + i, none⟩) hbb).trans hcc
      have q1 : IntKind.i64.wrap ((k : Int) - 6) = (k : Int) - 6 := IntWalk.i64_in _ (by omega)
      have i1 : (0 : Int) ≤ (i : Int) := by omega
      have i2 : (i : Int) < (xs.length : Int) := by omega
      have i3 : ¬ i = 0 := by omega
      clear hp hd HG HRow HZ hdd
      go_enter Tryz.func54, Tryz.ntmps54
      go_wp2_with fail
      refine (CG0.out _).mono ?_
      rintro e w' ⟨rfl, rfl⟩
      go_wp2_with fail
      refine (CT.out _).mono ?_
      rintro e w2 ⟨rfl, hb2⟩
      have B2 := Lib.hid (B0.out.trans (hb2.mono B0.out.size))
      clear hb2
      go_wp2_with fail
      refine (CG.out r _).mono ?_
      rintro e w' ⟨rfl, rfl⟩
      go_wp2
      go_ret
      exact ⟨ret_int (by rw [HF.out]), B2.out⟩
end Go.Proofs.YtoanladhikdcaaaGreat

namespace Go.Proofs.YtoanladhikdcaaaGreat
open Go.RowKit
set_option linter.unusedVariables false
set_option linter.unusedSimpArgs false
set_option maxRecDepth 100000
theorem ino_info12 {l : List Nat} (h : l.length = 12) : (Tryz.prog.info? 35).map (·.size) = some (inoC l).size := by rw [inoC_size, h]; kernel_rfl
theorem inoC_at {l : List Nat} (h : l.length = 12) (i : Nat) (hi : i < 12) : (inoC l)[i]? = some (.int .i64 ((l.getD i 0 : Nat) : Int)) := by
  unfold inoC
  have : i < l.length := by omega
  simp [this]
theorem getR_fit {xs : List ByteArray} {m k : Nat} (hv : IsVol xs m) (h1 : 1 ≤ k) (h2 : k ≤ m) : FitN (getR xs (k : Int)) := by
  rw [getR_vol hv h1 h2]; exact inoR_fit _ _
end Go.Proofs.YtoanladhikdcaaaGreat

namespace Go.Proofs.YtoanladhikdcaaaGreat
open Go.RowKit
set_option linter.unusedVariables false
set_option linter.unusedSimpArgs false
set_option maxRecDepth 100000
theorem range_snoc (f : Nat → Int) (k : Nat) : (List.range (k + 1)).map f = (List.range k).map f ++ [f k] := by rw [List.range_succ, List.map_append]; rfl
end Go.Proofs.YtoanladhikdcaaaGreat

namespace Go.Proofs.YtoanladhikdcaaaGreat
open Go.RowKit
set_option linter.unusedVariables false
set_option linter.unusedSimpArgs false
set_option maxRecDepth 100000
/-- a row of bytes that one owns, as a string -/
theorem conv_own {w : World} {base : Nat} {v : Value} (l : List UInt8) (h : w.ownsRow base 5 1 v l.length (Lib.byteCells l)) : (convert 58 9 v).run Tryz.prog w = .ok (.string ⟨l.toArray⟩) w := by
  by_cases hy : l = []
  · subst hy
    rcases Go.Joins.ownsRow_forms h with ⟨e, _⟩ | ⟨g, cap, e⟩
    · subst e
      exact run_convert_bytes_nil w 58 5 Tryz.underlying58 Tryz.underlying5 _ _ 9 Tryz.underlying9
    · subst e
      exact run_convert_bytes_back w 58 9 5 ⟨g, 0, none⟩ cap [] Tryz.underlying58 Tryz.underlying5 Tryz.underlying9 (fun j hj => by simp at hj)
  · obtain ⟨g, cap, rfl⟩ := Go.Joins.ownsRow_form h (List.length_pos_iff.2 hy)
    refine run_convert_bytes_back w 58 9 5 ⟨g, 0, none⟩ cap l Tryz.underlying58 Tryz.underlying5 Tryz.underlying9 (fun j hj => ?_)
    have e : (⟨g, 0, none⟩ : Addr).add j = ⟨g, j, none⟩ := by unfold Addr.add; split <;> simp_all
    rw [e, h.cellAt j (by omega)]
    unfold Lib.byteCells
    simp [hj]
theorem byteCells_snoc (l : List UInt8) (b : UInt8) : Lib.byteCells (l ++ [b]) = Lib.byteCells l ++ [.int .u8 (b.toNat : Int)] := by unfold Lib.byteCells; simp
theorem spanX_succ (xs : List ByteArray) (m : Nat) (l : List Nat) (off i : Nat) (h : off ≤ i) : spanX xs m l off (i + 1) = spanX xs m l off i ++ [byteX xs m l i] := by
  unfold spanX
  rw [show i + 1 - off = i - off + 1 by omega, List.range'_concat, List.map_append]
  simp only [Nat.one_mul, List.map_cons, List.map_nil]
  rw [show off + (i - off) = i by omega]
theorem spanX_len (xs : List ByteArray) (m : Nat) (l : List Nat) (off i : Nat) : (spanX xs m l off i).length = i - off := by unfold spanX; simp
theorem getD_byte (s : ByteArray) (p : Nat) (h : p < s.size) : s.data.toList.getD p 0 = s[p] := by
  rw [List.getD_eq_getElem?_getD, List.getElem?_eq_getElem (by rw [Array.length_toList]; exact h)]
  rfl
set_option maxHeartbeats 4000000 in
theorem rread_ok (A : Option Addr) (c : Nat) (xs : List ByteArray) (n : Int) (off sz : Nat) (w : World) (hx : xs.length ≤ 1000000) (h : RowAt w w.heap.size A (xs.map .string)) (h0 : inoE xs n = 0) :
    Calls Tryz.prog 42 #[.slice A xs.length c, .int .i64 n, .int .i64 (off : Int), .int .i64 (sz : Int)] w (ReadPost (readO xs n (off : Int) (sz : Int)) w) := by
  obtain ⟨m, k, hv, rfl, hk1, hk2, hk3⟩ := inoE_ok h0
  obtain ⟨bb, oo, rfl, hbb, hrow⟩ := h.at_ (by have := hv.len; simp; omega)
  have HRow := Lib.hid hrow
  have HR := Lib.hid h
  have CG := Lib.hid (rget_ino _ c xs (k : Int) w hx h)
  clear h hrow
  have hfit := getR_fit hv hk1 hk2
  obtain ⟨en, hen⟩ : ∃ en, min (off + sz) (sizeX (getR xs (k : Int))) = en := ⟨_, rfl⟩
  have HW0 : Hid (readO xs (k : Int) (off : Int) (sz : Int) = (spanX xs m (getR xs (k : Int)) off en, 0)) := by
    show _ = _
    unfold readO readX
    rw [if_neg (by rw [h0]; simp), if_neg (by omega), mO_vol hv, Int.toNat_natCast, Int.toNat_natCast, hen]
  rw [h0] at CG
  generalize getR xs (k : Int) = l at *
  have HZ : Hid ((inoC l).size = 12) := by show _ = _; rw [inoC_size, hfit.1]
  have HI := Lib.hid (ino_info12 hfit.1)
  have CD := Lib.hid (fun w h => rdata_any (some ⟨bb, oo, none⟩) c xs m w hv h)
  have CA := Lib.hid (fun k hk w h => rat_any (some ⟨bb, oo, none⟩) c xs m k l w hv hfit hk h)
  have CS := Lib.hid (fun w => rsize_any l w hfit)
  have hsx := sizeX_le l
  have HSN := Lib.hid (fun i h => spanX_succ xs m l off i h)
  have HSL := Lib.hid (fun i => spanX_len xs m l off i)
  have HBX : Hid (∀ i, byteX xs m l i = if atX xs m l (i / 128) = 0 then 0 else (blkL xs (atX xs m l (i / 128))).getD (i % 128) 0) := fun i => rfl
  have HATX : Hid (∀ j, atX xs m l j < xs.length) := fun j => by
    have := hv.len
    unfold atX
    split
    · rename_i hd; exact (datB_iff.1 hd).2
    · omega
  have HBL128 : Hid (∀ b, b < xs.length → (xs.getD b ⟨#[]⟩).size = 128) := fun b hb => hv.size b hb
  obtain ⟨u0, q1, q2, q3, q4⟩ := info_parts u8_info
  have U0 := Lib.hid (And.intro q1 (And.intro q2 (And.intro q3 q4)))
  have hd1 : decide ((off : Int) < 0) = false := by simp
  have hd2 : decide ((sz : Int) < 0) = false := by simp
  generalize sizeX l = sx at *
  generalize dataN m = d at *
  have HSE : Hid (∀ i, i ≤ off → spanX xs m l off i = []) := fun i hi => by unfold spanX; rw [show i - off = 0 by omega]; rfl
  have HS0 : Hid (spanX xs m l off off = []) := by show _ = _; unfold spanX; simp
  generalize spanX xs m l off = sp at *
  clear h0 hk3 hfit hv q1 q2 q3 q4
  go_enter Tryz.func42, Tryz.ntmps42
  go_wp2_with fail
  refine CG.out.mono ?_
  rintro e w1 ⟨rfl, hb1⟩
  have B1 := Lib.hid hb1
  have hz1 := B1.out.size
  clear hb1 CG
  go_wp2_with (refine store_blk 35 (.tmp 10) (.tmp 20) w1.heap.size 35 (inoC (List.replicate 12 0)) (inoC l) rfl rfl rfl rfl (Blk.new w1 _ _) (by rw [HZ.out]; rfl) HI.out (inoC_one _) ?_; intro w2 hr2 hg2)
  have I3 := (Below.refl w2.heap.size w2).alloc (Nat.le_refl _) (.cells #[] 5)
  have B2 : Below w.heap.size w w2 := (B1.out.alloc hz1 _).grown hg2 (by simp; omega) (fun k e => by cases e; exact hz1)
  have G3 := Lib.hid (hr2.below I3 hr2.lt)
  have B3 := Lib.hid (B2.trans (I3.mono B2.size))
  have O3 : Hid ((w2.alloc (.cells #[] 5)).ownsRow w.heap.size 5 1 (.slice (some ⟨w2.heap.size, 0, none⟩) 0 0) 0 []) := World.ownsRow_lit w2 #[] 0 B2.size (by decide) rfl
  obtain ⟨w3, hw3⟩ : ∃ w3, w2.alloc (.cells #[] 5) = w3 := ⟨_, rfl⟩
  rw [hw3] at G3 B3 O3 ⊢
  have R3 := Lib.hid ((HR.out.below B3.out).mono B3.out.size)
  clear hr2 hg2 B1 I3 B2 hw3
  generalize w1.heap.size = gi at *
  generalize w2.heap.size = gq at *
  refine (CD.out _ R3.out).mono ?_
  rintro e w4 ⟨rfl, hb4⟩
  have G4 := Lib.hid (G3.out.below hb4 G3.out.lt)
  have O4 : Hid (w4.ownsRow w.heap.size 5 1 (.slice (some ⟨gq, 0, none⟩) 0 0) (sp off).length (Lib.byteCells (sp off))) := by show w4.ownsRow _ _ _ _ _ _; rw [HS0.out]; exact own_below O3.out hb4
  have B4 := Lib.hid (B3.out.trans (hb4.mono B3.out.size))
  clear hb4 G3 O3 B3 R3 CD
  go_wp2
  go_loopw [12, 14] (fun v i wr => ∃ j : Nat, off ≤ j ∧ (j ≤ en ∨ j = off) ∧ i = .int .i64 j ∧ (∃ gg cc, v = .slice (some ⟨gg, 0, none⟩) (sp j).length cc) ∧ Hid (wr.ownsRow w.heap.size 5 1 v (sp j).length (Lib.byteCells (sp j))) ∧ Hid (Blk wr gi 35 (inoC l)) ∧ Hid (Below w.heap.size w wr)) (fun _ i _ => en - (intOf i).toNat)
  case atStart => exact ⟨off, by omega, .inr rfl, rfl, ⟨gq, 0, by rw [HS0.out]; rfl⟩, O4, G4, B4⟩
  case round =>
    obtain ⟨j, hj1, hj2, rfl, ⟨gg, cc, rfl⟩, OK, G, B⟩ := hrel
    have hjl := HSL.out j
    generalize hts : sp j = ts at *
    have HTS := Lib.hid hts
    clear hts
    rw [hjl]
    go_wp2_with (refine load_blk 35 (.tmp 10) gi 35 (inoC l) _ rfl rfl rfl G.out Tryz.underlying35 rfl HI.out ?_; go_frame)
    refine (CS.out _).mono ?_
    rintro e w5 ⟨rfl, hb5⟩
    replace G := Lib.hid (G.out.below hb5 G.out.lt)
    replace OK := Lib.hid (own_below OK.out hb5)
    replace B := Lib.hid (B.out.trans (hb5.mono B.out.size))
    clear hb5
    obtain ⟨q, hq⟩ : ∃ q, j - off = q := ⟨_, rfl⟩
    have hcv := conv_own ts OK.out
    rw [hq] at hjl ⊢
    rw [hjl] at OK hcv
    have HJQ : Hid (j = off + q) := by show _ = _; omega
    have HEN : Hid (min (off + sz) sx = en) := hen
    clear hq
    by_cases hlt : j < sx
    · have hl1 : (j : Int) < (sx : Int) := by omega
      have hl2 : decide (j < sx) = true := by simpa using hlt
      by_cases hq2 : q < sz
      · have hl3 : (q : Int) < (sz : Int) := by omega
        have hl4 : decide (q < sz) = true := by simpa using hq2
        obtain ⟨jb, hjb⟩ : ∃ jb, j / 128 = jb := ⟨_, rfl⟩
        obtain ⟨p, hp⟩ : ∃ p, j % 128 = p := ⟨_, rfl⟩
        have hjb1 : (j : Int) / 128 = (jb : Int) := by omega
        have hp1 : (j : Int) % 128 = (p : Int) := by omega
        have hp2 : p < 128 := by omega
        have CAk := Lib.hid (CA.out jb (by omega))
        have HV := Lib.hid (HBX.out j)
        rw [hjb, hp] at HV
        have HAB := Lib.hid (HATX.out jb)
        have HSJ := Lib.hid (HSN.out j hj1)
        rw [HTS.out] at HSJ
        generalize byteX xs m l j = bx at *
        generalize atX xs m l jb = at_ at *
        have HM : Hid (q + 1 ≤ maxLen) := by show _ ≤ _; unfold maxLen; have := HJQ.out; omega
        have HY : Hid ((q + 1) * 1 ≤ 140737488355328) := by show _ ≤ _; have := HJQ.out; omega
        clear hjb hp hcv
        go_wp2_with (refine load_blk 35 (.tmp 10) gi 35 (inoC l) _ rfl rfl rfl G.out Tryz.underlying35 rfl HI.out ?_; go_frame)
        refine (CAk.out _ ((HR.out.below B.out).mono B.out.size)).mono ?_
        rintro e w6 ⟨rfl, hb6⟩
        replace G := Lib.hid (G.out.below hb6 G.out.lt)
        replace OK := Lib.hid (own_below OK.out hb6)
        replace B := Lib.hid (B.out.trans (hb6.mono B.out.size))
        clear hb6 CAk
        by_cases ha : at_ = 0
        · subst ha
          obtain rfl : bx = 0 := by rw [HV.out, if_pos rfl]
          have O4 : Hid ((w6.alloc (.cells #[.int .u8 0] 5)).ownsRow w.heap.size 5 1 _ q (Lib.byteCells ts)) := World.ownsRow.alloc OK.out _
          have B4 := Lib.hid (B.out.alloc B.out.size (.cells #[.int .u8 0] 5))
          have G4 := Lib.hid (G.out.alloc (.cells #[.int .u8 0] 5))
          have HC : Hid (∀ j u, [Value.int .u8 0][j]? = some u → (w6.alloc (.cells #[.int .u8 0] 5)).cell? ((⟨w6.heap.size, 0, none⟩ : Addr).add j) = some u) := fun j u hu => by
            cases j with
            | zero => cases hu; exact (Blk.new w6 5 #[.int .u8 0]).cell 0 rfl
            | succ j => simp at hu
          have H1 : Hid (∀ u ∈ [Value.int .u8 0], u.oneCell' = true) := fun u hu => by simp at hu; subst hu; rfl
          go_wp2_with (at_builtin; refine wpList_append_own _ rfl (.tmp 65) (.tmp 66) 58 rfl w.heap.size 5 u0 (.int .u8 0) 1 1 Tryz.underlying58 U0.out.1 U0.out.2.1 U0.out.2.2.1 U0.out.2.2.2 rfl (by decide) _ q (Lib.byteCells ts) rfl O4.out ⟨w6.heap.size, 0, none⟩ 1 1 [.int .u8 0] rfl rfl HC.out H1.out HM.out HY.out B4.out.size ?_; intro v9 w9 own hg hv; obtain ⟨g', cap', rfl⟩ := ownsRow_succ own)
          have HL1 : Hid ((sp (j + 1)).length = q + 1) := by show _ = _; rw [HSJ.out, List.length_append, hjl]; rfl
          have ON : Hid (w9.ownsRow w.heap.size 5 1 (.slice (some ⟨g', 0, none⟩) (q + 1) cap') (sp (j + 1)).length (Lib.byteCells (sp (j + 1)))) := by
            rw [HL1.out, HSJ.out, byteCells_snoc]; exact own
          have GN2 := Lib.hid (G4.out.grown hg (own_ne O4.out G4.out (by decide)))
          have BN2 := Lib.hid (B4.out.grown hg B4.out.size (fun j e => (O4.out.lt j e).1))
          clear own hg hv
          go_wp2
          go_roundw
          case rel => exact ⟨j + 1, by omega, .inl (by have := HJQ.out; have := HEN.out; omega), by go_num, ⟨g', cap', by rw [HL1.out]⟩, ON, GN2, BN2⟩
          case measure => have a := HJQ.out; have b := HEN.out; simp [intOf]; omega
        · have ha1 : (0 : Int) < (at_ : Int) := by omega
          have ha2 : (at_ : Int) < (xs.length : Int) := by have := HAB.out; omega
          have hs128 := HBL128.out at_ HAB.out
          rw [if_neg ha] at HV
          unfold blkL at HV
          have hc0 : w.cell? ⟨bb, oo + at_, none⟩ = some (.string (xs.getD at_ ⟨#[]⟩)) := HRow.out at_ _ (by rw [List.getElem?_map, List.getD_eq_getElem?_getD, List.getElem?_eq_getElem HAB.out]; rfl)
          have hc1 : w6.cell? ⟨bb, oo + at_, none⟩ = some (.string (xs.getD at_ ⟨#[]⟩)) := (B.out.cell (p := ⟨bb, oo + at_, none⟩) hbb).trans hc0
          generalize xs.getD at_ ⟨#[]⟩ = s at *
          have hps : p < s.size := by omega
          have hps2 : (p : Int) < (s.size : Int) := by omega
          have HBV : Hid (bx = s[p]) := by show _ = _; rw [HV.out, getD_byte s p hps]
          clear hs128 hc0
          have O4 : Hid ((w6.alloc (.cells #[.int .u8 (s[p].toNat : Int)] 5)).ownsRow w.heap.size 5 1 _ q (Lib.byteCells ts)) := World.ownsRow.alloc OK.out _
          have B4 := Lib.hid (B.out.alloc B.out.size (.cells #[.int .u8 (s[p].toNat : Int)] 5))
          have G4 := Lib.hid (G.out.alloc (.cells #[.int .u8 (s[p].toNat : Int)] 5))
          have HC : Hid (∀ j u, [Value.int .u8 (s[p].toNat : Int)][j]? = some u → (w6.alloc (.cells #[.int .u8 (s[p].toNat : Int)] 5)).cell? ((⟨w6.heap.size, 0, none⟩ : Addr).add j) = some u) := fun j u hu => by
            cases j with
            | zero => cases hu; exact (Blk.new w6 5 #[.int .u8 (s[p].toNat : Int)]).cell 0 rfl
            | succ j => simp at hu
          have H1 : Hid (∀ u ∈ [Value.int .u8 (s[p].toNat : Int)], u.oneCell' = true) := fun u hu => by simp at hu; subst hu; rfl
          go_wp2_with (at_builtin; refine wpList_append_own _ rfl (.tmp 55) (.tmp 63) 58 rfl w.heap.size 5 u0 (.int .u8 0) 1 1 Tryz.underlying58 U0.out.1 U0.out.2.1 U0.out.2.2.1 U0.out.2.2.2 rfl (by decide) _ q (Lib.byteCells ts) rfl O4.out ⟨w6.heap.size, 0, none⟩ 1 1 [.int .u8 (s[p].toNat : Int)] rfl rfl HC.out H1.out HM.out HY.out B4.out.size ?_; intro v9 w9 own hg hv; obtain ⟨g', cap', rfl⟩ := ownsRow_succ own)
          have HL1 : Hid ((sp (j + 1)).length = q + 1) := by show _ = _; rw [HSJ.out, List.length_append, hjl]; rfl
          have ON : Hid (w9.ownsRow w.heap.size 5 1 (.slice (some ⟨g', 0, none⟩) (q + 1) cap') (sp (j + 1)).length (Lib.byteCells (sp (j + 1)))) := by
            rw [HL1.out, HSJ.out, byteCells_snoc, HBV.out]; exact own
          have GN2 := Lib.hid (G4.out.grown hg (own_ne O4.out G4.out (by decide)))
          have BN2 := Lib.hid (B4.out.grown hg B4.out.size (fun j e => (O4.out.lt j e).1))
          clear own hg hv
          go_wp2
          go_roundw
          case rel => exact ⟨j + 1, by omega, .inl (by have := HJQ.out; have := HEN.out; omega), by go_num, ⟨g', cap', by rw [HL1.out]⟩, ON, GN2, BN2⟩
          case measure => have a := HJQ.out; have b := HEN.out; simp [intOf]; omega
      · have hl3 : ¬ (q : Int) < (sz : Int) := by omega
        have hl4 : decide (q < sz) = false := by simpa using hq2
        have HE : Hid (sp en = ts) := by
          show _ = _
          rw [← HTS.out]
          by_cases e : j = en
          · rw [e]
          · rw [HSE.out j (by have := HJQ.out; have := HEN.out; omega), HSE.out en (by have := HJQ.out; have := HEN.out; omega)]
        go_wp2
        go_ret2
        unfold ReadPost
        rw [HW0.out, HE.out]
        exact ⟨rfl, B.out⟩
    · have hl1 : ¬ (j : Int) < (sx : Int) := by omega
      have hl2 : decide (j < sx) = false := by simpa using hlt
      have HE : Hid (sp en = ts) := by
        show _ = _
        rw [← HTS.out]
        by_cases e : j = en
        · rw [e]
        · rw [HSE.out j (by have := HJQ.out; have := HEN.out; omega), HSE.out en (by have := HJQ.out; have := HEN.out; omega)]
      go_wp2
      go_ret2
      unfold ReadPost
      rw [HW0.out, HE.out]
      exact ⟨rfl, B.out⟩
set_option maxHeartbeats 4000000 in
theorem rread_none (A : Option Addr) (c : Nat) (xs : List ByteArray) (n off sz : Int) (w : World) (hx : xs.length ≤ 1000000) (h : RowAt w w.heap.size A (xs.map .string)) (h0 : ¬ inoE xs n = 0) :
    Calls Tryz.prog 42 #[.slice A xs.length c, .int .i64 n, .int .i64 off, .int .i64 sz] w (ReadPost (readO xs n off sz) w) := by
  have CG := Lib.hid (rget_ino A c xs n w hx h)
  have HW0 : Hid (readO xs n off sz = ([], inoE xs n)) := by show _ = _; unfold readO; rw [if_pos h0]
  have HGZ : Hid (getR xs n = List.replicate 12 0) := by show _ = _; unfold getR; rw [if_neg h0]
  rw [HGZ.out] at CG
  have hn0 : (inoE xs n != 0) = true := by simpa using h0
  generalize inoE xs n = ie at *
  clear h0 h
  go_enter Tryz.func42, Tryz.ntmps42
  go_wp2_with fail
  refine CG.out.mono ?_
  rintro e w1 ⟨rfl, hb1⟩
  have B1 := Lib.hid hb1
  have hz1 := B1.out.size
  clear hb1 CG
  go_wp2_with (refine store_blk 35 (.tmp 10) (.tmp 20) w1.heap.size 35 (inoC (List.replicate 12 0)) (inoC (List.replicate 12 0)) rfl rfl rfl rfl (Blk.new w1 _ _) rfl (by kernel_rfl) (inoC_one _) ?_; intro w2 hr2 hg2)
  have B2 : Below w.heap.size w w2 := (B1.out.alloc hz1 _).grown hg2 (by simp; omega) (fun k e => by cases e; exact hz1)
  go_ret2
  unfold ReadPost
  rw [HW0.out]
  exact ⟨rfl, B2⟩
set_option maxHeartbeats 4000000 in
theorem rread_neg (A : Option Addr) (c : Nat) (xs : List ByteArray) (n off sz : Int) (w : World) (hx : xs.length ≤ 1000000) (h : RowAt w w.heap.size A (xs.map .string)) (h0 : inoE xs n = 0) (hn : off < 0 ∨ sz < 0) :
    Calls Tryz.prog 42 #[.slice A xs.length c, .int .i64 n, .int .i64 off, .int .i64 sz] w (ReadPost (readO xs n off sz) w) := by
  have CG := Lib.hid (rget_ino A c xs n w hx h)
  have HW0 : Hid (readO xs n off sz = ([], 1)) := by show _ = _; unfold readO; rw [if_neg (by rw [h0]; simp), if_pos hn]
  rw [h0] at CG
  have HZ : Hid ((inoC (getR xs n)).size = 12) := by show _ = _; rw [inoC_size, getR_len]
  have HI := Lib.hid (ino_info12 (getR_len xs n))
  generalize getR xs n = l at *
  clear h0 h
  by_cases h1 : off < 0
  · have d1 : decide (off < 0) = true := by simpa using h1
    clear hn
    go_enter Tryz.func42, Tryz.ntmps42
    go_wp2_with fail
    refine CG.out.mono ?_
    rintro e w1 ⟨rfl, hb1⟩
    have B1 := Lib.hid hb1
    have hz1 := B1.out.size
    clear hb1 CG
    go_wp2_with (refine store_blk 35 (.tmp 10) (.tmp 20) w1.heap.size 35 (inoC (List.replicate 12 0)) (inoC l) rfl rfl rfl rfl (Blk.new w1 _ _) (by rw [HZ.out]; rfl) HI.out (inoC_one _) ?_; intro w2 hr2 hg2)
    have B2 : Below w.heap.size w w2 := (B1.out.alloc hz1 _).grown hg2 (by simp; omega) (fun k e => by cases e; exact hz1)
    go_ret2
    unfold ReadPost
    rw [HW0.out]
    exact ⟨rfl, B2⟩
  · have d1 : decide (off < 0) = false := by simpa using h1
    have h2 : sz < 0 := by omega
    have d2 : decide (sz < 0) = true := by simpa using h2
    clear hn
    go_enter Tryz.func42, Tryz.ntmps42
    go_wp2_with fail
    refine CG.out.mono ?_
    rintro e w1 ⟨rfl, hb1⟩
    have B1 := Lib.hid hb1
    have hz1 := B1.out.size
    clear hb1 CG
    go_wp2_with (refine store_blk 35 (.tmp 10) (.tmp 20) w1.heap.size 35 (inoC (List.replicate 12 0)) (inoC l) rfl rfl rfl rfl (Blk.new w1 _ _) (by rw [HZ.out]; rfl) HI.out (inoC_one _) ?_; intro w2 hr2 hg2)
    have B2 : Below w.heap.size w w2 := (B1.out.alloc hz1 _).grown hg2 (by simp; omega) (fun k e => by cases e; exact hz1)
    go_ret2
    unfold ReadPost
    rw [HW0.out]
    exact ⟨rfl, B2⟩
theorem rread_any (A : Option Addr) (c : Nat) (xs : List ByteArray) (n off sz : Int) (w : World) (hx : xs.length ≤ 1000000) (h : RowAt w w.heap.size A (xs.map .string)) :
    Calls Tryz.prog 42 #[.slice A xs.length c, .int .i64 n, .int .i64 off, .int .i64 sz] w (ReadPost (readO xs n off sz) w) := by
  by_cases h0 : inoE xs n = 0
  · by_cases hn : off < 0 ∨ sz < 0
    · exact rread_neg A c xs n off sz w hx h h0 hn
    · obtain ⟨o, rfl⟩ := Int.eq_ofNat_of_zero_le (show 0 ≤ off by omega)
      obtain ⟨z, rfl⟩ := Int.eq_ofNat_of_zero_le (show 0 ≤ sz by omega)
      exact rread_ok A c xs n o z w hx h h0
  · exact rread_none A c xs n off sz w hx h h0
end Go.Proofs.YtoanladhikdcaaaGreat
