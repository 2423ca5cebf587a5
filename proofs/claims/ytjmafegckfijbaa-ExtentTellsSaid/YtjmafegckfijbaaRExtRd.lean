/-
  What the document's Read of layer 19 tells.
-/
import Derived.Test.YtjmafegckfijbaaRExtBl
import Derived.Test.YtjmafegckfijbaaExtRd
import Derived.Laws.IdiomStrings
namespace Go.Proofs.Ytjmafegckfijbaa
open Go.RowKit
set_option linter.unusedVariables false
set_option linter.unusedSimpArgs false
set_option maxRecDepth 100000
/-- a row of bytes that one owns, as a string -/
theorem conv_own {w : World} {base : Nat} {v : Value} (l : List UInt8) (h : w.ownsRow base 5 1 v l.length (Lib.byteCells l)) : (convert 62 9 v).run Try.prog w = .ok (.string ⟨l.toArray⟩) w := by
  by_cases hy : l = []
  · subst hy
    rcases Go.Joins.ownsRow_forms h with ⟨e, _⟩ | ⟨g, cap, e⟩
    · subst e
      exact run_convert_bytes_nil w 62 5 Try.underlying62 Try.underlying5 _ _ 9 Try.underlying9
    · subst e
      exact run_convert_bytes_back w 62 9 5 ⟨g, 0, none⟩ cap [] Try.underlying62 Try.underlying5 Try.underlying9 (fun j hj => by simp at hj)
  · obtain ⟨g, cap, rfl⟩ := Go.Joins.ownsRow_form h (List.length_pos_iff.2 hy)
    refine run_convert_bytes_back w 62 9 5 ⟨g, 0, none⟩ cap l Try.underlying62 Try.underlying5 Try.underlying9 (fun j hj => ?_)
    have e : (⟨g, 0, none⟩ : Addr).add j = ⟨g, j, none⟩ := by unfold Addr.add; split <;> simp_all
    rw [e, h.cellAt j (by omega)]
    unfold Lib.byteCells
    simp [hj]
theorem byteCells_snoc (l : List UInt8) (b : UInt8) : Lib.byteCells (l ++ [b]) = Lib.byteCells l ++ [.int .u8 (b.toNat : Int)] := by unfold Lib.byteCells; simp
theorem spanX_succ (xs : List ByteArray) (m : Nat) (l : List Nat) (off i : Nat) (h : off ≤ i) : spanX xs m l off (i + 1) = spanX xs m l off i ++ [byteX xs m l i] := by
  unfold spanX
  rw [show i + 1 - off = i - off + 1 by omega, List.range'_concat, List.map_append]
  simp only [Nat.one_mul, List.map_cons, List.map_nil]
  rw [show off + (i - off) = i by omega]
theorem spanX_len (xs : List ByteArray) (m : Nat) (l : List Nat) (off i : Nat) : (spanX xs m l off i).length = i - off := by unfold spanX; simp
theorem getD_byte (s : ByteArray) (p : Nat) (h : p < s.size) : s.data.toList.getD p 0 = s[p] := by
  rw [List.getD_eq_getElem?_getD, List.getElem?_eq_getElem (by rw [Array.length_toList]; exact h)]
  rfl
set_option maxHeartbeats 4000000 in
theorem rread_ok (A : Option Addr) (c : Nat) (xs : List ByteArray) (n : Int) (off sz : Nat) (w : World) (hx : xs.length ≤ 1000000) (h : RowAt w w.heap.size A (xs.map .string)) (h0 : inoE xs n = 0) :
    Calls Try.prog 21 #[.slice A xs.length c, .int .i64 n, .int .i64 (off : Int), .int .i64 (sz : Int)] w (ReadPost (readO xs n (off : Int) (sz : Int)) w) := by
  obtain ⟨m, k, hv, rfl, hk1, hk2, hk3⟩ := inoE_ok h0
  obtain ⟨bb, oo, rfl, hbb, hrow⟩ := h.at_ (by have := hv.len; simp; omega)
  have HRow := Lib.hid hrow
  have HR := Lib.hid h
  have CG := Lib.hid (rget_ino _ c xs (k : Int) w hx h)
  clear h hrow
  have hfit := getR_fit hv hk1 hk2
  obtain ⟨en, hen⟩ : ∃ en, min (off + sz) (sizeX (getR xs (k : Int))) = en := ⟨_, rfl⟩
  have HW0 : Hid (readO xs (k : Int) (off : Int) (sz : Int) = (spanX xs m (getR xs (k : Int)) off en, 0)) := by
    show _ = _
    unfold readO readX
    rw [if_neg (by rw [h0]; simp), if_neg (by omega), mO_vol hv, Int.toNat_natCast, Int.toNat_natCast, hen]
  rw [h0] at CG
  generalize getR xs (k : Int) = l at *
  have HZ : Hid ((inoC l).size = 12) := by show _ = _; rw [inoC_size, hfit.1]
  have HI := Lib.hid (ino_info12 hfit.1)
  have CD := Lib.hid (fun w h => rdata_any (some ⟨bb, oo, none⟩) c xs m w hv h)
  have CA := Lib.hid (fun k hk w h => rat_any (some ⟨bb, oo, none⟩) c xs m k l w hv hfit hk h)
  have CS := Lib.hid (fun w => rsize_any l w hfit)
  have hsx := sizeX_le l
  have HSN := Lib.hid (fun i h => spanX_succ xs m l off i h)
  have HSL := Lib.hid (fun i => spanX_len xs m l off i)
  have HBX : Hid (∀ i, byteX xs m l i = if atX xs m l (i / 128) = 0 then 0 else (blkL xs (atX xs m l (i / 128))).getD (i % 128) 0) := fun i => rfl
  have HATX : Hid (∀ j, atX xs m l j < xs.length) := fun j => by
    have := hv.len
    unfold atX
    split
    · rename_i hd; exact (datB_iff.1 hd).2
    · omega
  have HBL128 : Hid (∀ b, b < xs.length → (xs.getD b ⟨#[]⟩).size = 128) := fun b hb => hv.size b hb
  obtain ⟨u0, q1, q2, q3, q4⟩ := info_parts u8_info
  have U0 := Lib.hid (And.intro q1 (And.intro q2 (And.intro q3 q4)))
  have hd1 : decide ((off : Int) < 0) = false := by simp
  have hd2 : decide ((sz : Int) < 0) = false := by simp
  generalize sizeX l = sx at *
  generalize dataN m = d at *
  have HSE : Hid (∀ i, i ≤ off → spanX xs m l off i = []) := fun i hi => by unfold spanX; rw [show i - off = 0 by omega]; rfl
  have HS0 : Hid (spanX xs m l off off = []) := by show _ = _; unfold spanX; simp
  generalize spanX xs m l off = sp at *
  clear h0 hk3 hfit hv q1 q2 q3 q4
  go_enter Try.func21, Try.ntmps21
  go_wp2_with fail
  refine CG.out.mono ?_
  rintro e w1 ⟨rfl, hb1⟩
  have B1 := Lib.hid hb1
  have hz1 := B1.out.size
  clear hb1 CG
  go_wp2_with (refine store_blk 45 (.tmp 10) (.tmp 20) w1.heap.size 45 (inoC (List.replicate 12 0)) (inoC l) rfl rfl rfl rfl (Blk.new w1 _ _) (by rw [HZ.out]; rfl) HI.out (inoC_one _) ?_; intro w2 hr2 hg2)
  have I3 := (Below.refl w2.heap.size w2).alloc (Nat.le_refl _) (.cells #[] 5)
  have B2 : Below w.heap.size w w2 := (B1.out.alloc hz1 _).grown hg2 (by simp; omega) (fun k e => by cases e; exact hz1)
  have G3 := Lib.hid (hr2.below I3 hr2.lt)
  have B3 := Lib.hid (B2.trans (I3.mono B2.size))
  have O3 : Hid ((w2.alloc (.cells #[] 5)).ownsRow w.heap.size 5 1 (.slice (some ⟨w2.heap.size, 0, none⟩) 0 0) 0 []) := World.ownsRow_lit w2 #[] 0 B2.size (by decide) rfl
  obtain ⟨w3, hw3⟩ : ∃ w3, w2.alloc (.cells #[] 5) = w3 := ⟨_, rfl⟩
  rw [hw3] at G3 B3 O3 ⊢
  have R3 := Lib.hid ((HR.out.below B3.out).mono B3.out.size)
  clear hr2 hg2 B1 I3 B2 hw3
  generalize w1.heap.size = gi at *
  generalize w2.heap.size = gq at *
  refine (CD.out _ R3.out).mono ?_
  rintro e w4 ⟨rfl, hb4⟩
  have G4 := Lib.hid (G3.out.below hb4 G3.out.lt)
  have O4 : Hid (w4.ownsRow w.heap.size 5 1 (.slice (some ⟨gq, 0, none⟩) 0 0) (sp off).length (Lib.byteCells (sp off))) := by show w4.ownsRow _ _ _ _ _ _; rw [HS0.out]; exact own_below O3.out hb4
  have B4 := Lib.hid (B3.out.trans (hb4.mono B3.out.size))
  clear hb4 G3 O3 B3 R3 CD
  go_wp2
  go_loopw [12, 14] (fun v i wr => ∃ j : Nat, off ≤ j ∧ (j ≤ en ∨ j = off) ∧ i = .int .i64 j ∧ (∃ gg cc, v = .slice (some ⟨gg, 0, none⟩) (sp j).length cc) ∧ Hid (wr.ownsRow w.heap.size 5 1 v (sp j).length (Lib.byteCells (sp j))) ∧ Hid (Blk wr gi 45 (inoC l)) ∧ Hid (Below w.heap.size w wr)) (fun _ i _ => en - (intOf i).toNat)
  case atStart => exact ⟨off, by omega, .inr rfl, rfl, ⟨gq, 0, by rw [HS0.out]; rfl⟩, O4, G4, B4⟩
  case round =>
    obtain ⟨j, hj1, hj2, rfl, ⟨gg, cc, rfl⟩, OK, G, B⟩ := hrel
    have hjl := HSL.out j
    generalize hts : sp j = ts at *
    have HTS := Lib.hid hts
    clear hts
    rw [hjl]
    go_wp2_with (refine load_blk 45 (.tmp 10) gi 45 (inoC l) _ rfl rfl rfl G.out Try.underlying45 rfl HI.out ?_; go_frame)
    refine (CS.out _).mono ?_
    rintro e w5 ⟨rfl, hb5⟩
    replace G := Lib.hid (G.out.below hb5 G.out.lt)
    replace OK := Lib.hid (own_below OK.out hb5)
    replace B := Lib.hid (B.out.trans (hb5.mono B.out.size))
    clear hb5
    obtain ⟨q, hq⟩ : ∃ q, j - off = q := ⟨_, rfl⟩
    have hcv := conv_own ts OK.out
    rw [hq] at hjl ⊢
    rw [hjl] at OK hcv
    have HJQ : Hid (j = off + q) := by show _ = _; omega
    have HEN : Hid (min (off + sz) sx = en) := hen
    clear hq
    by_cases hlt : j < sx
    · have hl1 : (j : Int) < (sx : Int) := by omega
      have hl2 : decide (j < sx) = true := by simpa using hlt
      by_cases hq2 : q < sz
      · have hl3 : (q : Int) < (sz : Int) := by omega
        have hl4 : decide (q < sz) = true := by simpa using hq2
        obtain ⟨jb, hjb⟩ : ∃ jb, j / 128 = jb := ⟨_, rfl⟩
        obtain ⟨p, hp⟩ : ∃ p, j % 128 = p := ⟨_, rfl⟩
        have hjb1 : (j : Int) / 128 = (jb : Int) := by omega
        have hp1 : (j : Int) % 128 = (p : Int) := by omega
        have hp2 : p < 128 := by omega
        have CAk := Lib.hid (CA.out jb (by omega))
        have HV := Lib.hid (HBX.out j)
        rw [hjb, hp] at HV
        have HAB := Lib.hid (HATX.out jb)
        have HSJ := Lib.hid (HSN.out j hj1)
        rw [HTS.out] at HSJ
        generalize byteX xs m l j = bx at *
        generalize atX xs m l jb = at_ at *
        have HM : Hid (q + 1 ≤ maxLen) := by show _ ≤ _; unfold maxLen; have := HJQ.out; omega
        have HY : Hid ((q + 1) * 1 ≤ 140737488355328) := by show _ ≤ _; have := HJQ.out; omega
        clear hjb hp hcv
        go_wp2_with (refine load_blk 45 (.tmp 10) gi 45 (inoC l) _ rfl rfl rfl G.out Try.underlying45 rfl HI.out ?_; go_frame)
        refine (CAk.out _ ((HR.out.below B.out).mono B.out.size)).mono ?_
        rintro e w6 ⟨rfl, hb6⟩
        replace G := Lib.hid (G.out.below hb6 G.out.lt)
        replace OK := Lib.hid (own_below OK.out hb6)
        replace B := Lib.hid (B.out.trans (hb6.mono B.out.size))
        clear hb6 CAk
        by_cases ha : at_ = 0
        · subst ha
          obtain rfl : bx = 0 := by rw [HV.out, if_pos rfl]
          have O4 : Hid ((w6.alloc (.cells #[.int .u8 0] 5)).ownsRow w.heap.size 5 1 _ q (Lib.byteCells ts)) := World.ownsRow.alloc OK.out _
          have B4 := Lib.hid (B.out.alloc B.out.size (.cells #[.int .u8 0] 5))
          have G4 := Lib.hid (G.out.alloc (.cells #[.int .u8 0] 5))
          have HC : Hid (∀ j u, [Value.int .u8 0][j]? = some u → (w6.alloc (.cells #[.int .u8 0] 5)).cell? ((⟨w6.heap.size, 0, none⟩ : Addr).add j) = some u) := fun j u hu => by
            cases j with
            | zero => cases hu; exact (Blk.new w6 5 #[.int .u8 0]).cell 0 rfl
            | succ j => simp at hu
          have H1 : Hid (∀ u ∈ [Value.int .u8 0], u.oneCell' = true) := fun u hu => by simp at hu; subst hu; rfl
          go_wp2_with (at_builtin; refine wpList_append_own _ rfl (.tmp 65) (.tmp 66) 62 rfl w.heap.size 5 u0 (.int .u8 0) 1 1 Try.underlying62 U0.out.1 U0.out.2.1 U0.out.2.2.1 U0.out.2.2.2 rfl (by decide) _ q (Lib.byteCells ts) rfl O4.out ⟨w6.heap.size, 0, none⟩ 1 1 [.int .u8 0] rfl rfl HC.out H1.out HM.out HY.out B4.out.size ?_; intro v9 w9 own hg hv; obtain ⟨g', cap', rfl⟩ := ownsRow_succ own)
          have HL1 : Hid ((sp (j + 1)).length = q + 1) := by show _ = _; rw [HSJ.out, List.length_append, hjl]; rfl
          have ON : Hid (w9.ownsRow w.heap.size 5 1 (.slice (some ⟨g', 0, none⟩) (q + 1) cap') (sp (j + 1)).length (Lib.byteCells (sp (j + 1)))) := by
            rw [HL1.out, HSJ.out, byteCells_snoc]; exact own
          have GN2 := Lib.hid (G4.out.grown hg (own_ne O4.out G4.out (by decide)))
          have BN2 := Lib.hid (B4.out.grown hg B4.out.size (fun j e => (O4.out.lt j e).1))
          clear own hg hv
          go_wp2
          go_roundw
          case rel => exact ⟨j + 1, by omega, .inl (by have := HJQ.out; have := HEN.out; omega), by go_num, ⟨g', cap', by rw [HL1.out]⟩, ON, GN2, BN2⟩
          case measure => have a := HJQ.out; have b := HEN.out; simp [intOf]; omega
        · have ha1 : (0 : Int) < (at_ : Int) := by omega
          have ha2 : (at_ : Int) < (xs.length : Int) := by have := HAB.out; omega
          have hs128 := HBL128.out at_ HAB.out
          rw [if_neg ha] at HV
          unfold blkL at HV
          have hc0 : w.cell? ⟨bb, oo + at_, none⟩ = some (.string (xs.getD at_ ⟨#[]⟩)) := HRow.out at_ _ (by rw [List.getElem?_map, List.getD_eq_getElem?_getD, List.getElem?_eq_getElem HAB.out]; rfl)
          have hc1 : w6.cell? ⟨bb, oo + at_, none⟩ = some (.string (xs.getD at_ ⟨#[]⟩)) := (B.out.cell (p := ⟨bb, oo + at_, none⟩) hbb).trans hc0
          generalize xs.getD at_ ⟨#[]⟩ = s at *
          have hps : p < s.size := by omega
          have hps2 : (p : Int) < (s.size : Int) := by omega
          have HBV : Hid (bx = s[p]) := by show _ = _; rw [HV.out, getD_byte s p hps]
          clear hs128 hc0
          have O4 : Hid ((w6.alloc (.cells #[.int .u8 (s[p].toNat : Int)] 5)).ownsRow w.heap.size 5 1 _ q (Lib.byteCells ts)) := World.ownsRow.alloc OK.out _
          have B4 := Lib.hid (B.out.alloc B.out.size (.cells #[.int .u8 (s[p].toNat : Int)] 5))
          have G4 := Lib.hid (G.out.alloc (.cells #[.int .u8 (s[p].toNat : Int)] 5))
          have HC : Hid (∀ j u, [Value.int .u8 (s[p].toNat : Int)][j]? = some u → (w6.alloc (.cells #[.int .u8 (s[p].toNat : Int)] 5)).cell? ((⟨w6.heap.size, 0, none⟩ : Addr).add j) = some u) := fun j u hu => by
            cases j with
            | zero => cases hu; exact (Blk.new w6 5 #[.int .u8 (s[p].toNat : Int)]).cell 0 rfl
            | succ j => simp at hu
          have H1 : Hid (∀ u ∈ [Value.int .u8 (s[p].toNat : Int)], u.oneCell' = true) := fun u hu => by simp at hu; subst hu; rfl
          go_wp2_with (at_builtin; refine wpList_append_own _ rfl (.tmp 55) (.tmp 63) 62 rfl w.heap.size 5 u0 (.int .u8 0) 1 1 Try.underlying62 U0.out.1 U0.out.2.1 U0.out.2.2.1 U0.out.2.2.2 rfl (by decide) _ q (Lib.byteCells ts) rfl O4.out ⟨w6.heap.size, 0, none⟩ 1 1 [.int .u8 (s[p].toNat : Int)] rfl rfl HC.out H1.out HM.out HY.out B4.out.size ?_; intro v9 w9 own hg hv; obtain ⟨g', cap', rfl⟩ := ownsRow_succ own)
          have HL1 : Hid ((sp (j + 1)).length = q + 1) := by show _ = _; rw [HSJ.out, List.length_append, hjl]; rfl
          have ON : Hid (w9.ownsRow w.heap.size 5 1 (.slice (some ⟨g', 0, none⟩) (q + 1) cap') (sp (j + 1)).length (Lib.byteCells (sp (j + 1)))) := by
            rw [HL1.out, HSJ.out, byteCells_snoc, HBV.out]; exact own
          have GN2 := Lib.hid (G4.out.grown hg (own_ne O4.out G4.out (by decide)))
          have BN2 := Lib.hid (B4.out.grown hg B4.out.size (fun j e => (O4.out.lt j e).1))
          clear own hg hv
          go_wp2
          go_roundw
          case rel => exact ⟨j + 1, by omega, .inl (by have := HJQ.out; have := HEN.out; omega), by go_num, ⟨g', cap', by rw [HL1.out]⟩, ON, GN2, BN2⟩
          case measure => have a := HJQ.out; have b := HEN.out; simp [intOf]; omega
      · have hl3 : ¬ (q : Int) < (sz : Int) := by omega
        have hl4 : decide (q < sz) = false := by simpa using hq2
        have HE : Hid (sp en = ts) := by
          show _ = _
          rw [← HTS.out]
          by_cases e : j = en
          · rw [e]
          · rw [HSE.out j (by have := HJQ.out; have := HEN.out; omega), HSE.out en (by have := HJQ.out; have := HEN.out; omega)]
        go_wp2
        go_ret2
        unfold ReadPost
        rw [HW0.out, HE.out]
        exact ⟨rfl, B.out⟩
    · have hl1 : ¬ (j : Int) < (sx : Int) := by omega
      have hl2 : decide (j < sx) = false := by simpa using hlt
      have HE : Hid (sp en = ts) := by
        show _ = _
        rw [← HTS.out]
        by_cases e : j = en
        · rw [e]
        · rw [HSE.out j (by have := HJQ.out; have := HEN.out; omega), HSE.out en (by have := HJQ.out; have := HEN.out; omega)]
      go_wp2
      go_ret2
      unfold ReadPost
      rw [HW0.out, HE.out]
      exact ⟨rfl, B.out⟩
set_option maxHeartbeats 4000000 in
theorem rread_none (A : Option Addr) (c : Nat) (xs : List ByteArray) (n off sz : Int) (w : World) (hx : xs.length ≤ 1000000) (h : RowAt w w.heap.size A (xs.map .string)) (h0 : ¬ inoE xs n = 0) :
    Calls Try.prog 21 #[.slice A xs.length c, .int .i64 n, .int .i64 off, .int .i64 sz] w (ReadPost (readO xs n off sz) w) := by
  have CG := Lib.hid (rget_ino A c xs n w hx h)
  have HW0 : Hid (readO xs n off sz = ([], inoE xs n)) := by show _ = _; unfold readO; rw [if_pos h0]
  have HGZ : Hid (getR xs n = List.replicate 12 0) := by show _ = _; unfold getR; rw [if_neg h0]
  rw [HGZ.out] at CG
  have hn0 : (inoE xs n != 0) = true := by simpa using h0
  generalize inoE xs n = ie at *
  clear h0 h
  go_enter Try.func21, Try.ntmps21
  go_wp2_with fail
  refine CG.out.mono ?_
  rintro e w1 ⟨rfl, hb1⟩
  have B1 := Lib.hid hb1
  have hz1 := B1.out.size
  clear hb1 CG
  go_wp2_with (refine store_blk 45 (.tmp 10) (.tmp 20) w1.heap.size 45 (inoC (List.replicate 12 0)) (inoC (List.replicate 12 0)) rfl rfl rfl rfl (Blk.new w1 _ _) rfl (by kernel_rfl) (inoC_one _) ?_; intro w2 hr2 hg2)
  have B2 : Below w.heap.size w w2 := (B1.out.alloc hz1 _).grown hg2 (by simp; omega) (fun k e => by cases e; exact hz1)
  go_ret2
  unfold ReadPost
  rw [HW0.out]
  exact ⟨rfl, B2⟩
set_option maxHeartbeats 4000000 in
theorem rread_neg (A : Option Addr) (c : Nat) (xs : List ByteArray) (n off sz : Int) (w : World) (hx : xs.length ≤ 1000000) (h : RowAt w w.heap.size A (xs.map .string)) (h0 : inoE xs n = 0) (hn : off < 0 ∨ sz < 0) :
    Calls Try.prog 21 #[.slice A xs.length c, .int .i64 n, .int .i64 off, .int .i64 sz] w (ReadPost (readO xs n off sz) w) := by
  have CG := Lib.hid (rget_ino A c xs n w hx h)
  have HW0 : Hid (readO xs n off sz = ([], 1)) := by show _ = _; unfold readO; rw [if_neg (by rw [h0]; simp), if_pos hn]
  rw [h0] at CG
  have HZ : Hid ((inoC (getR xs n)).size = 12) := by show _ = _; rw [inoC_size, getR_len]
  have HI := Lib.hid (ino_info12 (getR_len xs n))
  generalize getR xs n = l at *
  clear h0 h
  by_cases h1 : off < 0
  · have d1 : decide (off < 0) = true := by simpa using h1
    clear hn
    go_enter Try.func21, Try.ntmps21
    go_wp2_with fail
    refine CG.out.mono ?_
    rintro e w1 ⟨rfl, hb1⟩
    have B1 := Lib.hid hb1
    have hz1 := B1.out.size
    clear hb1 CG
    go_wp2_with (refine store_blk 45 (.tmp 10) (.tmp 20) w1.heap.size 45 (inoC (List.replicate 12 0)) (inoC l) rfl rfl rfl rfl (Blk.new w1 _ _) (by rw [HZ.out]; rfl) HI.out (inoC_one _) ?_; intro w2 hr2 hg2)
    have B2 : Below w.heap.size w w2 := (B1.out.alloc hz1 _).grown hg2 (by simp; omega) (fun k e => by cases e; exact hz1)
    go_ret2
    unfold ReadPost
    rw [HW0.out]
    exact ⟨rfl, B2⟩
  · have d1 : decide (off < 0) = false := by simpa using h1
    have h2 : sz < 0 := by omega
    have d2 : decide (sz < 0) = true := by simpa using h2
    clear hn
    go_enter Try.func21, Try.ntmps21
    go_wp2_with fail
    refine CG.out.mono ?_
    rintro e w1 ⟨rfl, hb1⟩
    have B1 := Lib.hid hb1
    have hz1 := B1.out.size
    clear hb1 CG
    go_wp2_with (refine store_blk 45 (.tmp 10) (.tmp 20) w1.heap.size 45 (inoC (List.replicate 12 0)) (inoC l) rfl rfl rfl rfl (Blk.new w1 _ _) (by rw [HZ.out]; rfl) HI.out (inoC_one _) ?_; intro w2 hr2 hg2)
    have B2 : Below w.heap.size w w2 := (B1.out.alloc hz1 _).grown hg2 (by simp; omega) (fun k e => by cases e; exact hz1)
    go_ret2
    unfold ReadPost
    rw [HW0.out]
    exact ⟨rfl, B2⟩
theorem rread_any (A : Option Addr) (c : Nat) (xs : List ByteArray) (n off sz : Int) (w : World) (hx : xs.length ≤ 1000000) (h : RowAt w w.heap.size A (xs.map .string)) :
    Calls Try.prog 21 #[.slice A xs.length c, .int .i64 n, .int .i64 off, .int .i64 sz] w (ReadPost (readO xs n off sz) w) := by
  by_cases h0 : inoE xs n = 0
  · by_cases hn : off < 0 ∨ sz < 0
    · exact rread_neg A c xs n off sz w hx h h0 hn
    · obtain ⟨o, rfl⟩ := Int.eq_ofNat_of_zero_le (show 0 ≤ off by omega)
      obtain ⟨z, rfl⟩ := Int.eq_ofNat_of_zero_le (show 0 ≤ sz by omega)
      exact rread_ok A c xs n o z w hx h h0
  · exact rread_none A c xs n off sz w hx h h0
end Go.Proofs.Ytjmafegckfijbaa
