/-
  What extent.Cut does.
-/
import Derived.Test.YtoanladhikdcaaaExtS
namespace Go.Proofs.Ytoanladhikdcaaa
open Go.RowKit
set_option linter.unusedVariables false
set_option linter.unusedSimpArgs false
set_option maxRecDepth 100000
set_option maxHeartbeats 8000000 in
theorem cut_neg (A : Option Addr) (c : Nat) (xs : List ByteArray) (n size : Int) (w : World) (hx : xs.length ≤ 1000000) (h : RowAt w w.heap.size A (xs.map .string)) (h0 : inoE xs n = 0) (hneg : size < 0) :
    Calls Try.prog 46 #[.slice A xs.length c, .int .i64 n, .int .i64 size] w (RowCode (cutO xs n size).1 (cutO xs n size).2 w) := by
  have CO := Lib.hid (opened_any A c xs n w hx h)
  unfold OpenPost at CO
  simp only [if_pos h0] at CO
  obtain ⟨m, k, hv, rfl, hk1, hk2, hk3⟩ := inoE_ok h0
  have hvl := hv.len
  have HO : Hid (∀ g w2 gv c, w.heap.size ≤ g → Blk w2 g 83 (fileC (.slice (some ⟨gv, 0, none⟩) xs.length c) xs.length (mO xs) (k : Int).toNat (getR xs (k : Int))) → w2.ownsRow w.heap.size 9 1 (.slice (some ⟨gv, 0, none⟩) xs.length c) xs.length (xs.map .string) → FileX w.heap.size w2 g m k xs (getR xs (k : Int))) := fun g w2 gv c a b c' => OpenPost.file (w' := w) hv hk1 hk2 a b c'
  have HLL : Hid (∀ sl, (fileC sl xs.length (mO xs) (k : Int).toNat (getR xs (k : Int))).size = 20) := fun sl => fileC_size _ _ _ _ _ (getR_len _ _)
  have HOK : Hid (OkS xs.length m (xs, getR xs (k : Int))) := ⟨hv, rfl, by rw [getR_vol hv hk1 hk2]; exact inoR_fit _ _⟩
  have HPS : Hid (putV xs k (getR xs (k : Int)) = xs) := by show _ = _; rw [getR_vol hv hk1 hk2]; exact putV_self hv hk1 hk2
  have HW0 : Hid (cutO xs (k : Int) size = if size < 0 then (([], 1) : List ByteArray × Int) else if 8960 < size then ([], 6)
    else (putV (cutG noK xs m (getR xs k) size.toNat).1 k (cutG noK xs m (getR xs k) size.toNat).2, 0)) := by
    show _ = _
    unfold cutO
    rw [if_neg (by rw [h0]; simp), mO_vol hv, Int.toNat_natCast]
  clear h0 hk3 hv
  rw [if_pos hneg] at HW0
  go_enter Try.func46, Try.ntmps46
  go_wp2_with fail
  refine CO.out.mono ?_
  rintro e w1 ⟨hb1, gv, cv, rfl, ho⟩
  have B1 := Lib.hid hb1
  have O1 := Lib.hid ho
  have hz1 := hb1.size
  clear hb1 ho CO
  go_wp2_with (refine store_blk 83 (.tmp 8) (.tmp 17) w1.heap.size 83 fileZ (fileC (.slice (some ⟨gv, 0, none⟩) xs.length cv) xs.length (mO xs) (k : Int).toNat (getR xs (k : Int))) rfl rfl rfl rfl (Blk.new w1 _ _) (by rw [HLL.out]; rfl) (by rw [HLL.out]; kernel_rfl) (fileC_one _ _ _ _ _ _ _) ?_; intro w2 hr2 hg2)
  have FX : Hid (FileX w.heap.size w2 w1.heap.size m k xs (getR xs (k : Int))) := HO.out _ _ gv cv hz1 hr2 (by
    refine (O1.out.alloc _).kept hg2 (.inr ?_)
    have := own_ne (O1.out.alloc _) (Blk.new w1 83 fileZ) (by decide)
    intro e; exact this e.symm)
  have BW : Hid (Below w.heap.size w w2) := (B1.out.alloc hz1 _).grown hg2 (by simp; omega) (fun k e => by cases e; exact hz1)
  go_ret2
  rw [HW0.out]
  exact ⟨⟨_, rfl, own_nil _ _⟩, BW.out⟩
set_option maxHeartbeats 8000000 in
theorem cut_big (A : Option Addr) (c : Nat) (xs : List ByteArray) (n size : Int) (w : World) (hx : xs.length ≤ 1000000) (h : RowAt w w.heap.size A (xs.map .string)) (h0 : inoE xs n = 0) (hneg : ¬ size < 0) (hbig : 8960 < size) :
    Calls Try.prog 46 #[.slice A xs.length c, .int .i64 n, .int .i64 size] w (RowCode (cutO xs n size).1 (cutO xs n size).2 w) := by
  have CO := Lib.hid (opened_any A c xs n w hx h)
  unfold OpenPost at CO
  simp only [if_pos h0] at CO
  obtain ⟨m, k, hv, rfl, hk1, hk2, hk3⟩ := inoE_ok h0
  have hvl := hv.len
  have HO : Hid (∀ g w2 gv c, w.heap.size ≤ g → Blk w2 g 83 (fileC (.slice (some ⟨gv, 0, none⟩) xs.length c) xs.length (mO xs) (k : Int).toNat (getR xs (k : Int))) → w2.ownsRow w.heap.size 9 1 (.slice (some ⟨gv, 0, none⟩) xs.length c) xs.length (xs.map .string) → FileX w.heap.size w2 g m k xs (getR xs (k : Int))) := fun g w2 gv c a b c' => OpenPost.file (w' := w) hv hk1 hk2 a b c'
  have HLL : Hid (∀ sl, (fileC sl xs.length (mO xs) (k : Int).toNat (getR xs (k : Int))).size = 20) := fun sl => fileC_size _ _ _ _ _ (getR_len _ _)
  have HOK : Hid (OkS xs.length m (xs, getR xs (k : Int))) := ⟨hv, rfl, by rw [getR_vol hv hk1 hk2]; exact inoR_fit _ _⟩
  have HPS : Hid (putV xs k (getR xs (k : Int)) = xs) := by show _ = _; rw [getR_vol hv hk1 hk2]; exact putV_self hv hk1 hk2
  have HW0 : Hid (cutO xs (k : Int) size = if size < 0 then (([], 1) : List ByteArray × Int) else if 8960 < size then ([], 6)
    else (putV (cutG noK xs m (getR xs k) size.toNat).1 k (cutG noK xs m (getR xs k) size.toNat).2, 0)) := by
    show _ = _
    unfold cutO
    rw [if_neg (by rw [h0]; simp), mO_vol hv, Int.toNat_natCast]
  clear h0 hk3 hv
  rw [if_neg hneg, if_pos hbig] at HW0
  go_enter Try.func46, Try.ntmps46
  go_wp2_with fail
  refine CO.out.mono ?_
  rintro e w1 ⟨hb1, gv, cv, rfl, ho⟩
  have B1 := Lib.hid hb1
  have O1 := Lib.hid ho
  have hz1 := hb1.size
  clear hb1 ho CO
  go_wp2_with (refine store_blk 83 (.tmp 8) (.tmp 17) w1.heap.size 83 fileZ (fileC (.slice (some ⟨gv, 0, none⟩) xs.length cv) xs.length (mO xs) (k : Int).toNat (getR xs (k : Int))) rfl rfl rfl rfl (Blk.new w1 _ _) (by rw [HLL.out]; rfl) (by rw [HLL.out]; kernel_rfl) (fileC_one _ _ _ _ _ _ _) ?_; intro w2 hr2 hg2)
  have FX : Hid (FileX w.heap.size w2 w1.heap.size m k xs (getR xs (k : Int))) := HO.out _ _ gv cv hz1 hr2 (by
    refine (O1.out.alloc _).kept hg2 (.inr ?_)
    have := own_ne (O1.out.alloc _) (Blk.new w1 83 fileZ) (by decide)
    intro e; exact this e.symm)
  have BW : Hid (Below w.heap.size w w2) := (B1.out.alloc hz1 _).grown hg2 (by simp; omega) (fun k e => by cases e; exact hz1)
  go_ret2
  rw [HW0.out]
  exact ⟨⟨_, rfl, own_nil _ _⟩, BW.out⟩
set_option maxHeartbeats 8000000 in
theorem cut_ok (A : Option Addr) (c : Nat) (xs : List ByteArray) (n size : Int) (w : World) (hx : xs.length ≤ 1000000) (h : RowAt w w.heap.size A (xs.map .string)) (h0 : inoE xs n = 0) (hneg : ¬ size < 0) (hbig : ¬ 8960 < size) :
    Calls Try.prog 46 #[.slice A xs.length c, .int .i64 n, .int .i64 size] w (RowCode (cutO xs n size).1 (cutO xs n size).2 w) := by
  have CO := Lib.hid (opened_any A c xs n w hx h)
  unfold OpenPost at CO
  simp only [if_pos h0] at CO
  obtain ⟨m, k, hv, rfl, hk1, hk2, hk3⟩ := inoE_ok h0
  have hvl := hv.len
  have HO : Hid (∀ g w2 gv c, w.heap.size ≤ g → Blk w2 g 83 (fileC (.slice (some ⟨gv, 0, none⟩) xs.length c) xs.length (mO xs) (k : Int).toNat (getR xs (k : Int))) → w2.ownsRow w.heap.size 9 1 (.slice (some ⟨gv, 0, none⟩) xs.length c) xs.length (xs.map .string) → FileX w.heap.size w2 g m k xs (getR xs (k : Int))) := fun g w2 gv c a b c' => OpenPost.file (w' := w) hv hk1 hk2 a b c'
  have HLL : Hid (∀ sl, (fileC sl xs.length (mO xs) (k : Int).toNat (getR xs (k : Int))).size = 20) := fun sl => fileC_size _ _ _ _ _ (getR_len _ _)
  have HOK : Hid (OkS xs.length m (xs, getR xs (k : Int))) := ⟨hv, rfl, by rw [getR_vol hv hk1 hk2]; exact inoR_fit _ _⟩
  have HPS : Hid (putV xs k (getR xs (k : Int)) = xs) := by show _ = _; rw [getR_vol hv hk1 hk2]; exact putV_self hv hk1 hk2
  have HW0 : Hid (cutO xs (k : Int) size = if size < 0 then (([], 1) : List ByteArray × Int) else if 8960 < size then ([], 6)
    else (putV (cutG noK xs m (getR xs k) size.toNat).1 k (cutG noK xs m (getR xs k) size.toNat).2, 0)) := by
    show _ = _
    unfold cutO
    rw [if_neg (by rw [h0]; simp), mO_vol hv, Int.toNat_natCast]
  clear h0 hk3 hv
  obtain ⟨sz, rfl⟩ := Int.eq_ofNat_of_zero_le (show 0 ≤ size by omega)
  rw [if_neg hneg, if_neg hbig, Int.toNat_natCast] at HW0
  have g0 : decide ((sz : Int) < 0) = false := by simp
  have g1 : ¬ 8960 < (sz : Int) := hbig
  have HPUT : Hid (cutO xs (k : Int) (sz : Int) = ((cutG (putK k) xs m (getR xs k) sz).1, 0)) := by
    show _ = _
    rw [HW0.out]
    have := cutG_put hk1 hk2 HOK.out (size := sz) (by omega)
    rw [HPS.out] at this
    rw [this]; rfl
  clear hneg hbig HW0 HPS
  go_enter Try.func46, Try.ntmps46
  go_wp2_with fail
  refine CO.out.mono ?_
  rintro e w1 ⟨hb1, gv, cv, rfl, ho⟩
  have B1 := Lib.hid hb1
  have O1 := Lib.hid ho
  have hz1 := hb1.size
  clear hb1 ho CO
  go_wp2_with (refine store_blk 83 (.tmp 8) (.tmp 17) w1.heap.size 83 fileZ (fileC (.slice (some ⟨gv, 0, none⟩) xs.length cv) xs.length (mO xs) (k : Int).toNat (getR xs (k : Int))) rfl rfl rfl rfl (Blk.new w1 _ _) (by rw [HLL.out]; rfl) (by rw [HLL.out]; kernel_rfl) (fileC_one _ _ _ _ _ _ _) ?_; intro w2 hr2 hg2)
  have FX : Hid (FileX w.heap.size w2 w1.heap.size m k xs (getR xs (k : Int))) := HO.out _ _ gv cv hz1 hr2 (by
    refine (O1.out.alloc _).kept hg2 (.inr ?_)
    have := own_ne (O1.out.alloc _) (Blk.new w1 83 fileZ) (by decide)
    intro e; exact this e.symm)
  have BW : Hid (Below w.heap.size w w2) := (B1.out.alloc hz1 _).grown hg2 (by simp; omega) (fun k e => by cases e; exact hz1)
  have hgg : w.heap.size ≤ w1.heap.size := hz1
  generalize hg : w1.heap.size = g at *
  generalize getR xs (k : Int) = l0 at *
  clear hr2 hg2 HO O1 B1 HLL hg hz1
  have CS := Lib.hid (size_any (B := w.heap.size) (g := g) (m := m) (n := k) (V := xs) (l := l0) w2 FX.out)
  obtain ⟨gv2, c2, hF⟩ := FX.out
  have c11 : w2.cell? ⟨g, 11, none⟩ = some (.int .i64 ((l0.getD 3 0 : Nat) : Int)) := hF.ino 3 (by omega)
  have c11f : w2.frozen? ⟨g, 11, none⟩ = false := hF.blk.frozen _
  have HP : Hid (FileX w.heap.size (w2.setCell ⟨g, 11, none⟩ (.int .i64 (sz : Int))) g m k xs (l0.set 3 sz)) := ⟨gv2, c2, hF.put 3 sz (hF.fit.size (by omega))⟩
  have BP : Hid (Below w.heap.size w (w2.setCell ⟨g, 11, none⟩ (.int .i64 (sz : Int)))) := BW.out.setCell hF.low _
  have HCG : Hid (cutG (putK k) xs m l0 sz = if sz < sizeX l0 then shortG (putK k) m sz (putV xs k (l0.set 3 sz), l0.set 3 sz) else (putV xs k (l0.set 3 sz), l0.set 3 sz)) := rfl
  have hsx := sizeX_le l0
  clear hF FX BW HOK
  generalize l0.set 3 sz = l3 at *
  generalize l0.getD 3 0 = l3v at *
  by_cases hless : sz < sizeX l0
  · rw [if_pos hless] at HCG
    rw [HCG.out] at HPUT
    have n1 : (sz : Int) < (sizeX l0 : Int) := by omega
    have hs : sz < 8960 := by omega
    generalize sizeX l0 = sx at *
    clear HCG hsx
    go_wp2_with fail
    refine CS.out.mono ?_
    rintro e w3 ⟨rfl, rfl⟩
    go_wp2_with fail
    refine (keep_any _ HP.out.base HP.out).mono ?_
    rintro e w4 ⟨rfl, hf, hb4⟩
    have H4 := Lib.hid hf
    have B4 := Lib.hid (BP.out.trans hb4)
    clear hf hb4 HP BP
    go_wp2_with fail
    refine (shorten_any sz w4 hs H4.out).mono ?_
    rintro e w5 ⟨rfl, hf, hb5⟩
    obtain ⟨gv3, c3, hF3⟩ := hf
    have HF3 := Lib.hid hF3
    have B5 := Lib.hid (B4.out.trans hb5)
    have c0 := hF3.c0
    clear hb5 hF3 H4 B4 c11 c11f
    go_wp2
    go_ret2
    rw [HPUT.out]
    exact ⟨⟨_, rfl, HF3.out.own⟩, B5.out⟩
  · rw [if_neg hless] at HCG
    rw [HCG.out] at HPUT
    have n1 : ¬ (sz : Int) < (sizeX l0 : Int) := by omega
    generalize sizeX l0 = sx at *
    clear HCG hsx
    go_wp2_with fail
    refine CS.out.mono ?_
    rintro e w3 ⟨rfl, rfl⟩
    go_wp2_with fail
    refine (keep_any _ HP.out.base HP.out).mono ?_
    rintro e w4 ⟨rfl, hf, hb4⟩
    have H4 := Lib.hid hf
    have B4 := Lib.hid (BP.out.trans hb4)
    clear hf hb4 HP BP
    obtain ⟨gv3, c3, hF3⟩ := H4.out
    have HF3 := Lib.hid hF3
    have c0 := hF3.c0
    clear hF3 c11 c11f
    go_wp2
    go_ret2
    rw [HPUT.out]
    exact ⟨⟨_, rfl, HF3.out.own⟩, B4.out⟩
set_option maxHeartbeats 8000000 in
theorem cut_none (A : Option Addr) (c : Nat) (xs : List ByteArray) (n size : Int) (w : World) (hx : xs.length ≤ 1000000) (h : RowAt w w.heap.size A (xs.map .string)) (h0 : ¬ inoE xs n = 0) :
    Calls Try.prog 46 #[.slice A xs.length c, .int .i64 n, .int .i64 size] w (RowCode (cutO xs n size).1 (cutO xs n size).2 w) := by
  have CO := Lib.hid (opened_any A c xs n w hx h)
  unfold OpenPost at CO
  simp only [if_neg h0] at CO
  have HW0 : Hid (cutO xs n size = ([], inoE xs n)) := by show _ = _; unfold cutO; rw [if_pos h0]
  have hn0 : (inoE xs n != 0) = true := by simpa using h0
  generalize inoE xs n = ie at *
  clear h0
  go_enter Try.func46, Try.ntmps46
  go_wp2_with fail
  refine CO.out.mono ?_
  rintro e w1 ⟨hb1, rfl⟩
  have B1 := Lib.hid hb1
  have hz1 := hb1.size
  clear hb1 CO
  go_wp2_with (refine store_blk 83 (.tmp 8) (.tmp 17) w1.heap.size 83 fileZ fileZ rfl rfl rfl rfl (Blk.new w1 _ _) rfl (by kernel_rfl) fileZ_one ?_; intro w2 hr2 hg2)
  have BW : Hid (Below w.heap.size w w2) := (B1.out.alloc hz1 _).grown hg2 (by simp; omega) (fun k e => by cases e; exact hz1)
  go_ret2
  rw [HW0.out]
  exact ⟨⟨_, rfl, own_nil _ _⟩, BW.out⟩
theorem cut_any (A : Option Addr) (c : Nat) (xs : List ByteArray) (n size : Int) (w : World) (hx : xs.length ≤ 1000000) (h : RowAt w w.heap.size A (xs.map .string)) :
    Calls Try.prog 46 #[.slice A xs.length c, .int .i64 n, .int .i64 size] w (RowCode (cutO xs n size).1 (cutO xs n size).2 w) := by
  by_cases h0 : inoE xs n = 0
  · by_cases hneg : size < 0
    · exact cut_neg A c xs n size w hx h h0 hneg
    · by_cases hbig : 8960 < size
      · exact cut_big A c xs n size w hx h h0 hneg hbig
      · exact cut_ok A c xs n size w hx h h0 hneg hbig
  · exact cut_none A c xs n size w hx h h0
end Go.Proofs.Ytoanladhikdcaaa
