/-
  Joined in one text: RWriPl, RWri, RWriAny.
-/
import Derived.Test.YtoanladhikdcaaaGreatRPliD
import Derived.Test.YtoanladhikdcaaaGreatRPutD
import Derived.Test.YtoanladhikdcaaaGreatBytesRow
import Derived.Test.YtoanladhikdcaaaGreatExtW
import Derived.BigQuiet
import Derived.RegionTactic
import Derived.BigRegion
namespace Go.Proofs.YtoanladhikdcaaaGreat
open Go.RowKit
set_option linter.unusedVariables false
set_option linter.unusedSimpArgs false
section
variable {o k i : Nat} {d s : List UInt8}
/-- the block's bytes behind so many rounds -/
def wrB (o k : Nat) (d s : List UInt8) (i : Nat) : List UInt8 := (List.range s.length).map fun p => if p < i ∧ o ≤ 128 * k + p ∧ 128 * k + p < o + d.length then d.getD (128 * k + p - o) 0 else s.getD p 0
theorem wrB_len : (wrB o k d s i).length = s.length := by unfold wrB; simp
theorem wrB_get (j : Nat) : (wrB o k d s i)[j]? = if j < s.length then some (if j < i ∧ o ≤ 128 * k + j ∧ 128 * k + j < o + d.length then d.getD (128 * k + j - o) 0 else s.getD j 0) else none := by
  unfold wrB
  by_cases h : j < s.length
  · rw [if_pos h, List.getElem?_map, List.getElem?_range h]; rfl
  · rw [if_neg h, List.getElem?_eq_none (by simpa using h)]
theorem wrB_zero : wrB o k d s 0 = s := by
  apply List.ext_getElem?
  intro j
  rw [wrB_get]
  by_cases h : j < s.length
  · rw [if_pos h, if_neg (by omega), List.getD_eq_getElem?_getD, List.getElem?_eq_getElem h]; rfl
  · rw [if_neg h, List.getElem?_eq_none (by omega)]
theorem wrB_skip (h : ¬ (o ≤ 128 * k + i ∧ 128 * k + i < o + d.length)) : wrB o k d s (i + 1) = wrB o k d s i := by
  apply List.ext_getElem?
  intro j
  rw [wrB_get, wrB_get]
  by_cases e : j = i
  · subst e
    rw [if_neg (show ¬ (j < j + 1 ∧ o ≤ 128 * k + j ∧ 128 * k + j < o + d.length) from fun g => h g.2), if_neg (show ¬ (j < j ∧ o ≤ 128 * k + j ∧ 128 * k + j < o + d.length) from fun g => h g.2)]
  · have : (j < i + 1 ∧ o ≤ 128 * k + j ∧ 128 * k + j < o + d.length) ↔ (j < i ∧ o ≤ 128 * k + j ∧ 128 * k + j < o + d.length) := by omega
    simp only [this]
theorem wrB_end (hs : s.length = 128) (hk : o / 128 ≤ k) : wrB o k d s 128 = s.take (o - 128 * k) ++ (d.drop (128 * k - o)).take (128 - (o - 128 * k)) ++ s.drop (o - 128 * k + ((d.drop (128 * k - o)).take (128 - (o - 128 * k))).length) := by
  have hl : ((d.drop (128 * k - o)).take (128 - (o - 128 * k))).length = min (128 - (o - 128 * k)) (d.length - (128 * k - o)) := by rw [List.length_take, List.length_drop]
  have h1 : (s.take (o - 128 * k)).length = o - 128 * k := by rw [List.length_take]; omega
  have h2 : (s.take (o - 128 * k) ++ (d.drop (128 * k - o)).take (128 - (o - 128 * k))).length = o - 128 * k + min (128 - (o - 128 * k)) (d.length - (128 * k - o)) := by rw [List.length_append, h1, hl]
  apply List.ext_getElem?
  intro j
  rw [wrB_get, hs, hl]
  by_cases hj : j < 128
  · rw [if_pos hj]
    by_cases c1 : j < o - 128 * k
    · rw [if_neg (by omega), List.getElem?_append_left (by omega), List.getElem?_append_left (by omega), List.getElem?_take, if_pos c1, List.getD_eq_getElem?_getD, List.getElem?_eq_getElem (by omega)]; rfl
    · by_cases c2 : j < o - 128 * k + min (128 - (o - 128 * k)) (d.length - (128 * k - o))
      · rw [if_pos (by omega), List.getElem?_append_left (by omega), List.getElem?_append_right (by omega), h1, List.getElem?_take, if_pos (by omega), List.getElem?_drop, List.getD_eq_getElem?_getD, show 128 * k - o + (j - (o - 128 * k)) = 128 * k + j - o by omega, List.getElem?_eq_getElem (by omega)]; rfl
      · rw [if_neg (by omega), List.getElem?_append_right (by omega), h2, List.getElem?_drop, show o - 128 * k + min (128 - (o - 128 * k)) (d.length - (128 * k - o)) + (j - (o - 128 * k + min (128 - (o - 128 * k)) (d.length - (128 * k - o)))) = j by omega, List.getD_eq_getElem?_getD, List.getElem?_eq_getElem (by omega)]; rfl
  · rw [if_neg hj, List.getElem?_append_right (by omega), h2, List.getElem?_drop, List.getElem?_eq_none (by omega)]
theorem wrB_set {w : World} {B g cap : Nat} (h : BytesRow w B g cap (wrB o k d s i)) (hs : s.length = 128) (hi : i < 128) (hin : o ≤ 128 * k + i ∧ 128 * k + i < o + d.length) : BytesRow (w.setCell ⟨g, i, none⟩ (.int .u8 (((d.getD (128 * k + i - o) 0).toNat : Nat) : Int))) B g cap (wrB o k d s (i + 1)) := by
  have hle := h.le
  rw [wrB_len, hs] at hle
  refine h.set i [d.getD (128 * k + i - o) 0] (by simp; omega) (by rw [wrB_len, hs]; exact hle) (fun j u hu => ?_)
  rw [wrB_get, hs] at hu
  have hj : j < 128 := by
    by_cases hj : j < 128
    · exact hj
    · rw [if_neg hj] at hu; cases hu
  rw [if_pos hj] at hu
  by_cases e : j = i
  · subst e
    rw [if_pos ⟨by omega, hin⟩] at hu
    rw [if_pos (by simp), Nat.sub_self]
    simpa using hu
  · rw [if_neg (by simp; omega), wrB_get, hs, if_pos hj]
    have : (j < i + 1 ∧ o ≤ 128 * k + j ∧ 128 * k + j < o + d.length) ↔ (j < i ∧ o ≤ 128 * k + j ∧ 128 * k + j < o + d.length) := by omega
    simp only [this] at hu
    exact hu
end
/-- Put, of an inode's numbers -/
theorem rput_nat (A : Option Addr) (c : Nat) (xs : List ByteArray) (m n : Nat) (l : List Nat) (w : World) (hv : IsVol xs m) (h1 : 1 ≤ n) (h2 : n ≤ m) (hl : FitN l) (h : RowAt w w.heap.size A (xs.map .string)) :
    Calls Tryz.prog 47 #[.slice A xs.length c, .int .i64 (n : Int), .agg (inoC l)] w (RowCode (putV xs n l) 0 w) := by
  have hlen := hv.len
  have e : intC (l.map (fun k : Nat => (k : Int))) = inoC l := by unfold inoC intC; rw [List.map_map]; rfl
  have := rput_ino A c xs (n : Int) (l.map (fun k : Nat => (k : Int))) w (by omega) h (by rw [List.length_map]; exact hl.1) (fun z hz => by
    obtain ⟨k, hk, rfl⟩ := List.mem_map.1 hz
    obtain ⟨i, hi, rfl⟩ := List.mem_iff_getElem.1 hk
    have := fit_lt hl i
    rw [List.getD_eq_getElem?_getD, List.getElem?_eq_getElem hi] at this
    have h3 : l[i] < 4294967296 := this
    omega)
  rw [e, putO_ok hv h1 h2 hl] at this
  exact this
/-- rows and a code, the rows told by reading -/
def RRow (rows : List ByteArray) (code : Int) (w : World) (e : Ending) (w' : World) : Prop := (∃ A c, e = .returned (.tuple #[.slice A rows.length c, .int .i64 code]) ∧ RowAt w' w'.heap.size A (rows.map .string)) ∧ Below w.heap.size w w'
theorem RRow.nil {w w' : World} {g c : Nat} {code : Int} (h : Below w.heap.size w w') : RRow [] code w (.returned (.tuple #[.slice (some ⟨g, 0, none⟩) 0 c, .int .i64 code])) w' := ⟨⟨_, c, rfl, RowAt.nil⟩, h⟩
end Go.Proofs.YtoanladhikdcaaaGreat

namespace Go.Proofs.YtoanladhikdcaaaGreat
open Go.RowKit
set_option linter.unusedVariables false
set_option linter.unusedSimpArgs false
set_option maxRecDepth 100000
/-- what the region of with yields -/
def wriS (B g13 : Nat) (A1 : Option Addr) (n c1 b : Nat) (v14 : Value) (t : ByteArray) (zs : List ByteArray) (L : List Nat) (i : Nat) (v : Value) (w : World) : Prop :=
  match i with
  | 0 => v = .pointer (some ⟨g13, 0, none⟩)
  | 1 => v = .slice A1 n c1
  | 2 => v = .pointer (some ⟨g13, 13, none⟩)
  | 3 => v = .int .i64 (b : Int)
  | 4 => v = v14
  | 5 => v = .string t
  | 6 => w.ownsRow B 9 1 v zs.length (zs.map .string)
  | 7 => v = .pointer (some ⟨g13, 1, none⟩)
  | 8 => v = .agg (inoC L)
  | 9 => w.ownsRow B 9 1 v zs.length (zs.map .string)
  | _ => True
theorem wriS_mono (B g13 : Nat) (A1 : Option Addr) (n c1 b : Nat) (v14 : Value) (t : ByteArray) (zs : List ByteArray) (L : List Nat) (i : Nat) (v : Value) (w w' : World) (h : wriS B g13 A1 n c1 b v14 t zs L i v w) (hb : Below w.heap.size w w') : wriS B g13 A1 n c1 b v14 t zs L i v w' := by
  unfold wriS at h ⊢
  split at h <;> first
    | exact h
    | exact own_below h hb
    | trivial
set_option maxHeartbeats 8000000 in
theorem rwrite_main (A : Option Addr) (c : Nat) (xs : List ByteArray) (m nn o : Nat) (d : ByteArray) (w : World) (hv : IsVol xs m) (h1 : 1 ≤ nn) (h2 : nn ≤ m) (hsum : o + d.size ≤ 8960) (hd0 : 0 < d.size) (h : RowAt w w.heap.size A (xs.map .string)) :
    Calls Tryz.prog 21 #[.slice A xs.length c, .int .i64 (nn : Int), .int .i64 (o : Int), .string d] w (RRow (writeO xs (nn : Int) (o : Int) d.data.toList).1 (writeO xs (nn : Int) (o : Int) d.data.toList).2 w) := by
  have hlen0 := hv.len
  have hls : d.data.toList.length = d.size := by rw [Array.length_toList]; rfl
  have hne0 : ¬ d.data.toList = [] := fun e => by rw [e] at hls; simp at hls; omega
  have hino := inoE_zero hv h1 h2
  have HW : Hid (writeO xs (nn : Int) (o : Int) d.data.toList = match (wriN noK m o d.data.toList (xs, getR xs (nn : Int)) (fallN o d.size)).map (growG noK (o + d.size)) with | none => (([], 10) : List ByteArray × Int) | some s => (putV s.1 nn s.2, 0)) := by
    show _ = _
    unfold writeO
    rw [hino, if_neg (by simp), if_neg (by omega), if_neg (by rw [hls]; omega), mO_vol hv, Int.toNat_natCast]
    unfold wriG
    rw [if_neg hne0, hls]
    cases wriN noK m o d.data.toList (xs, getR xs (nn : Int)) (fallN o d.size) <;> rfl
  have hfit0 : FitN (getR xs (nn : Int)) := getR_fit hv h1 h2
  have CG := Lib.hid (rget_ino A c xs (nn : Int) w (by omega) h)
  rw [hino] at CG
  have HR := Lib.hid h
  have HV0 := Lib.hid hv
  obtain ⟨l, hl⟩ : ∃ l, getR xs (nn : Int) = l := ⟨_, rfl⟩
  rw [hl] at HW hfit0 CG
  have HOK0 : Hid (OkS xs.length m (xs, l)) := ⟨hv, rfl, hfit0⟩
  obtain ⟨q1, hq1⟩ : ∃ q1, o / 128 = q1 := ⟨_, rfl⟩
  obtain ⟨n2, hn2⟩ : ∃ n2, o + d.size - 1 = n2 := ⟨_, rfl⟩
  obtain ⟨q2, hq2⟩ : ∃ q2, n2 / 128 = q2 := ⟨_, rfl⟩
  obtain ⟨J, hJ⟩ : ∃ J, fallN o d.size = J := ⟨_, rfl⟩
  have hJ2 : J = q2 + 1 - q1 := by rw [← hJ]; unfold fallN; rw [if_neg (by omega), hn2, hq2, hq1]
  rw [hJ] at HW
  have e1 : (o : Int).tdiv 128 = (q1 : Int) := by rw [← hq1]; rfl
  have e2 : IntKind.i64.wrap (q1 : Int) = (q1 : Int) := IntWalk.i64_in _ (by omega)
  have e3 : (o : Int) / 128 = (q1 : Int) := by omega
  have e4 : IntKind.i64.wrap ((o : Int) + (d.size : Int)) = (o : Int) + (d.size : Int) := IntWalk.i64_in _ (by omega)
  have e5 : IntKind.i64.wrap ((o : Int) + (d.size : Int) - 1) = (n2 : Int) := by
    have : IntKind.i64.wrap ((o : Int) + (d.size : Int) - 1) = (o : Int) + (d.size : Int) - 1 := IntWalk.i64_in _ (by omega)
    rw [this]; omega
  have e6 : (n2 : Int).tdiv 128 = (q2 : Int) := by rw [← hq2]; rfl
  have e7 : IntKind.i64.wrap (q2 : Int) = (q2 : Int) := IntWalk.i64_in _ (by omega)
  have e8 : (n2 : Int) / 128 = (q2 : Int) := by omega
  have hq70 : q2 < 70 := by omega
  have hq12 : q1 ≤ q2 := by omega
  have ho1 : ¬ ((o : Int) < 0) := by omega
  have ho2 : ¬ ((8960 : Int) < (o : Int)) := by omega
  have ho3 : ¬ ((8960 : Int) < (o : Int) + (d.size : Int)) := by omega
  have hde : d ≠ ⟨#[]⟩ := fun e => by rw [e] at hd0; exact absurd hd0 (by decide)
  have hde2 : (d.toList == (⟨#[]⟩ : ByteArray).toList) = false := by simpa using str_ne hde
  have hde4 : d.toList.isEmpty = false := by
    cases hh : d.toList with
    | nil =>
      rw [hh] at hde2
      have h0 : (⟨#[]⟩ : ByteArray).toList = [] := by kernel_rfl
      rw [h0] at hde2
      exact absurd hde2 (by decide)
    | cons a t => rfl
  clear hde hde2
  have HIZ : Hid ((inoC l).size = 12) := by show _ = _; rw [inoC_size, hfit0.1]
  have HI := Lib.hid (ino_info12 hfit0.1)
  have HLS := Lib.hid hls
  have HQ1 := Lib.hid hq1
  clear h hv hl hino hne0 hls hJ hq1 hq2 hn2 hfit0
  go_enter Tryz.func21, Tryz.ntmps21
  go_wp2_with fail
  refine CG.out.mono ?_
  rintro e w1 ⟨rfl, hb1⟩
  have B1 := Lib.hid hb1
  clear hb1 CG
  go_wp2_with (refine store_blk 35 (.tmp 10) (.tmp 21) w1.heap.size 35 (inoC (List.replicate 12 0)) (inoC l) rfl rfl rfl rfl (Blk.new w1 _ _) (by rw [HIZ.out]; rfl) HI.out (inoC_one _) ?_; intro w2 hr2 hg2)
  have b12 : Below w1.heap.size w1 w2 := ((Below.refl _ _).alloc (Nat.le_refl _) _).grown hg2 (by simp) (fun k e => by cases e; exact Nat.le_refl _)
  have BX := Lib.hid hr2
  have BB := Lib.hid (B1.out.trans (b12.mono B1.out.size))
  have RX := Lib.hid (RowOff.of_low (g := w1.heap.size) ((HR.out.below BB.out)) BB.out.size B1.out.size)
  have hgx : w.heap.size ≤ w1.heap.size := B1.out.size
  have HGX := Lib.hid hgx
  clear hr2 hg2 b12 B1 HR HIZ HI hgx
  generalize w1.heap.size = gx at *
  have HS0 : Hid (wriN noK m o d.data.toList (xs, l) 0 = some (xs, l)) := rfl
  go_loopw [0, 12] (fun v i wr => ∃ (j : Nat) (V : List ByteArray) (L : List Nat) (A' : Option Addr) (c' : Nat), j ≤ J ∧ i = .int .i64 ((q1 + j : Nat) : Int) ∧ v = .slice A' xs.length c' ∧ Hid (wriN noK m o d.data.toList (xs, l) j = some (V, L)) ∧ Hid (RowOff wr gx A' (V.map .string)) ∧ Hid (Blk wr gx 35 (inoC L)) ∧ Hid (Below w.heap.size w wr)) (fun _ i _ => q2 + 1 - (intOf i).toNat)
  case atStart => exact ⟨0, xs, l, A, c, Nat.zero_le _, rfl, rfl, HS0, RX, BX, BB⟩
  case round =>
    clear RX BX BB HS0
    obtain ⟨j, V, L, A', c', hj, rfl, rfl, HS, RX, BX, BB⟩ := hrel
    have hok := wriN_ok (noK_ok m) HOK0.out j (by rw [HQ1.out]; omega) HS.out
    have HVL : Hid (V.length = xs.length) := hok.len
    have HVV : Hid (IsVol V m) := hok.vol
    have HFL : Hid (FitN L) := hok.fit
    have HIL := Lib.hid (ino_info12 hok.fit.1)
    clear hok
    by_cases hlt : j < J
    · obtain ⟨k, hk⟩ : ∃ k, q1 + j = k := ⟨_, rfl⟩
      have hk70 : k < 70 := by omega
      have hkq : (k : Int) ≤ (q2 : Int) := by omega
      have HK := Lib.hid hk
      have HWK : Hid (wriN noK m o d.data.toList (xs, l) (j + 1) = wriK noK m o d.data.toList k (V, L)) := by show _ = _; rw [wriN, HS.out, Option.bind_some, HQ1.out, HK.out]
      have CPL := Lib.hid (fun w hr => rplace_any A' c' V m k L w HVV.out HFL.out hk70 hr)
      rw [HVL.out] at CPL
      have HRO := Lib.hid RX.out
      have RR : Hid (RowAt wr wr.heap.size A' (V.map .string)) := by
        rcases RX.out with h | ⟨b, o, hA, hl, _, hc⟩
        · exact .inl h
        · exact .inr ⟨b, o, hA, hl, hc⟩
      have HGL : Hid (gx < wr.heap.size) := BX.out.lt
      rw [hk]
      clear hk
      go_wp2_with (refine load_blk 35 (.tmp 10) gx 35 (inoC L) _ rfl rfl rfl BX.out Tryz.underlying35 rfl HIL.out ?_; go_frame)
      refine (CPL.out _ RR.out).mono ?_
      rintro e w4 ⟨hb4, hpl⟩
      cases hp : plaG noK V m L k with
      | none =>
        rw [hp] at hpl
        replace hpl : e = .returned (.agg (plcC (.slice none 0 0) (List.replicate 12 0) 0 10)) := hpl
        subst hpl
        have HNO : Hid (writeO xs (nn : Int) (o : Int) d.data.toList = ([], 10)) := by
          have hn : wriN noK m o d.data.toList (xs, l) (j + 1) = none := by rw [HWK.out]; unfold wriK; dsimp only; rw [hp]; rfl
          have h1 := wriN_none hn (J - (j + 1))
          rw [show j + 1 + (J - (j + 1)) = J by omega] at h1
          show _ = _
          rw [HW.out, h1]; rfl
        obtain ⟨C, hC⟩ : ∃ C, plcC (.slice none 0 0) (List.replicate 12 0) 0 10 = C := ⟨_, rfl⟩
        have hCS : C.size = 15 := by rw [← hC]; rfl
        have HCS := Lib.hid hCS
        have HCI : Hid ((Tryz.prog.info? 85).map (·.size) = some C.size) := by show _ = _; rw [hCS]; kernel_rfl
        have HC1 : Hid (∀ v ∈ C, v.oneCell' = true) := by rw [← hC]; exact plcC_one _ _ _ _ rfl
        have HC14 : Hid (C[14]? = some (.int .i64 10)) := by show _ = _; rw [← hC]; rfl
        have B4 := Lib.hid (BB.out.trans (hb4.mono BB.out.size))
        rw [hC]
        clear hp hC hCS hb4 HWK HW RX BX BB
        go_wp2_with (refine store_blk 85 (.tmp 13) (.tmp 58) w4.heap.size 85 _ C rfl rfl rfl rfl (Blk.new w4 _ _) (by rw [HCS.out]; rfl) HCI.out HC1.out ?_; intro w5 hr5 hg5; have k14 := hr5.cell 14 HC14.out)
        have B5 := Lib.hid ((B4.out.alloc B4.out.size _).grown hg5 (by have := B4.out.size; simp; omega) (fun k e => by cases e; exact B4.out.size))
        have k14a := (hr5.alloc (.cells #[] 9)).cell 14 HC14.out
        clear B4 hr5 hg5
        go_region
        generalize hwx : World.drew _ = wx
        have B6 : Hid (Below w.heap.size w wx) := by rw [← hwx]; exact (B5.out.drew.alloc B5.out.size _)
        go_wp2
        go_ret2
        rw [HNO.out]
        exact RRow.nil B6.out
      | some r =>
        rw [hp] at hpl
        obtain ⟨A1, c1, he, hr1, hoff1⟩ := hpl
        subst he
        obtain ⟨⟨V1, L1⟩, b⟩ := r
        dsimp only at *
        obtain ⟨hok1, hbd⟩ := plaG_ok (noK_ok m) (⟨HVV.out, HVL.out, HFL.out⟩ : OkS xs.length m (V, L)) hk70 hp
        have HV1 : Hid (IsVol V1 m) := hok1.vol
        have HV1L : Hid (V1.length = xs.length) := hok1.len
        have HF1 : Hid (FitN L1) := hok1.fit
        have hL12 := hok1.fit.1
        have hbl := (datB_iff.1 hbd).2
        have hbx : b < xs.length := by rw [← HVL.out]; exact hbl
        have hb1l : b < V1.length := by rw [HV1L.out]; exact hbx
        obtain ⟨s, hs⟩ : ∃ s, V1[b] = s := ⟨_, rfl⟩
        have hss : s.size = 128 := by rw [← hs]; exact HV1.out.1 _ (List.getElem_mem hb1l)
        have hsl : s.data.toList.length = 128 := by rw [Array.length_toList]; exact hss
        obtain ⟨C, hC⟩ : ∃ C, plcC (.slice A1 V1.length c1) L1 (b : Int) 0 = C := ⟨_, rfl⟩
        have hCS : C.size = 15 := by rw [← hC]; exact plcC_size _ _ _ hL12
        have HCS := Lib.hid hCS
        have HCI : Hid ((Tryz.prog.info? 85).map (·.size) = some C.size) := by show _ = _; rw [hCS]; kernel_rfl
        have HC1 : Hid (∀ v ∈ C, v.oneCell' = true) := by rw [← hC]; exact plcC_one _ _ _ _ rfl
        have HC0 : Hid (C[0]? = some (.slice A1 xs.length c1)) := by show _ = _; rw [← hC, ← HV1L.out]; exact plcC_0
        have HC13 : Hid (C[13]? = some (.int .i64 (b : Int))) := by show _ = _; rw [← hC]; exact plcC_b hL12
        have HC14 : Hid (C[14]? = some (.int .i64 0)) := by show _ = _; rw [← hC]; exact plcC_e hL12
        have HCL : Hid (∀ i, i < 12 → C[1 + i]? = some (.int .i64 ((L1.getD i 0 : Nat) : Int))) := fun i hi => by rw [← hC]; exact plcC_at hL12 hi
        have RO4 := Lib.hid (hoff1 gx HGL.out RX.out)
        have BX4 := Lib.hid (BX.out.below hb4 HGL.out)
        have B4 := Lib.hid (BB.out.trans (hb4.mono BB.out.size))
        have HB4 := Lib.hid hb4
        have HWS : Hid (wriN noK m o d.data.toList (xs, l) (j + 1) = some (layX V1 b (o - 128 * k) ((d.data.toList.drop (128 * k - o)).take (128 - (o - 128 * k))), L1)) := by show _ = _; rw [HWK.out]; unfold wriK; dsimp only; rw [hp]; rfl
        obtain ⟨bA, oA, hA1, hbA, hneA, hcA⟩ : ∃ b o, A1 = some ⟨b, o, none⟩ ∧ b < w4.heap.size ∧ b ≠ gx ∧ ∀ i v, (V1.map Value.string)[i]? = some v → w4.cell? ⟨b, o + i, none⟩ = some v := by
          rcases RO4.out with h | h
          · exfalso
            have := congrArg List.length h
            have h0 : V1.length = 0 := by simpa using this
            rw [HV1L.out] at h0
            omega
          · exact h
        subst hA1
        have hcb := hcA b (.string s) (by rw [List.getElem?_map, List.getElem?_eq_getElem hb1l, hs]; rfl)
        have HCB := Lib.hid hcb
        have HBA := Lib.hid hbA
        have HSS := Lib.hid hss
        have HSL := Lib.hid hsl
        have HVB := Lib.hid hs
        have KW : Hid (∀ (cs : Array Value) w5, (w4.alloc (.cells cs 85)).grownBy w5 (some w4.heap.size) → Below w4.heap.size w4 w5) := fun cs w5 hg => ((Below.refl _ _).alloc (Nat.le_refl _) _).grown hg (by simp) (fun k e => by cases e; exact Nat.le_refl _)
        have hbn : (0 : Int) ≤ (b : Int) := by omega
        have hbn2 : (b : Int) < (xs.length : Int) := by omega
        rw [hC]
        clear hp hC hCS hb4 hr1 hoff1 hok1 hbd hbl hs hss hsl hcb hbA hneA hcA HWK RX BX BB hL12
        go_wp2_with (refine store_blk 85 (.tmp 13) (.tmp 58) w4.heap.size 85 _ C rfl rfl rfl rfl (Blk.new w4 _ _) (by rw [HCS.out]; rfl) HCI.out HC1.out ?_; intro w5 hr5 hg5; have k14 := hr5.cell 14 HC14.out; have k0 := hr5.cell 0 HC0.out; have k13 := hr5.cell 13 HC13.out; have kb := ((KW.out _ _ hg5).cell (p := ⟨bA, oA + b, none⟩) HBA.out).trans HCB.out; obtain ⟨cap, w6, hcv, hbr, hb6, hsz6⟩ := BytesRow.of_convert (P := Tryz.prog) w5 9 58 5 s Tryz.underlying9 Tryz.underlying58 Tryz.underlying5 (by rw [HSS.out]; decide))
        have hb45 := KW.out _ _ hg5
        have BR6 := Lib.hid hbr
        have HB56 := Lib.hid hb6
        have P5 := Lib.hid hr5
        have RO5 := Lib.hid (RO4.out.below hb45)
        have BX5 := Lib.hid (BX4.out.below hb45 BX4.out.lt)
        have B5 := Lib.hid (B4.out.trans (hb45.mono B4.out.size))
        have H45 : Hid (w4.heap.size < w5.heap.size) := hr5.lt
        rw [HSS.out]
        clear hr5 hg5 k14 k0 k13 kb hcv hbr hb6 hsz6 RO4 BX4 B4 HCB HC14 KW hb45
        go_loopw [15] (fun i wr => ∃ p : Nat, p ≤ 128 ∧ i = .int .i64 (p : Int) ∧ Hid (BytesRow wr w5.heap.size w5.heap.size cap (wrB o k d.data.toList s.data.toList p)) ∧ Hid (Below w5.heap.size w6 wr)) (fun i _ => 128 - (intOf i).toNat)
        case atStart => exact ⟨0, by omega, rfl, by rw [wrB_zero]; exact BR6, Lib.hid (Below.refl _ _)⟩
        case round =>
          clear BR6
          obtain ⟨p, hp, rfl, BR, BP⟩ := hrel
          by_cases hlp : p < 128
          · have i5 : (p : Int) < 128 := by omega
            obtain ⟨a, ha⟩ : ∃ a, 128 * k = a := ⟨_, rfl⟩
            obtain ⟨t, ht⟩ : ∃ t, a + p = t := ⟨_, rfl⟩
            have f1 : IntKind.i64.wrap (128 * (k : Int)) = (a : Int) := by
              have : IntKind.i64.wrap (128 * (k : Int)) = 128 * (k : Int) := IntWalk.i64_in _ (by omega)
              rw [this]; omega
            have f2 : IntKind.i64.wrap ((a : Int) + (p : Int)) = (t : Int) := by
              have : IntKind.i64.wrap ((a : Int) + (p : Int)) = (a : Int) + (p : Int) := IntWalk.i64_in _ (by omega)
              rw [this]; omega
            have hta : 128 * k + p = t := by omega
            by_cases hin : o ≤ t ∧ t < o + d.size
            · obtain ⟨u, hu⟩ : ∃ u, t - o = u := ⟨_, rfl⟩
              have f3 : IntKind.i64.wrap ((t : Int) - (o : Int)) = (u : Int) := by
                have : IntKind.i64.wrap ((t : Int) - (o : Int)) = (t : Int) - (o : Int) := IntWalk.i64_in _ (by omega)
                rw [this]; omega
              have f4 : (0 : Int) ≤ (u : Int) := by omega
              have f5 : (u : Int) < (d.size : Int) := by omega
              have f6 : u < d.size := by omega
              have HBY : Hid (((d.data.toList.getD (128 * k + p - o) 0).toNat : Nat) = d[u].toNat) := by
                show _ = _
                rw [hta, hu, List.getD_eq_getElem?_getD, List.getElem?_eq_getElem (by rw [HLS.out]; exact f6)]
                rfl
              have HIN : Hid (o ≤ 128 * k + p ∧ 128 * k + p < o + d.data.toList.length) := by show _ ∧ _; rw [HLS.out, hta]; exact hin
              have hth := BR.out.there p (by have := BR.out.le; rw [wrB_len, HSL.out] at this; omega)
              obtain ⟨vo, hvo⟩ := Option.isSome_iff_exists.1 hth.1
              have HFZ := Lib.hid hth.2
              have HVO := Lib.hid hvo
              clear ha ht hta hu hin hth hvo
              go_wp2_with (refine store_cell 5 (.tmp 95) (.tmp 94) w5.heap.size p .u8 _ vo rfl rfl rfl rfl (fun w => by kernel_rfl) HVO.out HFZ.out ?_; intro w8 hw8)
              have BR8 : Hid (BytesRow w8 w5.heap.size w5.heap.size cap (wrB o k d.data.toList s.data.toList (p + 1))) := by
                have := wrB_set BR.out HSL.out hlp HIN.out
                rw [HBY.out] at this
                rw [← hw8]; exact this
              have BP8 : Hid (Below w5.heap.size w6 w8) := by rw [← hw8]; exact BP.out.setCell (Nat.le_refl _) _
              clear hw8 BR BP
              go_roundw
              case rel => exact ⟨p + 1, by omega, by go_num, BR8, BP8⟩
              case measure => simp [intOf]; omega
            · have BR8 : Hid (BytesRow wr w5.heap.size w5.heap.size cap (wrB o k d.data.toList s.data.toList (p + 1))) := by
                rw [wrB_skip (by rw [HLS.out, hta]; exact hin)]; exact BR
              by_cases hlo : o ≤ t
              · obtain ⟨u, hu⟩ : ∃ u, t - o = u := ⟨_, rfl⟩
                have f3 : IntKind.i64.wrap ((t : Int) - (o : Int)) = (u : Int) := by
                  have : IntKind.i64.wrap ((t : Int) - (o : Int)) = (t : Int) - (o : Int) := IntWalk.i64_in _ (by omega)
                  rw [this]; omega
                have f4 : (0 : Int) ≤ (u : Int) := by omega
                have f5 : ¬ (u : Int) < (d.size : Int) := by omega
                clear ha ht hta hu hin
                go_wp2
                go_roundw
                case rel => exact ⟨p + 1, by omega, by go_num, BR8, BP⟩
                case measure => simp [intOf]; omega
              · obtain ⟨z, hz⟩ : ∃ z : Int, (t : Int) - (o : Int) = z := ⟨_, rfl⟩
                have f3 : IntKind.i64.wrap ((t : Int) - (o : Int)) = z := by
                  have : IntKind.i64.wrap ((t : Int) - (o : Int)) = (t : Int) - (o : Int) := IntWalk.i64_in _ (by omega)
                  rw [this, hz]
                have f4 : ¬ (0 : Int) ≤ z := by omega
                clear ha ht hta hin hz
                go_wp2
                go_roundw
                case rel => exact ⟨p + 1, by omega, by go_num, BR8, BP⟩
                case measure => simp [intOf]; omega
          · obtain rfl : p = 128 := by omega
            rw [show ((128 : Nat) : Int) = 128 from rfl]
            obtain ⟨t, ht⟩ : ∃ t : ByteArray, (⟨(wrB o k d.data.toList s.data.toList 128).toArray⟩ : ByteArray) = t := ⟨_, rfl⟩
            obtain ⟨zs, hzs⟩ : ∃ zs, layX V1 b (o - 128 * k) ((d.data.toList.drop (128 * k - o)).take (128 - (o - 128 * k))) = zs := ⟨_, rfl⟩
            have hqk : o / 128 ≤ k := by rw [HQ1.out, ← HK.out]; omega
            have HSET : Hid (V1.set b t = zs) := by
              show _ = _
              rw [← hzs]
              unfold layX
              rw [List.getD_eq_getElem?_getD, List.getElem?_eq_getElem hb1l, HVB.out]
              congr 1
              rw [← ht]
              apply WideShapes.bytes_inj
              rw [show (some s).getD ⟨#[]⟩ = s from rfl, layB_list]
              show (wrB o k d.data.toList s.data.toList 128) = _
              exact wrB_end HSL.out hqk
            have HZL : Hid (zs.length = xs.length) := by show _ = _; rw [← hzs]; exact (layX_length _ _ _ _).trans HV1L.out
            have HWT : Hid (wriN noK m o d.data.toList (xs, l) (j + 1) = some (zs, L1)) := by show _ = _; rw [← hzs]; exact HWS.out
            have HTT := Lib.hid ht
            have HWL : Hid ((wrB o k d.data.toList s.data.toList 128).length = 128) := by show _ = _; rw [wrB_len]; exact HSL.out
            have hb46 : Below w5.heap.size w5 wr := HB56.out.trans BP.out
            have P6 := Lib.hid (P5.out.below hb46 P5.out.lt)
            have RO6 := Lib.hid (RO5.out.below hb46)
            have BX6 := Lib.hid (BX5.out.below hb46 BX5.out.lt)
            have B6 := Lib.hid (B5.out.trans (hb46.mono B5.out.size))
            have HRL : Hid ((inoC L1).toList.length = 12) := by show _ = _; rw [Array.length_toList, inoC_size, HF1.out.1]
            have HIN1 := Lib.hid (ino_info12 HF1.out.1)
            have RR6 : Hid (RowAt wr wr.heap.size (some ⟨bA, oA, none⟩) (V1.map .string)) := by
              rcases RO6.out with h | ⟨b, o, hA, hl, _, hc⟩
              · exact .inl h
              · exact .inr ⟨b, o, hA, hl, hc⟩
            clear ht hzs hqk HWS HSL HVB BP HB56 P5 RO5 BX5 B5
            go_wp2
            refine wp_region_inv 10 (wriS wr.heap.size w4.heap.size (some ⟨bA, oA, none⟩) xs.length c1 b (.slice (some ⟨w5.heap.size, 0, none⟩) 128 cap) t zs L1) (by kernel_rfl) (by kernel_rfl) (wriS_mono wr.heap.size w4.heap.size (some ⟨bA, oA, none⟩) xs.length c1 b (.slice (some ⟨w5.heap.size, 0, none⟩) 128 cap) t zs L1) ?_ ?_
            · intro i o' a' w' hi ho hb hag
              have ev : ∀ t', Operand.tmp t' ∈ o'.op.operands → ∀ (j : Nat) (oj : Oper), _ → oj.dst = some t' → wriS wr.heap.size w4.heap.size (some ⟨bA, oA, none⟩) xs.length c1 b (.slice (some ⟨w5.heap.size, 0, none⟩) 128 cap) t zs L1 j (a'.eval (.tmp t')) w' := fun t' ht j oj hj hd => (hag t' ht).1 j oj hj hd
              have eb : ∀ t', Operand.tmp t' ∈ o'.op.operands → _ → a'.eval (.tmp t') = _ := fun t' ht h => (hag t' ht).2 h
              have hP := P6.out.below hb P6.out.lt
              have hc0 := hP.cell 0 HC0.out
              have hc13 := hP.cell 13 HC13.out
              obtain rfl | rfl | rfl | rfl | rfl | rfl | rfl | rfl | rfl | rfl : i = 0 ∨ i = 1 ∨ i = 2 ∨ i = 3 ∨ i = 4 ∨ i = 5 ∨ i = 6 ∨ i = 7 ∨ i = 8 ∨ i = 9 := by omega
              · cases ho
                have e : a'.eval (.tmp 13) = .pointer (some ⟨w4.heap.size, 0, none⟩) := eb 13 (by simp [Op.operands]) (notDst rfl)
                have e' : a'.tmps[13]?.getD undef = .pointer (some ⟨w4.heap.size, 0, none⟩) := by rw [← Array.getD_eq_getD_getElem?]; exact e
                refine step_val (v := .pointer (some ⟨w4.heap.size, 0, none⟩)) (w' := w') ?_ rfl (Below.refl _ _)
                unfold execOp
                simp [go_sem, e']
              · cases ho
                have e : a'.eval (.tmp 96) = .pointer (some ⟨w4.heap.size, 0, none⟩) := ev 96 (by simp [Op.operands, Call.operands]) 0 _ rfl rfl
                have e' : a'.tmps[96]?.getD undef = .pointer (some ⟨w4.heap.size, 0, none⟩) := by rw [← Array.getD_eq_getD_getElem?]; exact e
                refine step_val (v := .slice (some ⟨bA, oA, none⟩) xs.length c1) (w' := w') ?_ rfl (Below.refl _ _)
                unfold execOp
                simp [go_sem, e', hc0]
              · cases ho
                have e : a'.eval (.tmp 13) = .pointer (some ⟨w4.heap.size, 0, none⟩) := eb 13 (by simp [Op.operands]) (notDst rfl)
                have e' : a'.tmps[13]?.getD undef = .pointer (some ⟨w4.heap.size, 0, none⟩) := by rw [← Array.getD_eq_getD_getElem?]; exact e
                refine step_val (v := .pointer (some ⟨w4.heap.size, 13, none⟩)) (w' := w') ?_ rfl (Below.refl _ _)
                unfold execOp
                simp [go_sem, e']
              · cases ho
                have e : a'.eval (.tmp 98) = .pointer (some ⟨w4.heap.size, 13, none⟩) := ev 98 (by simp [Op.operands, Call.operands]) 2 _ rfl rfl
                have e' : a'.tmps[98]?.getD undef = .pointer (some ⟨w4.heap.size, 13, none⟩) := by rw [← Array.getD_eq_getD_getElem?]; exact e
                refine step_val (v := .int .i64 (b : Int)) (w' := w') ?_ rfl (Below.refl _ _)
                unfold execOp
                simp [go_sem, e', hc13]
              · cases ho
                have e : a'.eval (.tmp 14) = .slice (some ⟨w5.heap.size, 0, none⟩) 128 cap := eb 14 (by simp [Op.operands]) (notDst rfl)
                refine step_val (v := .slice (some ⟨w5.heap.size, 0, none⟩) 128 cap) (w' := w') ?_ rfl (Below.refl _ _)
                unfold execOp
                simp only [e, Sem.run_pure]
              · cases ho
                have e : a'.eval (.tmp 100) = .slice (some ⟨w5.heap.size, 0, none⟩) 128 cap := ev 100 (by simp [Op.operands]) 4 _ rfl rfl
                have hcv := BytesRow.back (P := Tryz.prog) (BR.out.below (hb.mono (Nat.le_refl _))) 58 9 5 Tryz.underlying58 Tryz.underlying5 Tryz.underlying9
                rw [HWL.out, HTT.out] at hcv
                refine step_val (v := .string t) (w' := w') ?_ rfl (Below.refl _ _)
                unfold execOp
                simp only [e]
                rw [Sem.run_bind, hcv]
                rfl
              · cases ho
                have e1 : a'.eval (.tmp 97) = .slice (some ⟨bA, oA, none⟩) xs.length c1 := ev 97 (by simp [Op.operands, Call.operands]) 1 _ rfl rfl
                have e1' : a'.tmps[97]?.getD undef = .slice (some ⟨bA, oA, none⟩) xs.length c1 := by rw [← Array.getD_eq_getD_getElem?]; exact e1
                have e2 : a'.eval (.tmp 99) = .int .i64 (b : Int) := ev 99 (by simp [Op.operands, Call.operands]) 3 _ rfl rfl
                have e2' : a'.tmps[99]?.getD undef = .int .i64 (b : Int) := by rw [← Array.getD_eq_getD_getElem?]; exact e2
                have e3 : a'.eval (.tmp 101) = .string t := ev 101 (by simp [Op.operands, Call.operands]) 5 _ rfl rfl
                have e3' : a'.tmps[101]?.getD undef = .string t := by rw [← Array.getD_eq_getD_getElem?]; exact e3
                refine step_call (f := 45) (args := #[.slice (some ⟨bA, oA, none⟩) xs.length c1, .int .i64 (b : Int), .string t]) ?_ ?_
                · unfold execOp
                  simp [go_sem, e1', e2', e3']
                · have := rwith_any (some ⟨bA, oA, none⟩) c1 V1 b t w' hb1l (by rw [HV1L.out]; omega) ((RR6.out.below hb).mono hb.size)
                  rw [HV1L.out] at this
                  refine this.mono ?_
                  rintro e w2 ⟨v, he, hn, hb2⟩
                  rw [HSET.out] at hn
                  exact ⟨v, he, own_low hn hb.size, hb2⟩
              · cases ho
                have e : a'.eval (.tmp 13) = .pointer (some ⟨w4.heap.size, 0, none⟩) := eb 13 (by simp [Op.operands]) (notDst rfl)
                have e' : a'.tmps[13]?.getD undef = .pointer (some ⟨w4.heap.size, 0, none⟩) := by rw [← Array.getD_eq_getD_getElem?]; exact e
                refine step_val (v := .pointer (some ⟨w4.heap.size, 1, none⟩)) (w' := w') ?_ rfl (Below.refl _ _)
                unfold execOp
                simp [go_sem, e']
              · cases ho
                have e : a'.eval (.tmp 103) = .pointer (some ⟨w4.heap.size, 1, none⟩) := ev 103 (by simp [Op.operands]) 7 _ rfl rfl
                have HR8 : w'.rangeAt w4.heap.size 1 (inoC L1).toList := fun q v hv => by
                  have hq : q < 12 := by
                    have := (List.getElem?_eq_some_iff.1 hv).1
                    rw [HRL.out] at this; exact this
                  have h1 := inoC_at HF1.out.1 q hq
                  rw [Array.getElem?_toList, h1] at hv
                  rw [← Option.some.inj hv]
                  exact hP.cell (1 + q) (HCL.out q hq)
                refine wp_of_list (ops := #[]) rfl (wpList_load_mid rfl 35 (.tmp 103) rfl w4.heap.size 1 e _ _ HR8 Tryz.underlying35 rfl (by rw [HRL.out]; kernel_rfl) ?_)
                rw [Array.toArray_toList]
                exact ⟨_, rfl, rfl, Below.refl _ _⟩
              · cases ho
                have e := ev 102 (by simp [Op.operands]) 6 _ rfl rfl
                refine step_val (v := a'.eval (.tmp 102)) (w' := w') ?_ e (Below.refl _ _)
                unfold execOp
                simp only [Sem.run_pure]
            · intro a' w8 hb8 hdf hsz hsp hrest
              have hf := frame_of [96, 97, 98, 99, 100, 101, 102, 103, 104, 0] hdf hsz (fun t ht => hrest t (notDst_of rfl ht))
              have v104 : a'.tmps.getD 104 undef = .agg (inoC L1) := hsp 8 _ 104 (by decide) rfl rfl
              have o0 : w8.ownsRow wr.heap.size 9 1 (a'.tmps.getD 0 undef) zs.length (zs.map .string) := hsp 9 _ 0 (by decide) rfl rfl
              obtain ⟨gz, cz, hvz⟩ := Go.Joins.ownsRow_form o0 (by rw [HZL.out]; omega)
              have O8 : Hid (w8.ownsRow wr.heap.size 9 1 (.slice (some ⟨gz, 0, none⟩) zs.length cz) zs.length (zs.map .string)) := by rw [← hvz]; exact o0
              simp only [List.map_cons, List.map_nil, putsD] at hf
              rw [hvz, v104, HZL.out] at hf
              generalize a'.tmps.getD 96 undef = x96 at hf
              generalize a'.tmps.getD 97 undef = x97 at hf
              generalize a'.tmps.getD 98 undef = x98 at hf
              generalize a'.tmps.getD 99 undef = x99 at hf
              generalize a'.tmps.getD 100 undef = x100 at hf
              generalize a'.tmps.getD 101 undef = x101 at hf
              generalize a'.tmps.getD 102 undef = x102 at hf
              generalize a'.tmps.getD 103 undef = x103 at hf
              have BX8 := Lib.hid (BX6.out.below hb8 BX6.out.lt)
              have B8 := Lib.hid (B6.out.trans (hb8.mono B6.out.size))
              have HGXR : Hid (gx < wr.heap.size) := BX6.out.lt
              clear hsp hrest hdf hsz o0 v104 hvz hb8 P6 RO6 BX6 B6 BR RR6
              subst hf
              simp only [List.drop_succ_cons, List.drop_zero]
              go_frame
              refine store_blk 35 (.tmp 10) (.tmp 104) gx 35 (inoC L) (inoC L1) rfl rfl rfl rfl BX8.out (by rw [inoC_size, inoC_size, HF1.out.1, HFL.out.1]) HIN1.out (inoC_one _) ?_
              intro w9 hr9 hg9
              have BX9 := Lib.hid hr9
              have B9 := Lib.hid (B8.out.grown hg9 B8.out.size (fun k e => by cases e; exact HGX.out))
              have RO9 := Lib.hid ((RowOff.of_own (g := gx) O8.out HGXR.out).push (.inl rfl) hg9)
              have hkk : k = q1 + j := HK.out.symm
              clear hr9 hg9 B8 BX8 O8
              go_wp2
              subst hkk
              go_roundw
              case rel => exact ⟨j + 1, zs, L1, _, cz, by omega, by go_num, rfl, HWT, RO9, BX9, B9⟩
              case measure => simp [intOf]; omega
    · obtain rfl : j = J := by omega
      have hkq : ¬ ((q1 + j : Nat) : Int) ≤ (q2 : Int) := by omega
      have HNO : Hid (writeO xs (nn : Int) (o : Int) d.data.toList = (putV V nn (if sizeX L < o + d.size then L.set 3 (o + d.size) else L), 0)) := by
        show _ = _
        rw [HW.out, HS.out]
        show (putV (growG noK (o + d.size) (V, L)).1 nn (growG noK (o + d.size) (V, L)).2, (0 : Int)) = _
        unfold growG noK
        dsimp only
        split <;> rfl
      have CSZ := Lib.hid (fun w => rsize_any L w HFL.out)
      have BBo := Lib.hid BB.out
      go_wp2_with (refine load_blk 35 (.tmp 10) gx 35 (inoC L) _ rfl rfl rfl BX.out Tryz.underlying35 rfl HIL.out ?_; go_frame)
      refine (CSZ.out _).mono ?_
      rintro e w4 ⟨rfl, hb4⟩
      have BX4 := Lib.hid (BX.out.below hb4 BX.out.lt)
      have B4 := Lib.hid (BB.out.trans (hb4.mono BB.out.size))
      have RX4 := Lib.hid (RX.out.below hb4)
      have hszx := sizeX_le L
      obtain ⟨sz, hsz⟩ : ∃ sz, sizeX L = sz := ⟨_, rfl⟩
      rw [hsz] at hszx HNO
      rw [hsz]
      clear hb4 RX BX BB CSZ hsz
      have RR4 : ∀ {w : World} {A : Option Addr} {ys : List Value}, RowOff w gx A ys → RowAt w w.heap.size A ys := fun h => by
        rcases h with h | ⟨b, o, hA, hl, _, hc⟩
        · exact .inl h
        · exact .inr ⟨b, o, hA, hl, hc⟩
      by_cases hgr : sz < o + d.size
      · have hgr' : (sz : Int) < (o : Int) + (d.size : Int) := by omega
        rw [if_pos hgr] at HNO
        obtain ⟨n1, hn1⟩ : ∃ n1, o + d.size = n1 := ⟨_, rfl⟩
        have e9 : (o : Int) + (d.size : Int) = (n1 : Int) := by omega
        have HFN : Hid (FitN (L.set 3 n1)) := HFL.out.set 3 (show n1 < 256 ^ 4 by omega)
        have HIS : Hid ((inoC L).setIfInBounds 3 (.int .i64 (n1 : Int)) = inoC (L.set 3 n1)) := by show _ = _; rw [inoC_set]
        have HISZ : Hid (3 < (inoC L).size) := by show _ < _; rw [inoC_size, HFL.out.1]; omega
        have HIN2 := Lib.hid (ino_info12 HFN.out.1)
        have CP := Lib.hid (fun w hr => rput_nat A' c' V m nn (L.set 3 n1) w HVV.out h1 h2 HFN.out hr)
        rw [HVL.out] at CP
        rw [hn1] at HNO
        clear hn1
        rw [e9] at e4
        go_wp2_with (first
          | (refine store_int_blk 3 (.tmp 116) (.tmp 115) gx 3 .i64 (n1 : Int) 35 (inoC L) rfl rfl rfl (by rw [← e9]; rfl) (fun w => by kernel_rfl) BX4.out HISZ.out ?_; intro w5 hr5 hg5; rw [HIS.out] at hr5)
          | (refine load_blk 35 (.tmp 10) gx 35 (inoC (L.set 3 n1)) _ rfl rfl rfl hr5 Tryz.underlying35 rfl HIN2.out ?_; go_frame))
        have B5 := Lib.hid (B4.out.grown hg5 B4.out.size (fun k e => by cases e; exact HGX.out))
        refine (CP.out _ (RR4 (RX4.out.push (.inl rfl) hg5))).mono ?_
        rintro e w6 ⟨⟨v, rfl, hn⟩, hb6⟩
        obtain ⟨A6, c6, rfl, hr6⟩ := hn.read
        have B6 := Lib.hid (B5.out.trans (hb6.mono B5.out.size))
        go_wp2
        go_ret2
        rw [HNO.out]
        exact ⟨⟨A6, c6, rfl, hr6⟩, B6.out⟩
      · have hgr' : ¬ (sz : Int) < (o : Int) + (d.size : Int) := by omega
        rw [if_neg hgr] at HNO
        have CP := Lib.hid (fun w hr => rput_nat A' c' V m nn L w HVV.out h1 h2 HFL.out hr)
        rw [HVL.out] at CP
        go_wp2_with (refine load_blk 35 (.tmp 10) gx 35 (inoC L) _ rfl rfl rfl BX4.out Tryz.underlying35 rfl HIL.out ?_; go_frame)
        refine (CP.out _ (RR4 RX4.out)).mono ?_
        rintro e w6 ⟨⟨v, rfl, hn⟩, hb6⟩
        obtain ⟨A6, c6, rfl, hr6⟩ := hn.read
        have B6 := Lib.hid (B4.out.trans (hb6.mono B4.out.size))
        go_wp2
        go_ret2
        rw [HNO.out]
        exact ⟨⟨A6, c6, rfl, hr6⟩, B6.out⟩
end Go.Proofs.YtoanladhikdcaaaGreat

namespace Go.Proofs.YtoanladhikdcaaaGreat
open Go.RowKit
set_option linter.unusedVariables false
set_option linter.unusedSimpArgs false
set_option maxRecDepth 100000
set_option maxHeartbeats 4000000 in
theorem rwrite_any (A : Option Addr) (c : Nat) (xs : List ByteArray) (n off : Int) (d : ByteArray) (w : World) (hx : xs.length ≤ 1000000) (hoff : -9223372036854775808 ≤ off ∧ off ≤ 9223372036854775807) (hd : d.size ≤ 140737488355328) (h : RowAt w w.heap.size A (xs.map .string)) :
    Calls Tryz.prog 21 #[.slice A xs.length c, .int .i64 n, .int .i64 off, .string d] w (RRow (writeO xs n off d.data.toList).1 (writeO xs n off d.data.toList).2 w) := by
  have hls : d.data.toList.length = d.size := by rw [Array.length_toList]; rfl
  have CG := Lib.hid (rget_ino A c xs n w hx h)
  have hl12 : (getR xs n).length = 12 := getR_len _ _
  have HR := Lib.hid h
  by_cases h0 : inoE xs n = 0
  · by_cases hneg : off < 0
    · have HW : Hid (writeO xs n off d.data.toList = ([], 1)) := by show _ = _; unfold writeO; rw [h0, if_neg (by simp), if_pos hneg]
      rw [h0] at CG
      generalize getR xs n = l at *
      have HIZ : Hid ((inoC l).size = 12) := by show _ = _; rw [inoC_size, hl12]
      have HI := Lib.hid (ino_info12 hl12)
      clear h hl12 h0 hls
      go_enter Tryz.func21, Tryz.ntmps21
      go_wp2_with fail
      refine CG.out.mono ?_
      rintro e w1 ⟨rfl, hb1⟩
      have B1 := Lib.hid hb1
      clear hb1 CG
      go_wp2_with (refine store_blk 35 (.tmp 10) (.tmp 21) w1.heap.size 35 (inoC (List.replicate 12 0)) (inoC l) rfl rfl rfl rfl (Blk.new w1 _ _) (by rw [HIZ.out]; rfl) HI.out (inoC_one _) ?_; intro w2 hr2 hg2)
      have B2 : Below w.heap.size w w2 := (B1.out.alloc B1.out.size _).grown hg2 (by have := B1.out.size; simp; omega) (fun k e => by cases e; exact B1.out.size)
      go_ret2
      rw [HW.out]
      exact RRow.nil (B2.alloc B2.size _)
    · by_cases hbig : 8960 < off ∨ 8960 < off + (d.size : Int)
      · have HW : Hid (writeO xs n off d.data.toList = ([], 6)) := by show _ = _; unfold writeO; rw [h0, if_neg (by simp), if_neg hneg, hls, if_pos hbig]
        rw [h0] at CG
        generalize getR xs n = l at *
        have HIZ : Hid ((inoC l).size = 12) := by show _ = _; rw [inoC_size, hl12]
        have HI := Lib.hid (ino_info12 hl12)
        have hcs : 8960 < off ∨ (¬ 8960 < off ∧ 8960 < off + (d.size : Int) ∧ IntKind.i64.wrap (off + (d.size : Int)) = off + (d.size : Int)) := by
          by_cases h1 : 8960 < off
          · exact .inl h1
          · exact .inr ⟨h1, by omega, IntWalk.i64_in _ (by omega)⟩
        clear h hl12 h0 hls hbig
        go_enter Tryz.func21, Tryz.ntmps21
        go_wp2_with fail
        refine CG.out.mono ?_
        rintro e w1 ⟨rfl, hb1⟩
        have B1 := Lib.hid hb1
        clear hb1 CG
        rcases hcs with h1 | ⟨h1, h2, h3⟩
        all_goals
          go_wp2_with (refine store_blk 35 (.tmp 10) (.tmp 21) w1.heap.size 35 (inoC (List.replicate 12 0)) (inoC l) rfl rfl rfl rfl (Blk.new w1 _ _) (by rw [HIZ.out]; rfl) HI.out (inoC_one _) ?_; intro w2 hr2 hg2)
          have B2 : Below w.heap.size w w2 := (B1.out.alloc B1.out.size _).grown hg2 (by have := B1.out.size; simp; omega) (fun k e => by cases e; exact B1.out.size)
          go_ret2
          rw [HW.out]
          exact RRow.nil (B2.alloc B2.size _)
      · obtain ⟨m, nn, hv, rfl, h1, h2, _⟩ := inoE_ok h0
        obtain ⟨o, rfl⟩ := Int.eq_ofNat_of_zero_le (show 0 ≤ off by omega)
        by_cases hd0 : 0 < d.size
        · exact rwrite_main A c xs m nn o d w hv h1 h2 (by omega) hd0 h
        · have hd1 : d.data.toList = [] := List.length_eq_zero_iff.1 (by omega)
          have HW : Hid (writeO xs (nn : Int) (o : Int) d.data.toList = (xs, 0)) := by
            show _ = _
            unfold writeO
            rw [h0, if_neg (by simp), if_neg hneg, hls, if_neg hbig, mO_vol hv, Int.toNat_natCast]
            unfold wriG
            rw [if_pos hd1]
            show (putV xs (Int.toNat (nn : Int)) (getR xs (nn : Int)), (0 : Int)) = _
            rw [Int.toNat_natCast, getR_vol hv h1 h2, putV_self hv h1 h2]
          have hde4 : d.toList.isEmpty = true := by
            have : d = ⟨#[]⟩ := WideShapes.bytes_inj (by rw [hd1])
            have h0' : (⟨#[]⟩ : ByteArray).toList = [] := by kernel_rfl
            rw [this, h0']; rfl
          rw [h0] at CG
          generalize getR xs (nn : Int) = l at *
          have HIZ : Hid ((inoC l).size = 12) := by show _ = _; rw [inoC_size, hl12]
          have HI := Lib.hid (ino_info12 hl12)
          have e4 : IntKind.i64.wrap ((o : Int) + (d.size : Int)) = (o : Int) + (d.size : Int) := IntWalk.i64_in _ (by omega)
          have ho1 : ¬ ((o : Int) < 0) := by omega
          have ho2 : ¬ ((8960 : Int) < (o : Int)) := by omega
          have ho3 : ¬ ((8960 : Int) < (o : Int) + (d.size : Int)) := by omega
          clear h hl12 h0 hls hbig hd1
          go_enter Tryz.func21, Tryz.ntmps21
          go_wp2_with fail
          refine CG.out.mono ?_
          rintro e w1 ⟨rfl, hb1⟩
          have B1 := Lib.hid hb1
          clear hb1 CG
          go_wp2_with (refine store_blk 35 (.tmp 10) (.tmp 21) w1.heap.size 35 (inoC (List.replicate 12 0)) (inoC l) rfl rfl rfl rfl (Blk.new w1 _ _) (by rw [HIZ.out]; rfl) HI.out (inoC_one _) ?_; intro w2 hr2 hg2)
          have B2 : Below w.heap.size w w2 := (B1.out.alloc B1.out.size _).grown hg2 (by have := B1.out.size; simp; omega) (fun k e => by cases e; exact B1.out.size)
          go_ret2
          rw [HW.out]
          exact ⟨⟨A, c, rfl, (HR.out.below B2).mono B2.size⟩, B2⟩
  · have HW : Hid (writeO xs n off d.data.toList = ([], inoE xs n)) := by show _ = _; unfold writeO; rw [if_pos h0]
    generalize getR xs n = l at *
    generalize inoE xs n = cd at *
    have HIZ : Hid ((inoC l).size = 12) := by show _ = _; rw [inoC_size, hl12]
    have HI := Lib.hid (ino_info12 hl12)
    have h01 : (cd != 0) = true := by simpa using h0
    clear h hl12 hls
    go_enter Tryz.func21, Tryz.ntmps21
    go_wp2_with fail
    refine CG.out.mono ?_
    rintro e w1 ⟨rfl, hb1⟩
    have B1 := Lib.hid hb1
    clear hb1 CG
    go_wp2_with (refine store_blk 35 (.tmp 10) (.tmp 21) w1.heap.size 35 (inoC (List.replicate 12 0)) (inoC l) rfl rfl rfl rfl (Blk.new w1 _ _) (by rw [HIZ.out]; rfl) HI.out (inoC_one _) ?_; intro w2 hr2 hg2)
    have B2 : Below w.heap.size w w2 := (B1.out.alloc B1.out.size _).grown hg2 (by have := B1.out.size; simp; omega) (fun k e => by cases e; exact B1.out.size)
    go_ret2
    rw [HW.out]
    exact RRow.nil (B2.alloc B2.size _)
end Go.Proofs.YtoanladhikdcaaaGreat
