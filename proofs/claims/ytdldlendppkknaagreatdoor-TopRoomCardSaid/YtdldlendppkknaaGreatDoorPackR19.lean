/-
  Contracts and plain laws: DirC, AttC, Shelf2, Search.
-/
import Derived.BigRegion
import Derived.Shelf.Small.Strs
import Derived.Shelf.Small.Wraps
import Derived.Shelf.Strings.LastIndex
import Derived.Shelf.Strings.Prefix
import Derived.Test.YtdldlendppkknaaGreatDoorProg
import Derived.Shelf.SlSorted.Search
import Derived.Test.YtdldlendppkknaaGreatDoorPackR17
import Derived.Test.YtdldlendppkknaaGreatDoorPackR18
namespace Go.Proofs.YtdldlendppkknaaGreatDoor
open Go.RowKit
set_option linter.unusedVariables false
set_option linter.unusedSimpArgs false
set_option maxRecDepth 100000
def entsN (L : List UInt8) (k : Nat) : List EntV := (List.range k).map fun i => entK (piece L i)
theorem entsN_len (L : List UInt8) (k : Nat) : (entsN L k).length = k := by simp [entsN]
theorem entsN_succ (L : List UInt8) (k : Nat) : entsN L (k + 1) = entsN L k ++ [entK (piece L k)] := by unfold entsN; rw [List.range_succ, List.map_append]; rfl
theorem entsO_all {L : List UInt8} {N : Nat} (hl : L.length = 32 * N) (h : ∀ i, i < N → stepK L i = true) : entsO L = some (entsN L N) := by
 have : L.length / 32 = N := by omega
 unfold entsO entsN
 rw [this, if_pos ⟨by omega, List.all_eq_true.2 fun i hi => h i (List.mem_range.1 hi)⟩]
theorem entsO_bad {L : List UInt8} {N k : Nat} (hl : L.length = 32 * N) (hk : k < N) (h : stepK L k = false) : entsO L = none := by
 have : L.length / 32 = N := by omega
 unfold entsO
 rw [this, if_neg]
 rintro ⟨_, ha⟩
 rw [List.all_eq_true] at ha
 rw [ha k (List.mem_range.2 hk)] at h
 cases h
theorem entsO_odd {L : List UInt8} (hl : L.length % 32 ≠ 0) : entsO L = none := by
 unfold entsO
 rw [if_neg (fun h => hl h.1)]
def EntsPost (o : Option (List EntV)) (w : World) (e : Ending) (w' : World) : Prop := (∃ v, e = .returned (.tuple #[v, .bool o.isSome]) ∧ OwnEnts (o.getD []) w v w') ∧ Below w.heap.size w w'
theorem ents_none {w w' : World} (h : Below w.heap.size w w') : EntsPost none w (.returned (.tuple #[.slice none 0 0, .bool false])) w' := ⟨⟨_, rfl, World.ownsRow_nil _ _ _ _⟩, h⟩
theorem pieceL {L : List UInt8} {N k : Nat} (hl : L.length = 32 * N) (hk : k < N) : (piece L k).length = 32 := by
 unfold piece
 rw [List.length_take, List.length_drop]
 omega
theorem ext_list (s : ByteArray) (a b : Nat) : (s.extract a b).data.toList = (s.data.toList.drop a).take (b - a) := by simp [ByteArray.data_extract]
theorem one_parts {o : ByteArray} {P : List UInt8} (h : o.data.toList = P) (hp : P.length = 32) : ∃ c : Nat, (P.getD 2 0).toNat = c ∧ c < 256 ∧ (∀ h2 : 2 < o.size, (o[2].toNat) = c) ∧ o.size = 32 ∧
  (c ≤ 24 → (⟨(entK P).name, (entK P).ino⟩ : EntV) = ⟨o.extract 4 (4 + c), (leN ((o.extract 0 2).data.toList.take 8) : Nat)⟩) := by
 have hs : o.size = 32 := by rw [← hp, ← h, Array.length_toList]; rfl
 refine ⟨_, rfl, UInt8.toNat_lt _, fun h2 => ?_, hs, fun hc => ?_⟩
 ·rw [← h, List.getD_eq_getElem?_getD, List.getElem?_eq_getElem (by rw [Array.length_toList]; exact h2)]
  rfl
 ·unfold entK
  dsimp only
  have e1 : (⟨((P.drop 4).take (P.getD 2 0).toNat).toArray⟩ : ByteArray) = o.extract 4 (4 + (P.getD 2 0).toNat) := by
   apply WideShapes.bytes_inj
   rw [ext_list, h, show 4 + (P.getD 2 0).toNat - 4 = (P.getD 2 0).toNat by omega]
  rw [e1, ext_list, h, List.drop_zero, List.take_take]
  congr 2
theorem less_lists : ∀ x y : List UInt8, Op.bytesLess x y = decide (x < y)
 | [], [] => by simp [Op.bytesLess]
 | [], _ :: _ => by simp [Op.bytesLess]
 | _ :: _, [] => by simp [Op.bytesLess]
 | a :: x, b :: y => by
  have ih := less_lists x y
  unfold Op.bytesLess
  rw [ih, Bool.eq_iff_iff]
  simp [List.cons_lt_cons_iff]
theorem less_walk (a b : ByteArray) : Op.bytesLess a.toList b.toList = ltB a b := by
 rw [less_lists, str_data, str_data]; rfl
def strSz : Value → Nat
 | .string s => s.size
 | _ => 0
theorem own_ents {w' : World} {base n : Nat} {v : Value} {l : List EntV} (h : w'.ownsRow base 168 2 v n (entC l)) (hn : l.length = n) : ∃ A c, v = .slice A n c ∧ EntsAt w' w'.heap.size A l := by
 have h2 := h
 obtain ⟨h1, h3⟩ := h2
 rcases h3 with ⟨hv, h0⟩ | ⟨g, cap, cur, hv, hg, hh, hnc, hm, hsz, ht⟩
 ·refine ⟨none, 0, by rw [hv, h0], ?_⟩
  have : l = [] := List.eq_nil_of_length_eq_zero (hn.trans h0)
  subst this
  exact RowAt.nil
 ·subst hv
  exact ⟨_, _, rfl, RowAt.of_own_k h⟩
theorem good_bad {P : List UInt8} (h : 24 < (P.getD 2 0).toNat ∨ okE (entK P) = false ∨ entB (entK P) ≠ P) : goodK P = false := by
 cases hh : goodK P with
 | false => rfl
 | true =>
  unfold goodK at hh
  simp only [Bool.and_eq_true, decide_eq_true_eq] at hh
  rcases h with h | h | h
  ·omega
  ·rw [h] at hh; exact absurd hh.1.2 (by simp)
  ·exact absurd hh.2 h
theorem okE_bad {nm : ByteArray} {z : Int} (h : z < 1 ∨ 64 < z ∨ mayB nm.data.toList = false) : okE ⟨nm, z⟩ = false := by
 unfold okE
 dsimp only
 rcases h with h | h | h
 ·rw [decide_eq_false (by omega), Bool.and_false]
 ·rw [decide_eq_false (by omega), Bool.and_false]
 ·rw [h, Bool.false_and]
theorem step_bad {L : List UInt8} {k : Nat} (h : goodK (piece L k) = false) : stepK L k = false := by unfold stepK; rw [h]; rfl
set_option maxHeartbeats 8000000 in
theorem entries_any (b : ByteArray) (w : World) (hb : b.size ≤ 8960) : Calls Tryz.prog 123 #[.string b] w (EntsPost (entsO b.data.toList) w) := by
 have hl : b.data.toList.length = b.size := by rw [Array.length_toList]; rfl
 have et : (b.size : Int).tmod 32 = ((b.size % 32 : Nat) : Int) := by rw [Int.tmod_eq_emod_of_nonneg (by omega)]; omega
 obtain ⟨i0, q1, q2, q3, q4⟩ := info_parts ent_info
 have I0 := Lib.hid (And.intro q1 (And.intro q2 (And.intro q3 q4)))
 clear q1 q2 q3 q4
 by_cases hm : b.size % 32 = 0
 ·obtain ⟨N, hN⟩ : ∃ N, b.size = 32 * N := ⟨b.size / 32, by omega⟩
  have e0 : (((b.size % 32 : Nat) : Int) != 0) = false := by rw [hm]; rfl
  obtain ⟨L, hL⟩ : ∃ L, b.data.toList = L := ⟨_, rfl⟩
  rw [hL] at hl ⊢
  have HLN : Hid (L.length = 32 * N) := hl.trans hN
  have HN : Hid (N ≤ 280) := by show _ ≤ _; omega
  have HB0 : Hid (b.data.toList = L.drop (32 * 0)) := by show _ = _; rw [hL]; rfl
  have HBL := Lib.hid (Below.refl w.heap.size w)
  have O0 : Hid (w.ownsRow w.heap.size 168 2 (.slice none 0 0) 0 (entC (entsN L 0))) := World.ownsRow_nil _ _ _ _
  have HG := Lib.hid (fun (i : Nat) (h : i < 0) => (absurd h (Nat.not_lt_zero _) : stepK L i = true))
  clear hl hL hb hN
  go_enter Tryz.func123, Tryz.ntmps123
  go_wp2
  go_loopw [0, 4] (fun t v wr => ∃ (k : Nat) (s : ByteArray), k ≤ N ∧ t = .string s ∧ Hid (s.data.toList = L.drop (32 * k)) ∧ Hid (wr.ownsRow w.heap.size 168 2 v k (entC (entsN L k))) ∧ Hid (Below w.heap.size w wr) ∧ Hid (∀ i, i < k → stepK L i = true)) (fun t _ _ => strSz t)
  case atStart => exact ⟨0, b, Nat.zero_le _, rfl, HB0, O0, HBL, HG⟩
  case round =>
   clear HB0 O0 HBL HG et e0 hm
   obtain ⟨k, s, hk, rfl, HS, O, B, HA⟩ := hrel
   have hsz : s.size = 32 * (N - k) := by
    have := congrArg List.length HS.out
    rw [List.length_drop, HLN.out, Array.length_toList] at this
    have h2 : s.size = 32 * N - 32 * k := this
    omega
   by_cases hlt : k < N
   ·have q1 : s.toList.isEmpty = false := by
     rw [str_data]
     cases h : s.data.toList with
     | nil => have := congrArg List.length h; rw [Array.length_toList] at this; have h2 : s.size = 0 := this; omega
     | cons _ _ => rfl
    have q2 : ¬ s.toList = [] := fun h => by rw [h] at q1; cases q1
    have c1 : (32 : Int) ≤ (s.size : Int) := by omega
    obtain ⟨o, ho⟩ : ∃ o, s.extract 0 32 = o := ⟨_, rfl⟩
    have hop : o.data.toList = piece L k := by rw [← ho, ext_list, HS.out]; rfl
    obtain ⟨c, hc, hc256, hc2, ho32, hx⟩ := one_parts hop (pieceL HLN.out hlt)
    have o1 : (2 : Nat) < o.size := by omega
    have o2 : (2 : Int) < (o.size : Int) := by omega
    have o3 := hc2 o1
    have HBAD := Lib.hid (fun h => entsO_bad HLN.out hlt (step_bad (good_bad h)))
    rw [hc] at HBAD
    by_cases hc24 : c ≤ 24
    ·have o4 : ¬ (24 : Int) < (c : Int) := by omega
     have o5 : (4 : Int) + (c : Int) ≤ (o.size : Int) := by omega
     have o6 : (2 : Int) ≤ (o.size : Int) := by omega
     have o7 : (4 : Int) ≤ (4 : Int) + (c : Int) := by omega
     have o8 : ((4 : Int) + (c : Int)).toNat = 4 + c := by omega
     have o9 : IntKind.i64.wrap ((4 : Int) + (c : Int)) = (4 : Int) + (c : Int) := IntWalk.i64_in _ (by omega)
     have hx := hx hc24
     have HX : Hid (entK (piece L k) = ⟨o.extract 4 (4 + c), (leN ((o.extract 0 2).data.toList.take 8) : Nat)⟩) := hx
     obtain ⟨nm, hnm⟩ : ∃ nm, o.extract 4 (4 + c) = nm := ⟨_, rfl⟩
     have hns : nm.size = c := by rw [← hnm, ByteArray.size_extract]; omega
     obtain ⟨t, ht⟩ : ∃ t, o.extract 0 2 = t := ⟨_, rfl⟩
     obtain ⟨q, hq⟩ : ∃ q, leN (t.data.toList.take 8) = q := ⟨_, rfl⟩
     have hq16 : q < 65536 := by
      have := leN_lt (t.data.toList.take 8)
      rw [hq, List.length_take, Array.length_toList] at this
      have hts : t.data.size = 2 := by show t.size = 2; rw [← ht, ByteArray.size_extract]; omega
      rw [hts] at this
      exact this
     rw [hnm, ht, hq] at HX
     have CG : Hid (∀ w, Calls Tryz.prog 52 #[.string t] w fun e w' => e = .returned (.int .u64 (q : Nat)) ∧ w = w') := fun w => by rw [← hq]; exact get_any t w (by rw [← ht, ByteArray.size_extract]; omega)
     have q4 : IntKind.i64.wrap (q : Int) = (q : Int) := IntWalk.i64_in _ (by omega)
     clear hx hc256 hc2 hq
     go_wp2_with fail
     apply wp_region_free 9 0 0 7 _ (fun X w' => ∃ p, X = .pointer (some ⟨p, 0, none⟩) ∧ wr.heap.size ≤ p ∧ Blk w' p 168 #[.string ⟨#[]⟩, .int .i64 0]) (by kernel_rfl) (by kernel_rfl) rfl
     case hΦ =>
      rintro X u u' ⟨p, rfl, hp, hb⟩ hu
      exact ⟨p, rfl, hp, hb.below hu hb.lt⟩
     case W1 =>
      intro wb hwb
      unfold ExtC
      simp only [List.take_succ_cons, List.take_zero, List.drop_succ_cons, List.drop_zero]
      repeat (go_big_quiet_step (first
       | (go_at_call 52; with_reducible exact Ext.call_same (CG.out _))))
      exact wpQuiet_nil rfl
     case MK =>
      intro wb hwb
      exact ⟨.pointer (some ⟨wb.heap.size, 0, none⟩), wb.alloc (.cells #[.string ⟨#[]⟩, .int .i64 0] 168), rfl, ⟨_, rfl, hwb.size, Blk.new wb _ _⟩, (Below.refl _ _).alloc (Nat.le_refl _) _⟩
     case UM =>
      intro X wb hwb hX
      exact wpQuiet_nil rfl
     case W2 =>
      intro X wb hwb
      exact wpQuiet_nil rfl
     rintro X w2 hb2 ⟨gx, rfl, hgx, hbx⟩
     have HB2 := Lib.hid hb2
     have GZ := Lib.hid hbx
     clear hb2 hbx CG
     simp only [List.take_succ_cons, List.take_zero, List.drop_succ_cons, List.drop_zero]
     have m1 : mayB nm.data.toList = true ∨ mayB nm.data.toList = false := by cases mayB nm.data.toList <;> simp
     have CM := Lib.hid (fun w => may_any nm w (by omega))
     have CE := Lib.hid (fun w => entry_any ⟨nm, (q : Int)⟩ w (by show nm.size ≤ 28; omega) (by show (0 : Int) ≤ q ∧ (q : Int) < 65536; omega))
     have HEQ : Hid ((⟨(entB ⟨nm, (q : Int)⟩).toArray⟩ : ByteArray) = o ↔ entB (entK (piece L k)) = piece L k) := by
      show _ ↔ _
      rw [HX.out, ← hop]
      constructor
      ·intro h; rw [← h]
      ·intro h; rw [h]
     dsimp only at CE
     generalize (⟨(entB ⟨nm, (q : Int)⟩).toArray⟩ : ByteArray) = es at *
     by_cases hbad : (q : Int) < 1 ∨ (64 : Int) < (q : Int) ∨ mayB nm.data.toList = false ∨ es ≠ o
     ·have HE : Hid (entsO L = none) := by
       refine HBAD.out (.inr ?_)
       rcases hbad with h | h | h | h
       ·left; rw [HX.out]; exact okE_bad (.inl h)
       ·left; rw [HX.out]; exact okE_bad (.inr (.inl h))
       ·left; rw [HX.out]; exact okE_bad (.inr (.inr h))
       ·right; exact fun e => h (HEQ.out.2 e)
      clear HBAD HEQ HX hop HA HS
      by_cases a1 : (q : Int) < 1
      ·go_wp2_with (first
        | (refine store_blk 168 (.tmp 7) (.tmp 31) gx 168 #[.string ⟨#[]⟩, .int .i64 0] #[.string nm, .int .i64 (q : Int)] rfl rfl rfl rfl GZ.out rfl (by kernel_rfl) (by simp [Value.oneCell']) ?_; intro w3 hr3 hg3; have d0 := hr3.cell 0 rfl; have d1 := hr3.cell 1 rfl; have GX := Lib.hid hr3; have HB3 := Lib.hid (HB2.out.grown hg3 HB2.out.size (fun j e => by cases e; exact hgx)); have B3 := Lib.hid (B.out.trans (HB3.out.mono B.out.size)); clear hr3 hg3 HB2))
       go_ret2
       rw [HE.out]
       exact ents_none B3.out
      ·by_cases a2 : (64 : Int) < (q : Int)
       ·go_wp2_with (first
         | (refine store_blk 168 (.tmp 7) (.tmp 31) gx 168 #[.string ⟨#[]⟩, .int .i64 0] #[.string nm, .int .i64 (q : Int)] rfl rfl rfl rfl GZ.out rfl (by kernel_rfl) (by simp [Value.oneCell']) ?_; intro w3 hr3 hg3; have d0 := hr3.cell 0 rfl; have d1 := hr3.cell 1 rfl; have GX := Lib.hid hr3; have HB3 := Lib.hid (HB2.out.grown hg3 HB2.out.size (fun j e => by cases e; exact hgx)); have B3 := Lib.hid (B.out.trans (HB3.out.mono B.out.size)); clear hr3 hg3 HB2))
        go_ret2
        rw [HE.out]
        exact ents_none B3.out
       ·by_cases a3 : mayB nm.data.toList = false
        ·rw [a3] at CM
         go_wp2_with (first
          | (refine store_blk 168 (.tmp 7) (.tmp 31) gx 168 #[.string ⟨#[]⟩, .int .i64 0] #[.string nm, .int .i64 (q : Int)] rfl rfl rfl rfl GZ.out rfl (by kernel_rfl) (by simp [Value.oneCell']) ?_; intro w3 hr3 hg3; have d0 := hr3.cell 0 rfl; have d1 := hr3.cell 1 rfl; have GX := Lib.hid hr3; have HB3 := Lib.hid (HB2.out.grown hg3 HB2.out.size (fun j e => by cases e; exact hgx)); have B3 := Lib.hid (B.out.trans (HB3.out.mono B.out.size)); clear hr3 hg3 HB2)
          | (go_at_call 94; refine (CM.out _).mono ?_; rintro e w4 ⟨rfl, hb4⟩; have GX4 := Lib.hid (GX.out.below hb4 GX.out.lt); have HB4 := Lib.hid (HB3.out.trans (hb4.mono HB3.out.size)); have B4 := Lib.hid (B.out.trans (HB4.out.mono B.out.size)); have d4 := GX4.out.cell 0 rfl; have d5 := GX4.out.cell 1 rfl; clear hb4 HB3 B3))
         go_ret2
         rw [HE.out]
         exact ents_none B4.out
        ·have a4 : es ≠ o := by
          rcases hbad with h | h | h | h
          ·exact absurd h a1
          ·exact absurd h a2
          ·exact absurd h a3
          ·exact h
         have a3 : mayB nm.data.toList = true := by simpa using a3
         rw [a3] at CM
         have a5 := str_ne a4
         go_wp2_with (first
          | (refine store_blk 168 (.tmp 7) (.tmp 31) gx 168 #[.string ⟨#[]⟩, .int .i64 0] #[.string nm, .int .i64 (q : Int)] rfl rfl rfl rfl GZ.out rfl (by kernel_rfl) (by simp [Value.oneCell']) ?_; intro w3 hr3 hg3; have d0 := hr3.cell 0 rfl; have d1 := hr3.cell 1 rfl; have GX := Lib.hid hr3; have HB3 := Lib.hid (HB2.out.grown hg3 HB2.out.size (fun j e => by cases e; exact hgx)); have B3 := Lib.hid (B.out.trans (HB3.out.mono B.out.size)); clear hr3 hg3 HB2)
          | (go_at_call 94; refine (CM.out _).mono ?_; rintro e w4 ⟨rfl, hb4⟩; have GX4 := Lib.hid (GX.out.below hb4 GX.out.lt); have HB4 := Lib.hid (HB3.out.trans (hb4.mono HB3.out.size)); have B4 := Lib.hid (B.out.trans (HB4.out.mono B.out.size)); have d4 := GX4.out.cell 0 rfl; have d5 := GX4.out.cell 1 rfl; clear hb4 HB3 B3)
          | (go_at_call 185; refine (CE.out _).mono ?_; rintro e w5 ⟨rfl, hb5⟩; have GX5 := Lib.hid (GX4.out.below hb5 GX4.out.lt); have HB5 := Lib.hid (HB4.out.trans (hb5.mono HB4.out.size)); have B5 := Lib.hid (B.out.trans (HB5.out.mono B.out.size)); clear hb5 HB4 B4))
         go_ret2
         rw [HE.out]
         exact ents_none B5.out
     ·have a1 : ¬ (q : Int) < 1 := fun h => hbad (.inl h)
      have a2 : ¬ (64 : Int) < (q : Int) := fun h => hbad (.inr (.inl h))
      have a3 : mayB nm.data.toList = true := by cases h : mayB nm.data.toList with
       | true => rfl
       | false => exact absurd (.inr (.inr (.inl h))) hbad
      obtain rfl : es = o := Classical.not_not.1 (fun h => hbad (.inr (.inr (.inr h))))
      have HGD : Hid (goodK (piece L k) = true) := by
       show _ = _
       unfold goodK
       rw [HEQ.out.1 rfl, hc, HX.out]
       simp only [okE, a3, Bool.true_and, Bool.and_true, Bool.and_eq_true, decide_eq_true_eq, and_true]
       omega
      have a5 := str_eq es
      rw [a3] at CM
      obtain ⟨A, cp, rfl, HR⟩ := own_ents O.out (entsN_len L k)
      have HR := Lib.hid HR
      clear hbad HEQ hop hx
      by_cases hk0 : k = 0
      ·have k1 : ¬ (0 : Int) < (k : Int) := by omega
       have k5 : decide (0 < k) = false := decide_eq_false (by omega)
       have HOK : Hid (stepK L k = true) := by
        show _ = _
        unfold stepK
        rw [HGD.out, hk0]; rfl
       have HK := Lib.hid hk0
       clear hk0
       go_wp2_with (first
        | (refine store_blk 168 (.tmp 7) (.tmp 31) gx 168 #[.string ⟨#[]⟩, .int .i64 0] #[.string nm, .int .i64 (q : Int)] rfl rfl rfl rfl GZ.out rfl (by kernel_rfl) (by simp [Value.oneCell']) ?_; intro w3 hr3 hg3; have d0 := hr3.cell 0 rfl; have d1 := hr3.cell 1 rfl; have GX := Lib.hid hr3; have HB3 := Lib.hid (HB2.out.grown hg3 HB2.out.size (fun j e => by cases e; exact hgx)); have B3 := Lib.hid (B.out.trans (HB3.out.mono B.out.size)); clear hr3 hg3 HB2)
        | (go_at_call 94; refine (CM.out _).mono ?_; rintro e w4 ⟨rfl, hb4⟩; have GX4 := Lib.hid (GX.out.below hb4 GX.out.lt); have HB4 := Lib.hid (HB3.out.trans (hb4.mono HB3.out.size)); have B4 := Lib.hid (B.out.trans (HB4.out.mono B.out.size)); have d4 := GX4.out.cell 0 rfl; have d5 := GX4.out.cell 1 rfl; clear hb4 HB3 B3)
        | (go_at_call 185; refine (CE.out _).mono ?_; rintro e w5 ⟨rfl, hb5⟩; have GX5 := Lib.hid (GX4.out.below hb5 GX4.out.lt); have HB5 := Lib.hid (HB4.out.trans (hb5.mono HB4.out.size)); have B5 := Lib.hid (B.out.trans (HB5.out.mono B.out.size)); clear hb5 HB4 B4))
       have p2 : ∀ u : Ext w5, u.val.cell? ⟨gx, 0, none⟩ = some (.string nm) := fun u => u.cell (GX5.out.cell 0 rfl)
       refine wp_region_ext (by kernel_rfl) (by kernel_rfl) ?_
       repeat (go_big_quiet_step (fail))
       refine wpQuiet_nil ?_
       rintro _ ⟨u, rfl⟩
       have HB6 : Hid (Below wr.heap.size wr u.val) := HB5.out.trans (u.below.mono HB5.out.size)
       have GX6 : Hid (Blk u.val gx 168 #[.string nm, .int .i64 (q : Int)]) := GX5.out.below u.below GX5.out.lt
       generalize u.val = w6 at *
       clear GX5 HB5 B5 GX4 d0 d1 d4 d5 GX GZ p2
       have O7 : Hid ((w6.alloc (.cells #[.string nm, .int .i64 (q : Int)] 168)).ownsRow w.heap.size 168 2 _ k (entC (entsN L k))) := World.ownsRow.alloc (own_below O.out HB6.out) _
       have B7 := Lib.hid ((B.out.trans (HB6.out.mono B.out.size)).alloc (B.out.trans (HB6.out.mono B.out.size)).size (.cells #[.string nm, .int .i64 (q : Int)] 168))
       have HC7 : Hid (∀ j u, [Value.string nm, Value.int .i64 (q : Int)][j]? = some u → (w6.alloc (.cells #[.string nm, .int .i64 (q : Int)] 168)).cell? ((⟨w6.heap.size, 0, none⟩ : Addr).add j) = some u) := fun j u hu => by
        have hB := Blk.new w6 168 #[.string nm, .int .i64 (q : Int)]
        rw [add_zero_addr, Nat.zero_add]
        exact hB.cell j (by simpa using hu)
       have H17 : Hid (∀ u ∈ [Value.string nm, Value.int .i64 (q : Int)], u.oneCell' = true) := fun u hu => by
        rcases List.mem_cons.1 hu with rfl | hu
        ·rfl
        ·rcases List.mem_cons.1 hu with rfl | hu
         ·rfl
         ·cases hu
       have HM7 : Hid (k + 1 ≤ maxLen) := by show _ ≤ _; have := HN.out; unfold maxLen; omega
       have HY7 : Hid ((k + 1) * 24 ≤ 140737488355328) := by show _ ≤ _; have := HN.out; omega
       have e0 := GX6.out.cell 0 rfl
       have e1 := GX6.out.cell 1 rfl
       have HS2 : Hid ((s.extract 32 (32 * (N - k))).data.toList = L.drop (32 * (k + 1))) := by
        show _ = _
        rw [← hsz, ext_list, HS.out, List.drop_drop, List.take_of_length_le (by rw [List.length_drop, HLN.out]; omega)]
        congr 1
       have HZ2 : Hid ((s.extract 32 (32 * (N - k))).size < s.size) := by show _ < _; rw [ByteArray.size_extract]; omega
       have HA2 : Hid (∀ i, i < k + 1 → stepK L i = true) := fun i hi => by
        by_cases e : i = k
        ·rw [e]; exact HOK.out
        ·exact HA.out i (by omega)
       have HEN : Hid (entC (entsN L k) ++ [Value.string nm, Value.int .i64 (q : Int)] = entC (entsN L (k + 1))) := by
        show _ = _
        rw [entsN_succ, entC_app, HX.out]
        rfl
       go_wp2_with (at_builtin; refine wpList_append_own _ rfl (.tmp 67) (.tmp 69) 123 rfl w.heap.size 168 i0 (.agg #[.string ⟨#[]⟩, .int .i64 0]) 2 24 Tryz.underlying123 I0.out.1 I0.out.2.1 I0.out.2.2.1 I0.out.2.2.2 rfl (by decide) _ k (entC (entsN L k)) rfl O7.out ⟨w6.heap.size, 0, none⟩ 1 1 [.string nm, .int .i64 (q : Int)] rfl rfl HC7.out H17.out HM7.out HY7.out B7.out.size ?_; intro v9 w9 own hg hv; have O9 : Hid (w9.ownsRow w.heap.size 168 2 v9 (k + 1) (entC (entsN L (k + 1)))) := HEN.out ▸ own; have B9 := Lib.hid (B7.out.grown hg B7.out.size (fun j e => (O7.out.lt j e).1)); clear own hg hv)
       go_roundw
       case rel => exact ⟨k + 1, _, by omega, rfl, HS2, O9, B9, HA2⟩
       case measure => exact HZ2.out
      ·obtain ⟨j, hj⟩ : ∃ j, k = j + 1 := ⟨k - 1, by omega⟩
       have k1 : (0 : Int) < (k : Int) := by omega
       have k2 : IntKind.i64.wrap ((k : Int) - 1) = (j : Int) := by rw [show (k : Int) - 1 = (j : Int) by omega]; exact IntWalk.i64_in _ (by have := HN.out; omega)
       have k3 : (j : Int) < (k : Int) := by omega
       have k5 : decide (0 < k) = true := decide_eq_true (by omega)
       have k4 : (0 : Int) ≤ (j : Int) := by omega
       obtain ⟨bA, oA, rfl, hbA, hrA⟩ := HR.out.get (k := j) (by rw [entsN_len]; omega)
       obtain ⟨pn, hpn⟩ : ∃ pn, (entK (piece L j)).name = pn := ⟨_, rfl⟩
       have hg : ∀ h, ((entsN L k)[j]'h).name = pn := fun h => by rw [← hpn]; simp [entsN]
       have HC : Hid (∀ w', Below wr.heap.size wr w' → w'.cell? ⟨bA, oA + j * 2, none⟩ = some (.string pn)) := fun w' h => by
        have := hrA 0 (.string pn) (by rw [← hg]; rfl)
        exact (h.cell (p := ⟨bA, oA + j * 2, none⟩) hbA).trans this
       have HST : Hid (stepK L k = ltB pn nm) := by
        show _ = _
        unfold stepK
        rw [HGD.out, Bool.true_and, hj, show (j + 1 == 0) = false from rfl, Bool.false_or, show j + 1 - 1 = j by omega, hpn, ← hj, HX.out]
       have HBD := Lib.hid (fun h => entsO_bad (L := L) HLN.out hlt h)
       have HJ := Lib.hid hj
       clear hrA hpn hj hg
       cases hlt2 : ltB pn nm with
       | false =>
        have HE := Lib.hid (HBD.out (HST.out.trans hlt2))
        have l1 : Op.bytesLess pn.toList nm.toList = false := (less_walk pn nm).trans hlt2
        clear HBD HST HGD
        go_wp2_with (first
         | (refine store_blk 168 (.tmp 7) (.tmp 31) gx 168 #[.string ⟨#[]⟩, .int .i64 0] #[.string nm, .int .i64 (q : Int)] rfl rfl rfl rfl GZ.out rfl (by kernel_rfl) (by simp [Value.oneCell']) ?_; intro w3 hr3 hg3; have d0 := hr3.cell 0 rfl; have d1 := hr3.cell 1 rfl; have GX := Lib.hid hr3; have HB3 := Lib.hid (HB2.out.grown hg3 HB2.out.size (fun j e => by cases e; exact hgx)); have B3 := Lib.hid (B.out.trans (HB3.out.mono B.out.size)); clear hr3 hg3 HB2)
         | (go_at_call 94; refine (CM.out _).mono ?_; rintro e w4 ⟨rfl, hb4⟩; have GX4 := Lib.hid (GX.out.below hb4 GX.out.lt); have HB4 := Lib.hid (HB3.out.trans (hb4.mono HB3.out.size)); have B4 := Lib.hid (B.out.trans (HB4.out.mono B.out.size)); have d4 := GX4.out.cell 0 rfl; have d5 := GX4.out.cell 1 rfl; clear hb4 HB3 B3)
         | (go_at_call 185; refine (CE.out _).mono ?_; rintro e w5 ⟨rfl, hb5⟩; have GX5 := Lib.hid (GX4.out.below hb5 GX4.out.lt); have HB5 := Lib.hid (HB4.out.trans (hb5.mono HB4.out.size)); have B5 := Lib.hid (B.out.trans (HB5.out.mono B.out.size)); clear hb5 HB4 B4))
        have p1 : ∀ u : Ext w5, u.val.cell? ⟨bA, oA + j * 2, none⟩ = some (.string pn) := fun u => HC.out _ (HB5.out.trans (u.below.mono HB5.out.size))
        have p2 : ∀ u : Ext w5, u.val.cell? ⟨gx, 0, none⟩ = some (.string nm) := fun u => u.cell (GX5.out.cell 0 rfl)
        refine wp_region_ext (by kernel_rfl) (by kernel_rfl) ?_
        repeat (go_big_quiet_step (fail))
        refine wpQuiet_nil ?_
        rintro _ ⟨u, rfl⟩
        have B6 := Lib.hid (B5.out.trans (u.below.mono B5.out.size))
        generalize u.val = w6 at B6
        go_wp2
        go_ret2
        rw [HE.out]
        exact ents_none B6.out
       | true =>
       have HOK : Hid (stepK L k = true) := HST.out.trans hlt2
       have l1 : Op.bytesLess pn.toList nm.toList = true := (less_walk pn nm).trans hlt2
       clear HBD HST HGD hlt2
       go_wp2_with (first
        | (refine store_blk 168 (.tmp 7) (.tmp 31) gx 168 #[.string ⟨#[]⟩, .int .i64 0] #[.string nm, .int .i64 (q : Int)] rfl rfl rfl rfl GZ.out rfl (by kernel_rfl) (by simp [Value.oneCell']) ?_; intro w3 hr3 hg3; have d0 := hr3.cell 0 rfl; have d1 := hr3.cell 1 rfl; have GX := Lib.hid hr3; have HB3 := Lib.hid (HB2.out.grown hg3 HB2.out.size (fun j e => by cases e; exact hgx)); have B3 := Lib.hid (B.out.trans (HB3.out.mono B.out.size)); clear hr3 hg3 HB2)
        | (go_at_call 94; refine (CM.out _).mono ?_; rintro e w4 ⟨rfl, hb4⟩; have GX4 := Lib.hid (GX.out.below hb4 GX.out.lt); have HB4 := Lib.hid (HB3.out.trans (hb4.mono HB3.out.size)); have B4 := Lib.hid (B.out.trans (HB4.out.mono B.out.size)); have d4 := GX4.out.cell 0 rfl; have d5 := GX4.out.cell 1 rfl; clear hb4 HB3 B3)
        | (go_at_call 185; refine (CE.out _).mono ?_; rintro e w5 ⟨rfl, hb5⟩; have GX5 := Lib.hid (GX4.out.below hb5 GX4.out.lt); have HB5 := Lib.hid (HB4.out.trans (hb5.mono HB4.out.size)); have B5 := Lib.hid (B.out.trans (HB5.out.mono B.out.size)); clear hb5 HB4 B4))
       have p1 : ∀ u : Ext w5, u.val.cell? ⟨bA, oA + j * 2, none⟩ = some (.string pn) := fun u => HC.out _ (HB5.out.trans (u.below.mono HB5.out.size))
       have p2 : ∀ u : Ext w5, u.val.cell? ⟨gx, 0, none⟩ = some (.string nm) := fun u => u.cell (GX5.out.cell 0 rfl)
       refine wp_region_ext (by kernel_rfl) (by kernel_rfl) ?_
       repeat (go_big_quiet_step (fail))
       refine wpQuiet_nil ?_
       rintro _ ⟨u, rfl⟩
       clear p1 l1 k2
       have HB6 : Hid (Below wr.heap.size wr u.val) := HB5.out.trans (u.below.mono HB5.out.size)
       have GX6 : Hid (Blk u.val gx 168 #[.string nm, .int .i64 (q : Int)]) := GX5.out.below u.below GX5.out.lt
       generalize u.val = w6 at *
       clear GX5 HB5 B5 GX4 d0 d1 d4 d5 GX GZ p2
       have O7 : Hid ((w6.alloc (.cells #[.string nm, .int .i64 (q : Int)] 168)).ownsRow w.heap.size 168 2 _ k (entC (entsN L k))) := World.ownsRow.alloc (own_below O.out HB6.out) _
       have B7 := Lib.hid ((B.out.trans (HB6.out.mono B.out.size)).alloc (B.out.trans (HB6.out.mono B.out.size)).size (.cells #[.string nm, .int .i64 (q : Int)] 168))
       have HC7 : Hid (∀ j u, [Value.string nm, Value.int .i64 (q : Int)][j]? = some u → (w6.alloc (.cells #[.string nm, .int .i64 (q : Int)] 168)).cell? ((⟨w6.heap.size, 0, none⟩ : Addr).add j) = some u) := fun j u hu => by
        have hB := Blk.new w6 168 #[.string nm, .int .i64 (q : Int)]
        rw [add_zero_addr, Nat.zero_add]
        exact hB.cell j (by simpa using hu)
       have H17 : Hid (∀ u ∈ [Value.string nm, Value.int .i64 (q : Int)], u.oneCell' = true) := fun u hu => by
        rcases List.mem_cons.1 hu with rfl | hu
        ·rfl
        ·rcases List.mem_cons.1 hu with rfl | hu
         ·rfl
         ·cases hu
       have HM7 : Hid (k + 1 ≤ maxLen) := by show _ ≤ _; have := HN.out; unfold maxLen; omega
       have HY7 : Hid ((k + 1) * 24 ≤ 140737488355328) := by show _ ≤ _; have := HN.out; omega
       have e0 := GX6.out.cell 0 rfl
       have e1 := GX6.out.cell 1 rfl
       have HS2 : Hid ((s.extract 32 (32 * (N - k))).data.toList = L.drop (32 * (k + 1))) := by
        show _ = _
        rw [← hsz, ext_list, HS.out, List.drop_drop, List.take_of_length_le (by rw [List.length_drop, HLN.out]; omega)]
        congr 1
       have HZ2 : Hid ((s.extract 32 (32 * (N - k))).size < s.size) := by show _ < _; rw [ByteArray.size_extract]; omega
       have HA2 : Hid (∀ i, i < k + 1 → stepK L i = true) := fun i hi => by
        by_cases e : i = k
        ·rw [e]; exact HOK.out
        ·exact HA.out i (by omega)
       have HEN : Hid (entC (entsN L k) ++ [Value.string nm, Value.int .i64 (q : Int)] = entC (entsN L (k + 1))) := by
        show _ = _
        rw [entsN_succ, entC_app, HX.out]
        rfl
       go_wp2_with (at_builtin; refine wpList_append_own _ rfl (.tmp 67) (.tmp 69) 123 rfl w.heap.size 168 i0 (.agg #[.string ⟨#[]⟩, .int .i64 0]) 2 24 Tryz.underlying123 I0.out.1 I0.out.2.1 I0.out.2.2.1 I0.out.2.2.2 rfl (by decide) _ k (entC (entsN L k)) rfl O7.out ⟨w6.heap.size, 0, none⟩ 1 1 [.string nm, .int .i64 (q : Int)] rfl rfl HC7.out H17.out HM7.out HY7.out B7.out.size ?_; intro v9 w9 own hg hv; have O9 : Hid (w9.ownsRow w.heap.size 168 2 v9 (k + 1) (entC (entsN L (k + 1)))) := HEN.out ▸ own; have B9 := Lib.hid (B7.out.grown hg B7.out.size (fun j e => (O7.out.lt j e).1)); clear own hg hv)
       go_roundw
       case rel => exact ⟨k + 1, _, by omega, rfl, HS2, O9, B9, HA2⟩
       case measure => exact HZ2.out
    ·have o4 : (24 : Int) < (c : Int) := by omega
     have HE := Lib.hid (HBAD.out (.inl (by omega)))
     go_wp2
     go_ret2
     rw [HE.out]
     exact ents_none B.out
   ·obtain rfl : k = N := by omega
    have q1 : s.toList.isEmpty = true := by
     rw [str_data]
     cases h : s.data.toList with
     | nil => rfl
     | cons a t => have := congrArg List.length h; rw [Array.length_toList] at this; have h2 : s.size = (a :: t).length := this; simp at h2; omega
    have q2 : s.toList = [] := by simpa using q1
    have HE := Lib.hid (entsO_all HLN.out HA.out)
    go_wp2
    go_ret2
    rw [HE.out]
    exact ⟨⟨_, rfl, by unfold OwnEnts; rw [Option.getD_some, entsN_len]; exact O.out⟩, B.out⟩
 ·have e0 : (((b.size % 32 : Nat) : Int) != 0) = true := by
   simp; omega
  have HO := Lib.hid (entsO_odd (L := b.data.toList) (by rw [hl]; exact hm))
  rw [HO.out]
  go_enter Tryz.func123, Tryz.ntmps123
  go_wp2
  go_ret2
  exact ents_none (Below.refl _ _)
theorem and_127 : ∀ c : Nat, c < 128 → bits BinOp.and IntKind.u8 (c : Int) 127 = (c : Int) := by decide
theorem or_0 : ∀ c : Nat, c < 128 → bits BinOp.or IntKind.i64 0 (c : Int) = (c : Int) := by decide
theorem wrap_128 (c : Nat) (h : c < 128) : wrap64 (c : Int) = (c : Int) := by
 unfold wrap64
 omega
set_option maxHeartbeats 400000 in
theorem length_any (s : ByteArray) (c : Nat) (w : World) (hs : s.size ≤ 140737488355328) (h0 : 0 < s.size) (hc : ∀ h : 0 < s.size, (s[0].toNat) = c) (h7 : c < 128) :
  Calls Tryz.prog 218 #[.string s] w fun e w' => e = .returned (.tuple #[.int .i64 c, .int .i64 1, .int .i64 0]) ∧ w' = w := by
 have o1 := hc h0
 have i0 : (0 : Int) < (s.size : Int) := by omega
 have n1 : ¬ (128 : Int) ≤ (c : Int) := by omega
 have a1 := and_127 c h7
 have a2 := or_0 c h7
 have a3 := wrap_128 c h7
 clear hc
 rcases Nat.eq_zero_or_pos c with rfl | hp
 ·have z1 : bits BinOp.and IntKind.u8 0 127 = 0 := by decide
  have z2 : bits BinOp.or IntKind.i64 0 0 = 0 := by decide
  have z3 : wrap64 0 = 0 := wrap_128 0 (by decide)
  go_enter Tryz.func218, Tryz.ntmps218
  go_wp2
  go_loopw [5, 10] (fun n i wr => n = .int .i64 0 ∧ i = .int .i64 0 ∧ w = wr) (fun _ _ _ => 0)
  case atStart => exact ⟨rfl, rfl, rfl⟩
  case round =>
   obtain ⟨rfl, rfl, rfl⟩ := hrel
   go_wp2
   go_ret3
   exact ⟨rfl, rfl⟩
 ·have nz : ((c : Int) == 0) = false := by simpa using (by omega : ¬ (c : Int) = 0)
  clear hp
  go_enter Tryz.func218, Tryz.ntmps218
  go_wp2
  go_loopw [5, 10] (fun n i wr => n = .int .i64 0 ∧ i = .int .i64 0 ∧ w = wr) (fun _ _ _ => 0)
  case atStart => exact ⟨rfl, rfl, rfl⟩
  case round =>
   obtain ⟨rfl, rfl, rfl⟩ := hrel
   go_wp2
   go_ret3
   exact ⟨rfl, rfl⟩
theorem head_byte {s : ByteArray} {c : UInt8} {r : List UInt8} (h : s.data.toList = c :: r) (h0 : 0 < s.size) : s[0].toNat = c.toNat := by
 have : s.data.toList[0]? = some c := by rw [h]; rfl
 have hd : s.data.size = s.size := rfl
 rw [Array.getElem?_toList, Array.getElem?_eq_getElem (by omega)] at this
 have e : s.data[0] = c := Option.some.inj this
 show (s.data[0]).toNat = c.toNat
 rw [e]
set_option maxHeartbeats 4000000 in
theorem texts_any (s : ByteArray) (ts : List ByteArray) (w : World) (hs : s.data.toList = rowT ts) (hl : ts.length ≤ 1000) (hn : ∀ t ∈ ts, t.size ≤ 127) :
  Calls Tryz.prog 184 #[.string s] w (RowCode ts 0 w) := by
 obtain ⟨i0, q1, q2, q3, q4⟩ := info_parts str_info
 have I0 := Lib.hid (And.intro q1 (And.intro q2 (And.intro q3 q4)))
 have HL : Hid (ts.length ≤ 1000) := hl
 have HN := Lib.hid hn
 have HB0 : Hid (s.data.toList = rowT (ts.drop 0)) := hs
 have O0 : Hid (w.ownsRow w.heap.size 9 1 (.slice none 0 0) 0 ((ts.take 0).map .string)) := World.ownsRow_nil _ _ _ _
 have HBL := Lib.hid (Below.refl w.heap.size w)
 clear q1 q2 q3 q4 hs hn hl
 go_enter Tryz.func184, Tryz.ntmps184
 go_wp2
 go_loopw [0, 4] (fun t v wr => ∃ (k : Nat) (s : ByteArray), k ≤ ts.length ∧ t = .string s ∧ Hid (s.data.toList = rowT (ts.drop k)) ∧ Hid (wr.ownsRow w.heap.size 9 1 v k ((ts.take k).map .string)) ∧ Hid (Below w.heap.size w wr)) (fun t _ _ => strSz t)
 case atStart => exact ⟨0, s, Nat.zero_le _, rfl, HB0, O0, HBL⟩
 case round =>
  clear HB0 O0 HBL
  obtain ⟨k, s, hk, rfl, HS, O, B⟩ := hrel
  by_cases hlt : k < ts.length
  ·have hdr : ts.drop k = ts[k] :: ts.drop (k + 1) := List.drop_eq_getElem_cons hlt
   have h1 := HN.out _ (List.getElem_mem hlt)
   have hs := HS.out
   have htk : (ts.take k).map Value.string ++ [Value.string ts[k]] = (ts.take (k + 1)).map .string := by rw [List.take_succ_eq_append_getElem hlt, List.map_append]; rfl
   rw [hdr, rowT_cons] at hs
   generalize ts[k] = x at *
   have hsz : s.size = 1 + x.size + (rowT (ts.drop (k + 1))).length := by
    rw [← dsize, hs, List.length_cons, List.length_append, dsize]; omega
   have hc : ∀ h : 0 < s.size, s[0].toNat = x.size := fun h => by rw [head_byte hs h]; simp; omega
   have hrt : (rowT (ts.drop (k + 1))).length ≤ 128000 := by
    have := rowT_le (ts.drop (k + 1)) fun t ht => HN.out t (List.mem_of_mem_drop ht)
    rw [List.length_drop] at this
    have := HL.out
    omega
   have CL := Lib.hid (fun w => length_any s x.size w (by omega) (by omega) hc (by omega))
   have HTK := Lib.hid htk
   obtain ⟨s1, hs1⟩ : ∃ s1, s.extract 1 s.size = s1 := ⟨_, rfl⟩
   have d1 : s1.data.toList = x.data.toList ++ rowT (ts.drop (k + 1)) := by
    rw [← hs1, ext_list, hs]
    rw [List.drop_succ_cons, List.drop_zero, List.take_of_length_le (by rw [List.length_append, dsize]; omega)]
   have z1 : s1.size = x.size + (rowT (ts.drop (k + 1))).length := by rw [← dsize, d1, List.length_append, dsize]
   have e0 : s1.extract 0 x.size = x := by
    apply WideShapes.bytes_inj
    rw [ext_list, d1, List.drop_zero, Nat.sub_zero, List.take_left' (dsize x)]
   obtain ⟨s2, hs2⟩ : ∃ s2, s1.extract x.size s1.size = s2 := ⟨_, rfl⟩
   have d2 : Hid (s2.data.toList = rowT (ts.drop (k + 1))) := by
    show _ = _
    rw [← hs2, ext_list, d1, List.drop_left' (dsize x), List.take_of_length_le (by omega)]
   have HZ : Hid (s2.size < s.size) := by show _ < _; rw [← dsize s2, d2.out]; omega
   have i1 : (0 : Int) < (s.size : Int) := by omega
   have i2 : (1 : Int) ≤ (s.size : Int) := by omega
   have i3 : ¬ (s1.size : Int) < (x.size : Int) := by omega
   have i4 : (x.size : Int) ≤ (s1.size : Int) := by omega
   have HM7 : Hid (k + 1 ≤ maxLen) := by show _ ≤ _; have := HL.out; unfold maxLen; omega
   have HY7 : Hid ((k + 1) * 16 ≤ 140737488355328) := by show _ ≤ _; have := HL.out; omega
   have O7 : Hid ((wr.alloc (.cells #[.string x] 9)).ownsRow w.heap.size 9 1 _ k ((ts.take k).map .string)) := World.ownsRow.alloc O.out _
   have B7 := Lib.hid (B.out.alloc B.out.size (.cells #[.string x] 9))
   have HC7 : Hid (∀ j u, [Value.string x][j]? = some u → (wr.alloc (.cells #[.string x] 9)).cell? ((⟨wr.heap.size, 0, none⟩ : Addr).add j) = some u) := fun j u hu => by
    have hB := Blk.new wr 9 #[.string x]
    rw [add_zero_addr, Nat.zero_add]
    exact hB.cell j (by simpa using hu)
   have H17 : Hid (∀ u ∈ [Value.string x], u.oneCell' = true) := fun u hu => by
    rcases List.mem_cons.1 hu with rfl | hu
    ·rfl
    ·cases hu
   clear hs hsz hc hrt htk d1 h1 hdr z1
   go_wp2_with fail
   refine (CL.out _).mono ?_
   rintro e' w2 ⟨rfl, rfl⟩
   clear CL
   go_wp2_with (at_builtin; refine wpList_append_own _ rfl (.tmp 27) (.tmp 31) 24 rfl w.heap.size 9 i0 (.string ⟨#[]⟩) 1 16 Tryz.underlying24 I0.out.1 I0.out.2.1 I0.out.2.2.1 I0.out.2.2.2 rfl (by decide) _ k ((ts.take k).map .string) rfl O7.out ⟨w2.heap.size, 0, none⟩ 1 1 [.string x] rfl rfl HC7.out H17.out HM7.out HY7.out B7.out.size ?_; intro v9 w9 own hg hv; have O9 : Hid (w9.ownsRow w.heap.size 9 1 v9 (k + 1) ((ts.take (k + 1)).map .string)) := HTK.out ▸ own; have B9 := Lib.hid (B7.out.grown hg B7.out.size (fun j e => (O7.out.lt j e).1)); clear own hg hv)
   go_roundw
   case rel => exact ⟨k + 1, _, by omega, rfl, d2, O9, B9⟩
   case measure => exact HZ.out
  ·obtain rfl : k = ts.length := by omega
   have hz : s.size = 0 := by rw [← dsize, HS.out, List.drop_length]; rfl
   have i1 : ¬ (0 : Int) < (s.size : Int) := by omega
   have HT : Hid (ts.take ts.length = ts) := List.take_length
   rw [HT.out] at O
   go_wp2
   go_ret2
   exact ⟨⟨_, rfl, O.out⟩, B.out⟩
end Go.Proofs.YtdldlendppkknaaGreatDoor
namespace Go.Proofs
open Go.Shelf
def Tryz.lays106_ren : Go.Shelf.Ren := ⟨fun | 106 => 112 | 213 => 180 | 265 => 216 | n => n, fun | 9 => 9 | 3 => 3 | n => n, fun | n => n⟩
theorem Tryz.lays106 : Go.Proofs.Lays.n106 Tryz.prog Tryz.lays106_ren := {
 mixed := by kernel_rfl
 f106 := Tryz.func112.trans (congrArg some (by kernel_rfl))
 f213 := Tryz.func180.trans (congrArg some (by kernel_rfl))
 f265 := Tryz.func216.trans (congrArg some (by kernel_rfl))
 t3 := Tryz.underlying3
 a3 := Tryz.isAgg3
 z3 := Tryz.sizeOf3
 v3 := Tryz.zeroValue3
 t9 := Tryz.underlying9
 a9 := Tryz.isAgg9
 z9 := Tryz.sizeOf9
 v9 := Tryz.zeroValue9 }
open Go.RowKit in
theorem Tryz.strings_Compare (a b : ByteArray) (w : World) :
  Calls Tryz.prog 112 #[.string a, .string b] w fun e w' => e = .returned (.int .i64 (Lib.compareBytes a.data.toList b.data.toList)) ∧ w' = w := Any.strings_Compare Tryz.lays106 a b w
def Tryz.lays137_ren : Go.Shelf.Ren := ⟨fun | 137 => 97 | 217 => 166 | 266 => 201 | n => n, fun | 9 => 9 | 5 => 5 | 3 => 3 | n => n, fun | n => n⟩
theorem Tryz.lays137 : Go.Proofs.Lays.n137 Tryz.prog Tryz.lays137_ren := {
 mixed := by kernel_rfl
 f137 := Tryz.func97.trans (congrArg some (by kernel_rfl))
 f217 := Tryz.func166.trans (congrArg some (by kernel_rfl))
 f266 := Tryz.func201.trans (congrArg some (by kernel_rfl))
 t3 := Tryz.underlying3
 a3 := Tryz.isAgg3
 z3 := Tryz.sizeOf3
 v3 := Tryz.zeroValue3
 t5 := Tryz.underlying5
 a5 := Tryz.isAgg5
 z5 := Tryz.sizeOf5
 v5 := Tryz.zeroValue5
 t9 := Tryz.underlying9
 a9 := Tryz.isAgg9
 z9 := Tryz.sizeOf9
 v9 := Tryz.zeroValue9 }
open Go.RowKit in
theorem Tryz.strings_IndexByte (s : ByteArray) (c : Int) (w : World) :
  Calls Tryz.prog 97 #[.string s, .int .u8 c] w fun e w' => e = .returned (.int .i64 (Lib.indexByte s.data.toList c.toNat.toUInt8)) ∧ w' = w := Any.strings_IndexByte Tryz.lays137 s c w
def Tryz.lays149_ren : Go.Shelf.Ren := ⟨fun | 149 => 124 | 222 => 186 | n => n, fun | 9 => 9 | 5 => 5 | 3 => 3 | 4 => 4 | n => n, fun | n => n⟩
theorem Tryz.lays149 : Go.Proofs.Lays.n149 Tryz.prog Tryz.lays149_ren := {
 mixed := by kernel_rfl
 f149 := Tryz.func124.trans (congrArg some (by kernel_rfl))
 f222 := Tryz.func186.trans (congrArg some (by kernel_rfl))
 t3 := Tryz.underlying3
 a3 := Tryz.isAgg3
 z3 := Tryz.sizeOf3
 v3 := Tryz.zeroValue3
 t4 := Tryz.underlying4
 a4 := Tryz.isAgg4
 z4 := Tryz.sizeOf4
 v4 := Tryz.zeroValue4
 t5 := Tryz.underlying5
 a5 := Tryz.isAgg5
 z5 := Tryz.sizeOf5
 v5 := Tryz.zeroValue5
 t9 := Tryz.underlying9
 a9 := Tryz.isAgg9
 z9 := Tryz.sizeOf9
 v9 := Tryz.zeroValue9 }
open Go.RowKit Go.Lib in
theorem Tryz.strings_LastIndexByte (s : ByteArray) (c : Int) (hs : s.size < 4611686018427387904) (w : World) :
  Calls Tryz.prog 124 #[.string s, .int .u8 c] w fun e w' => e = .returned (.int .i64 (Lib.lastIndexByte s c)) ∧ w' = w := Any.strings_LastIndexByte Tryz.lays149 s c hs w
def Tryz.lays99_ren : Go.Shelf.Ren := ⟨fun | 99 => 89 | 206 => 163 | n => n, fun | 9 => 9 | 4 => 4 | 3 => 3 | n => n, fun | n => n⟩
theorem Tryz.lays99 : Go.Proofs.Lays.n99 Tryz.prog Tryz.lays99_ren := {
 mixed := by kernel_rfl
 f99 := Tryz.func89.trans (congrArg some (by kernel_rfl))
 f206 := Tryz.func163.trans (congrArg some (by kernel_rfl))
 t3 := Tryz.underlying3
 a3 := Tryz.isAgg3
 z3 := Tryz.sizeOf3
 v3 := Tryz.zeroValue3
 t4 := Tryz.underlying4
 a4 := Tryz.isAgg4
 z4 := Tryz.sizeOf4
 v4 := Tryz.zeroValue4
 t9 := Tryz.underlying9
 a9 := Tryz.isAgg9
 z9 := Tryz.sizeOf9
 v9 := Tryz.zeroValue9 }
open Go.RowKit Go.Lib in
theorem Tryz.strings_HasPrefix (s p : ByteArray) (w : World) :
  Calls Tryz.prog 89 #[.string s, .string p] w fun e w' => e = .returned (.bool (Lib.hasPrefix s.data.toList p.data.toList)) ∧ w' = w := Any.strings_HasPrefix Tryz.lays99 s p w
def Tryz.lays101_ren : Go.Shelf.Ren := ⟨fun | 101 => 96 | 208 => 165 | 206 => 163 | n => n, fun | 9 => 9 | 4 => 4 | 3 => 3 | n => n, fun | n => n⟩
theorem Tryz.lays101 : Go.Proofs.Lays.n101 Tryz.prog Tryz.lays101_ren := {
 mixed := by kernel_rfl
 f101 := Tryz.func96.trans (congrArg some (by kernel_rfl))
 f206 := Tryz.func163.trans (congrArg some (by kernel_rfl))
 f208 := Tryz.func165.trans (congrArg some (by kernel_rfl))
 t3 := Tryz.underlying3
 a3 := Tryz.isAgg3
 z3 := Tryz.sizeOf3
 v3 := Tryz.zeroValue3
 t4 := Tryz.underlying4
 a4 := Tryz.isAgg4
 z4 := Tryz.sizeOf4
 v4 := Tryz.zeroValue4
 t9 := Tryz.underlying9
 a9 := Tryz.isAgg9
 z9 := Tryz.sizeOf9
 v9 := Tryz.zeroValue9 }
open Go.RowKit Go.Lib in
theorem Tryz.strings_TrimPrefix (s p : ByteArray) (w : World) :
  Calls Tryz.prog 96 #[.string s, .string p] w fun e w' => e = .returned (.string ⟨(Lib.trimPrefix s.data.toList p.data.toList).toArray⟩) ∧ w' = w := Any.strings_TrimPrefix Tryz.lays101 s p w
open Go.Shelf Go.RowKit Go.Lib Go.Sort
def Tryz.laysSearch_ren : Go.Shelf.Ren := ⟨fun | 16 => 167 | n => n, fun | 3 => 3 | 4 => 4 | 35 => 118 | 38 => 82 | n => n, fun | n => n⟩
theorem Tryz.laysSearch : SlLaysO.n16 Tryz.prog Tryz.laysSearch_ren := {
 mixed := by kernel_rfl
 f16 := Tryz.func167.trans (congrArg some (by kernel_rfl))
 t3 := Tryz.underlying3
 a3 := Tryz.isAgg3
 z3 := Tryz.sizeOf3
 v3 := Tryz.zeroValue3
 t4 := Tryz.underlying4
 a4 := Tryz.isAgg4
 z4 := Tryz.sizeOf4
 v4 := Tryz.zeroValue4
 t35 := Tryz.underlying118
 a35 := Tryz.isAgg118
 z35 := Tryz.sizeOf118
 v35 := Tryz.zeroValue118
 t38 := Tryz.underlying82
 a38 := Tryz.isAgg82
 z38 := Tryz.sizeOf82
 v38 := Tryz.zeroValue82 }
theorem Tryz.sort_Search (g : FuncId) (cb : Array Value) (n : Nat) (p : Nat → Bool) (w : World) (eg : ∀ args w, (callFunc g args).run Tryz.prog w = .ok (.enter g args) w) (hsz : n < 4611686018427387904)
  (hf : ∀ (m : Nat) (os : Array Obj) (i : Nat), i < n → Calls Tryz.prog g (#[.int .i64 i] ++ cb) (grow (w.drewN m) os) fun e w' => e = .returned (.bool (p i)) ∧ ∃ q os', w' = grow ((grow (w.drewN m) os).drewN q) os')
  (hmono : ∀ a b, a ≤ b → b < n → p a = true → p b = true) :
  Calls Tryz.prog 167 #[.int .i64 n, .func (.func g) #[] cb] w fun e w' => e = .returned (.int .i64 ((List.range n).countP (fun i => !p i) : Nat)) ∧ ∃ q os, w' = grow (w.drewN q) os := Any.sort_Search Tryz.laysSearch g cb n p w eg hsz hf hmono
end Go.Proofs
