/-
  What the document's Set and Check of layer 22 do.
-/
import Derived.Test.YtjmafegckfijbaaRQuoA
import Derived.Test.YtjmafegckfijbaaQuoK
import Derived.RegionTactic
import Derived.BigRegion
namespace Go.Proofs.Ytjmafegckfijbaa
open Go.RowKit
set_option linter.unusedVariables false
set_option linter.unusedSimpArgs false
set_option maxRecDepth 100000
set_option maxHeartbeats 4000000 in
theorem rset22_any (A : Option Addr) (c : Nat) (xs : List ByteArray) (o lm : Int) (w : World) (hx : xs.length ≤ 1000000) (h : RowAt w w.heap.size A (xs.map .string)) :
    Calls Try.prog 27 #[.slice A xs.length c, .int .i64 o, .int .i64 lm] w (RowCode (setO xs o lm).1 (setO xs o lm).2 w) := by
  have HR := Lib.hid h
  clear h
  cases ho : ofR xs with
  | none =>
    have HL : Hid (setO xs o lm = ([], 3)) := by show _ = _; unfold setO quoE; rw [ho]; rfl
    have CO := Lib.hid (rof_any A c xs w hx HR.out)
    unfold OfPost ofE at CO
    rw [ho] at CO
    dsimp only at CO
    clear ho
    go_enter Try.func27, Try.ntmps27
    go_wp2_with fail
    refine CO.out.mono ?_
    rintro e w1 ⟨rfl, hb1⟩
    have B1 := Lib.hid hb1
    have hz1 := hb1.size
    clear hb1
    go_wp2
    go_ret2
    rw [HL.out]
    exact ⟨⟨_, rfl, own_nil _ _⟩, B1.out.alloc hz1 _⟩
  | some m =>
    have hv := ofR_some.1 ho
    have hvl := hv.len
    have CO := Lib.hid (rof_any A c xs w hx HR.out)
    unfold OfPost ofE at CO
    rw [ho] at CO
    dsimp only at CO
    by_cases hb : o < 0 ∨ 16 ≤ o
    · have HL : Hid (setO xs o lm = ([], 1)) := by show _ = _; unfold setO quoE; rw [ho]; dsimp only; rw [if_pos hb, if_pos (by omega)]
      by_cases hb1 : o < 0
      · clear ho hv hb
        go_enter Try.func27, Try.ntmps27
        go_wp2_with fail
        refine CO.out.mono ?_
        rintro e w1 ⟨rfl, hb1⟩
        have B1 := Lib.hid hb1
        have hz1 := hb1.size
        clear hb1
        go_wp2
        go_ret2
        rw [HL.out]
        exact ⟨⟨_, rfl, own_nil _ _⟩, B1.out.alloc hz1 _⟩
      · have hb2 : 15 < o := by omega
        clear ho hv hb
        go_enter Try.func27, Try.ntmps27
        go_wp2_with fail
        refine CO.out.mono ?_
        rintro e w1 ⟨rfl, hb1⟩
        have B1 := Lib.hid hb1
        have hz1 := hb1.size
        clear hb1
        go_wp2
        go_ret2
        rw [HL.out]
        exact ⟨⟨_, rfl, own_nil _ _⟩, B1.out.alloc hz1 _⟩
    · obtain ⟨q, rfl⟩ := Int.eq_ofNat_of_zero_le (show 0 ≤ o by omega)
      have hq : q < 16 := by omega
      have hq1 : decide ((q : Int) < 0) = false := by simp
      have hq2 : ¬ 15 < (q : Int) := by omega
      have HE : Hid (quoE xs (q : Int) = 0) := by show _ = _; unfold quoE; rw [ho]; dsimp only; rw [if_neg hb]
      have HL0 : Hid (setO xs (q : Int) lm = if lm < 0 ∨ 65535 < lm then ([], 2) else if overB xs (q : Int) lm = true then ([], 13) else (layX xs 1 (2 * q) (putL lm.toNat 2), 0)) := by show _ = _; unfold setO; rw [HE.out]; rfl
      by_cases hl : lm < 0 ∨ 65535 < lm
      · have HL : Hid (setO xs (q : Int) lm = ([], 2)) := by show _ = _; rw [HL0.out, if_pos hl]
        clear ho hv hb HL0
        by_cases hl1 : lm < 0
        · clear hl
          go_enter Try.func27, Try.ntmps27
          go_wp2_with fail
          refine CO.out.mono ?_
          rintro e w1 ⟨rfl, hb1⟩
          have B1 := Lib.hid hb1
          have hz1 := hb1.size
          clear hb1
          go_wp2
          go_ret2
          rw [HL.out]
          exact ⟨⟨_, rfl, own_nil _ _⟩, B1.out.alloc hz1 _⟩
        · have hl2 : 65535 < lm := by omega
          clear hl
          go_enter Try.func27, Try.ntmps27
          go_wp2_with fail
          refine CO.out.mono ?_
          rintro e w1 ⟨rfl, hb1⟩
          have B1 := Lib.hid hb1
          have hz1 := hb1.size
          clear hb1
          go_wp2
          go_ret2
          rw [HL.out]
          exact ⟨⟨_, rfl, own_nil _ _⟩, B1.out.alloc hz1 _⟩
      obtain ⟨k, rfl⟩ := Int.eq_ofNat_of_zero_le (show 0 ≤ lm by omega)
      rw [if_neg hl, Int.toNat_natCast] at HL0
      have hk1 : decide ((k : Int) < 0) = false := by simp
      have hk2 : ¬ 65535 < (k : Int) := by omega
      have hkk : k ≤ 65535 := by omega
      have CV := Lib.hid (fun w h => rover_any A c xs (q : Int) (k : Int) w hx h)
      cases hov : overB xs (q : Int) (k : Int) with
      | true =>
        have HL : Hid (setO xs (q : Int) (k : Int) = ([], 13)) := by show _ = _; rw [HL0.out, hov]; rfl
        rw [hov] at CV
        clear ho hv hb hl HL0 HE hov
        go_enter Try.func27, Try.ntmps27
        go_wp2_with fail
        refine CO.out.mono ?_
        rintro e w1 ⟨rfl, hb1⟩
        have B1 := Lib.hid hb1
        have hz1 := hb1.size
        have B2 := Lib.hid (B1.out.alloc hz1 (.cells #[.int .i64 (xs.length : Int), .int .i64 (m : Int), .int .i64 1, .int .i64 2, .int .i64 3, .int .i64 (dataN m : Int)] 66))
        have R2 := Lib.hid ((HR.out.below B2.out).mono B2.out.size)
        clear hb1 CO
        go_wp2_with fail
        refine (CV.out _ R2.out).mono ?_
        rintro e w3 ⟨rfl, hb3⟩
        have B3 := Lib.hid (B2.out.trans (hb3.mono B2.out.size))
        clear hb3
        go_wp2
        go_ret2
        rw [HL.out]
        exact ⟨⟨_, rfl, own_nil _ _⟩, B3.out⟩
      | false =>
        rw [hov] at CV HL0
        obtain ⟨j0, q1, q2, q3, q4⟩ := info_parts str_info
        have J0 := Lib.hid (And.intro q1 (And.intro q2 (And.intro q3 q4)))
        obtain ⟨bb, oo, rfl, hbb, hc⟩ := row_get HR.out 1 (by omega)
        have hsz := hv.size 1 (by omega)
        have HLX : Hid (layX xs 1 (2 * q) (putL k 2) = xs.set 1 (layB (xs.getD 1 ⟨#[]⟩) (2 * q) (putL k 2))) := rfl
        generalize hs : xs.getD 1 ⟨#[]⟩ = s at hsz hc HLX
        have HS := Lib.hid hs
        obtain ⟨p, hp⟩ : ∃ p, 2 * q = p := ⟨_, rfl⟩
        rw [hp] at HLX HL0
        have p1 : (2 : Int) * (q : Int) = (p : Int) := by omega
        have p2 : p + 2 ≤ 128 := by omega
        obtain ⟨ra, hra⟩ : ∃ ra, k % 256 = ra := ⟨_, rfl⟩
        obtain ⟨qa, hqa⟩ : ∃ qa, k / 256 = qa := ⟨_, rfl⟩
        have ra2 : ra < 256 := by omega
        have qa2 : qa < 256 := by omega
        obtain ⟨st, hst⟩ : ∃ st : ByteArray, (⟨#[UInt8.ofNat ra, UInt8.ofNat qa]⟩ : ByteArray) = st := ⟨_, rfl⟩
        have hstl : st.data.toList = putL k 2 := by
          rw [← hst, putL_succ, putL_succ, hra, hqa, Nat.mod_eq_of_lt qa2]; rfl
        have hst2 : st.size = 2 := by rw [← hst]; rfl
        have HLAY : Hid (layX xs 1 p (putL k 2) = xs.set 1 (s.extract 0 p ++ st ++ s.extract (p + 2) s.size)) := by
          show _ = _
          rw [HLX.out]
          congr 1
          apply WideShapes.bytes_inj
          have e1 := Lib.extract_data s 0 p
          have e2 : (s.extract (p + 2) s.size).data.toList = s.data.toList.drop (p + 2) := by
            rw [Lib.extract_data, List.take_of_length_le]
            rw [List.length_drop, Array.length_toList]; exact Nat.le_refl _
          rw [layB_list, putL_length]
          simp only [ByteArray.data_append, Array.toList_append, e1, e2, List.drop_zero, Nat.sub_zero, hstl]
        have HL : Hid (setO xs (q : Int) (k : Int) = (layX xs 1 p (putL k 2), 0)) := by show _ = _; rw [HL0.out]; rfl
        have HCV : Hid (∀ (w : World) (g : Nat), Blk w g 5 #[.int .u8 (ra : Int), .int .u8 (qa : Int)] → (convert 62 9 (.slice (some ⟨g, 0, none⟩) 2 2)).run Try.prog w = .ok (.string st) w) := fun w g hb => by
          rw [← hst]
          refine conv_blk (P := Try.prog) (t := 5) 2 ?_ rfl 2 Try.underlying62 Try.underlying5 Try.underlying9
          have e1 : (UInt8.ofNat ra).toNat = ra := by rw [UInt8.toNat_ofNat']; exact Nat.mod_eq_of_lt (by omega)
          have e2 : (UInt8.ofNat qa).toNat = qa := by rw [UInt8.toNat_ofNat']; exact Nat.mod_eq_of_lt (by omega)
          rw [show ((⟨#[UInt8.ofNat ra, UInt8.ofNat qa]⟩ : ByteArray).data.toList.map fun x => Value.int .u8 (x.toNat : Int)).toArray = #[.int .u8 (ra : Int), .int .u8 (qa : Int)] by simp [e1, e2]]
          exact hb
        have ze : ∀ a b, a ≤ b → b ≤ 128 → (s.extract a b).size = b - a := fun a b h1 h2 => by rw [ByteArray.size_extract]; omega
        have ad1 := fun (w : World) => run_string_add_sum (P := Try.prog) (w := w) (s.extract 0 p) st (by rw [ze 0 p (by omega) (by omega)]; omega)
        have ad2 := fun (w : World) => run_string_add_sum (P := Try.prog) (w := w) (s.extract 0 p ++ st) (s.extract (p + 2) s.size) (by rw [ByteArray.size_append, ze 0 p (by omega) (by omega), ze (p + 2) s.size (by omega) (by omega)]; omega)
        have t1 : (k : Int).tmod 256 = (ra : Int) := by rw [← hra]; rfl
        have t2 : (k : Int).tdiv 256 = (qa : Int) := by rw [← hqa]; rfl
        have t3 : (k : Int) % 256 = (ra : Int) := by omega
        have t4 : (k : Int) / 256 = (qa : Int) := by omega
        have t5 : IntKind.u8.wrap (ra : Int) = (ra : Int) := IntWalk.u8_in _ (by omega)
        have t6 : IntKind.u8.wrap (qa : Int) = (qa : Int) := IntWalk.u8_in _ (by omega)
        have t7 : IntKind.i64.wrap (ra : Int) = (ra : Int) := IntWalk.i64_in _ (by omega)
        have t8 : IntKind.i64.wrap (qa : Int) = (qa : Int) := IntWalk.i64_in _ (by omega)
        have s0 : IntKind.i64.wrap ((2 : Int) * (q : Int)) = (p : Int) := by rw [p1]; exact IntWalk.i64_in _ (by omega)
        have s1 : IntKind.i64.wrap ((p : Int) + 2) = (p : Int) + 2 := IntWalk.i64_in _ (by omega)
        have s2 : (0 : Int) ≤ (p : Int) + 2 := by omega
        have s3 : ((p : Int) + 2).toNat = p + 2 := by omega
        have s4 : (p : Int) ≤ (s.size : Int) := by omega
        have s5 : (p : Int) + 2 ≤ (s.size : Int) := by omega
        have s6 : (0 : Int) ≤ (p : Int) := by omega
        have s7 : (1 : Int) < (xs.length : Int) := by omega
        clear ho hv hb hl q1 q2 q3 q4 hst hp hs HLX HE ze hstl hsz HL0 hov hra hqa
        go_enter Try.func27, Try.ntmps27
        go_wp2_with fail
        refine CO.out.mono ?_
        rintro e w1 ⟨rfl, hb1⟩
        have B1 := Lib.hid hb1
        have hz1 := hb1.size
        have G1 := Lib.hid (Blk.new w1 66 #[.int .i64 (xs.length : Int), .int .i64 (m : Int), .int .i64 1, .int .i64 2, .int .i64 3, .int .i64 (dataN m : Int)])
        have B2 := Lib.hid (B1.out.alloc hz1 (.cells #[.int .i64 (xs.length : Int), .int .i64 (m : Int), .int .i64 1, .int .i64 2, .int .i64 3, .int .i64 (dataN m : Int)] 66))
        have R2 := Lib.hid ((HR.out.below B2.out).mono B2.out.size)
        clear hb1 CO
        go_wp2_with fail
        refine (CV.out _ R2.out).mono ?_
        rintro e w3 ⟨rfl, hb3⟩
        have B3 := Lib.hid (B2.out.trans (hb3.mono B2.out.size))
        have G3 := Lib.hid (G1.out.below hb3 G1.out.lt)
        clear hb3 CV
        have I4 := (Below.refl w3.heap.size w3).alloc (Nat.le_refl _) (.cells #[] 9)
        have B40 := Lib.hid (B3.out.trans (I4.mono B3.out.size))
        have G40 := Lib.hid (G3.out.below I4 G3.out.lt)
        have HW : Hid ((w3.alloc (.cells #[] 9)).ownsRow w.heap.size 9 1 (.slice (some ⟨w3.heap.size, 0, none⟩) 0 0) 0 []) := World.ownsRow_lit w3 #[] 0 B3.out.size (by decide) rfl
        have HNE : Hid (w1.heap.size ≠ w3.heap.size) := by have := G3.out.lt; show _ ≠ _; omega
        have HZ3 : Hid (w.heap.size ≤ w3.heap.size) := B3.out.size
        clear I4
        have R3 := Lib.hid ((HR.out.below B40.out).mono B40.out.size)
        have HC : Hid (∀ j u, (xs.map Value.string)[j]? = some u → (w3.alloc (.cells #[] 9)).cell? ((⟨bb, oo, none⟩ : Addr).add j) = some u) := fun j u hu => by
          have : (⟨bb, oo, none⟩ : Addr).add j = ⟨bb, oo + j, none⟩ := by unfold Addr.add; split <;> simp_all
          obtain ⟨b', o', hA, _, hcc⟩ := R3.out.at_ (by simp; omega)
          cases hA
          rw [this]; exact hcc j u hu
        have H1 := Lib.hid (str_cells xs)
        have HM : Hid (0 + xs.length ≤ maxLen) := by show _ ≤ _; unfold maxLen; omega
        have HY : Hid ((0 + xs.length) * 16 ≤ 140737488355328) := by show _ ≤ _; omega
        go_wp2_with (at_builtin; refine wpList_append_own _ rfl (.tmp 36) (.tmp 37) 22 rfl w.heap.size 9 j0 (.string ⟨#[]⟩) 1 16 Try.underlying22 J0.out.1 J0.out.2.1 J0.out.2.2.1 J0.out.2.2.2 rfl (by decide) _ 0 [] rfl HW.out ⟨bb, oo, none⟩ xs.length c (xs.map .string) rfl (by rw [List.length_map, Nat.mul_one]) HC.out H1.out HM.out HY.out B40.out.size ?_; intro v9 W2 own hg hv9; rw [Nat.zero_add, List.nil_append] at own; obtain ⟨gr, cr, rfl⟩ := Go.Joins.ownsRow_form own (by omega); have G4 := G40.out.grown hg (by intro e; exact HNE.out (Option.some.inj e)); have c4 := G4.cell 2 rfl; have B4 := Lib.hid (B40.out.grown hg B40.out.size (by intro k hk; cases hk; exact HZ3.out)); have cs4 : W2.cell? ⟨bb, oo + 1, none⟩ = some (.string s) := (B4.out.cell (p := ⟨bb, oo + 1, none⟩) hbb).trans hc)
        have OR := Lib.hid own
        have hgr : w.heap.size ≤ gr := (own.lt gr rfl).1
        have hcv := HCV.out (W2.alloc (.cells #[.int .u8 (ra : Int), .int .u8 (qa : Int)] 5)).drew W2.heap.size (Blk.new W2 5 _).drew
        have d1 : W2.cell? ⟨gr, 1, none⟩ = some (.string (xs.getD 1 ⟨#[]⟩)) := by
          rw [OR.out.cellAt 1 (by omega)]
          rw [List.getElem?_map, List.getD_eq_getElem?_getD, List.getElem?_eq_getElem (by omega)]; rfl
        have d2 : W2.frozen? ⟨gr, 1, none⟩ = false := OR.out.frozenAt 1
        generalize xs.getD 1 ⟨#[]⟩ = s' at d1
        have I5 := (Below.refl W2.heap.size W2).alloc (Nat.le_refl _) (.cells #[.int .u8 (ra : Int), .int .u8 (qa : Int)] 5)
        have hl1 : w1.heap.size < W2.heap.size := G4.lt
        have hl2 : gr < W2.heap.size := (OR.out.lt gr rfl).2
        have c5 : (W2.alloc (.cells #[.int .u8 (ra : Int), .int .u8 (qa : Int)] 5)).cell? ⟨w1.heap.size, 2, none⟩ = some (.int .i64 1) := (I5.cell (p := ⟨w1.heap.size, 2, none⟩) hl1).trans c4
        have d5 : (W2.alloc (.cells #[.int .u8 (ra : Int), .int .u8 (qa : Int)] 5)).cell? ⟨gr, 1, none⟩ = some (.string s') := (I5.cell (p := ⟨gr, 1, none⟩) hl2).trans d1
        have d6 : (W2.alloc (.cells #[.int .u8 (ra : Int), .int .u8 (qa : Int)] 5)).frozen? ⟨gr, 1, none⟩ = false := (own_below OR.out I5).frozenAt 1
        have OR5 := Lib.hid (own_below OR.out I5)
        have B5 := Lib.hid (B4.out.trans (I5.mono B4.out.size))
        clear I5
        clear hg hv9 own HC H1 HM HY G40 G4 HW
        go_region
        obtain ⟨o1, o2⟩ := World.ownsRow.stored OR.out 1 (.string (s.extract 0 p ++ st ++ s.extract (p + 2) s.size))
        have hbI : Below (W2.setCell ⟨gr, 1, none⟩ (.string (s.extract 0 p ++ st ++ s.extract (p + 2) s.size))).heap.size (W2.setCell ⟨gr, 1, none⟩ (.string (s.extract 0 p ++ st ++ s.extract (p + 2) s.size))) ((W2.setCell ⟨gr, 1, none⟩ (.string (s.extract 0 p ++ st ++ s.extract (p + 2) s.size))).alloc (.cells #[.int .u8 (ra : Int), .int .u8 (qa : Int)] 5)).drew := ((Below.refl _ _).alloc (Nat.le_refl _) _).drew
        have OR6 := Lib.hid (own_below o1 hbI)
        have B60 := B4.out.setCell hgr (p := ⟨gr, 1, none⟩) (.string (s.extract 0 p ++ st ++ s.extract (p + 2) s.size))
        have B6 := Lib.hid (B60.trans (hbI.mono B60.size))
        clear o1 o2 hbI B60
        generalize World.drew _ = W6 at *
        go_wp2
        go_ret2
        rw [HL.out]
        refine ⟨⟨_, rfl, ?_⟩, B6.out⟩
        unfold OwnRow
        rw [HLAY.out, List.length_set, List.map_set]
        exact OR6.out
set_option maxHeartbeats 4000000 in
theorem rcheck22_any (A : Option Addr) (c : Nat) (xs : List ByteArray) (w : World) (hx : xs.length ≤ 1000000) (h : RowAt w w.heap.size A (xs.map .string)) :
    Calls Try.prog 45 #[.slice A xs.length c] w fun e w' => e = .returned (.int .i64 (checkO xs)) ∧ Below w.heap.size w w' := by
  have HR := Lib.hid h
  clear h
  cases ho : ofR xs with
  | none =>
    have HL : Hid (checkO xs = 3) := by show _ = _; unfold checkO; rw [ho]
    have CL := Lib.hid (rlimit_any A c xs 0 w hx HR.out)
    have HQ : Hid (limitO xs 0 = (0, 3)) := by show _ = _; unfold limitO quoE; rw [ho]; rfl
    rw [HQ.out] at CL
    clear ho
    go_enter Try.func45, Try.ntmps45
    go_wp2
    go_loopw [3] (fun i wr => i = .int .i64 0 ∧ wr = w) (fun i _ => 16 - (intOf i).toNat)
    case atStart => exact ⟨rfl, rfl⟩
    case round =>
      obtain ⟨rfl, rfl⟩ := hrel
      go_wp2_with fail
      refine CL.out.mono ?_
      rintro e w1 ⟨rfl, hb1⟩
      have B1 := Lib.hid hb1
      clear hb1
      go_wp2
      go_ret
      exact ⟨ret_int (by rw [HL.out]), B1.out⟩
  | some m =>
    have hv := ofR_some.1 ho
    have HK := Lib.hid (check_ok hv)
    have HQ : Hid (∀ q : Nat, q < 16 → limitO xs (q : Int) = (((limN xs q : Nat) : Int), 0)) := fun q hq => by
      unfold limitO quoE; rw [ho]; dsimp only; rw [if_neg (show ¬ ((q : Int) < 0 ∨ 16 ≤ (q : Int)) by omega), if_pos rfl, Int.toNat_natCast]
    have CL := Lib.hid (fun (q : Nat) w h => rlimit_any A c xs (q : Int) w hx h)
    have CV := Lib.hid (fun (q lm : Nat) w h => rover_any A c xs (q : Int) (lm : Int) w hx h)
    have B0 := Lib.hid (Below.refl w.heap.size w)
    clear ho hv
    go_enter Try.func45, Try.ntmps45
    go_wp2
    go_loopw [3] (fun i wr => ∃ k : Nat, k ≤ 16 ∧ i = .int .i64 k ∧ Hid (∀ j, j < k → overB xs (j : Int) (limN xs j : Int) = false) ∧ Hid (Below w.heap.size w wr)) (fun i _ => 16 - (intOf i).toNat)
    case atStart => exact ⟨0, by omega, rfl, fun j hj => by omega, B0⟩
    case round =>
      obtain ⟨k, hk, rfl, HJ, BK⟩ := hrel
      by_cases hlt : k < 16
      · have hk1 : (k : Int) < 16 := by omega
        have RK := Lib.hid ((HR.out.below BK.out).mono BK.out.size)
        have C1 := Lib.hid (CL.out k wr RK.out)
        rw [HQ.out k hlt] at C1
        obtain ⟨lk, hlk⟩ : ∃ lk, limN xs k = lk := ⟨_, rfl⟩
        rw [hlk] at C1
        have HLK := Lib.hid hlk
        have C2 := Lib.hid (fun w h => CV.out k lk w h)
        clear hlk
        go_wp2_with fail
        refine C1.out.mono ?_
        rintro e w3 ⟨rfl, hb3⟩
        have B3 := Lib.hid (BK.out.trans (hb3.mono BK.out.size))
        have R3 := Lib.hid ((RK.out.below hb3).mono hb3.size)
        clear hb3 C1 BK RK
        cases hov : overB xs (k : Int) (lk : Int) with
        | false =>
          have HE : Hid (∀ j, j < k + 1 → overB xs (j : Int) (limN xs j : Int) = false) := fun j hj => by
            by_cases e : j = k
            · subst e
              rw [HLK.out, hov]
            · exact HJ.out j (by omega)
          rw [hov] at C2
          clear hov
          go_wp2_with fail
          refine (C2.out _ R3.out).mono ?_
          rintro e w4 ⟨rfl, hb4⟩
          have B4 := Lib.hid (B3.out.trans (hb4.mono B3.out.size))
          clear hb4 B3 R3
          go_wp2
          go_roundw
          case rel => exact ⟨k + 1, by omega, by go_num, HE, B4⟩
          case measure => simp [intOf]; omega
        | true =>
          have HF : Hid (checkO xs = 13) := by
            show _ = _
            rw [HK.out, if_pos]
            exact ⟨k, hlt, by rw [HLK.out, hov]⟩
          rw [hov] at C2
          clear hov
          go_wp2_with fail
          refine (C2.out _ R3.out).mono ?_
          rintro e w4 ⟨rfl, hb4⟩
          have B4 := Lib.hid (B3.out.trans (hb4.mono B3.out.size))
          clear hb4 B3 R3
          go_wp2
          go_ret
          exact ⟨ret_int (by rw [HF.out]), B4.out⟩
      · obtain rfl : k = 16 := by omega
        have HF : Hid (checkO xs = 0) := by
          show _ = _
          rw [HK.out, if_neg]
          rintro ⟨o, h1, h2⟩
          rw [HJ.out o h1] at h2
          cases h2
        go_wp2
        go_ret
        exact ⟨ret_int (by rw [HF.out]), BK.out⟩
end Go.Proofs.Ytjmafegckfijbaa
