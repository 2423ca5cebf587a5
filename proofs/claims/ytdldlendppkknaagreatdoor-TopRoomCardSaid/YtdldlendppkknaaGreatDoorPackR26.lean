/-
  Contracts and plain laws: AttJ, FsF, FsG.
-/
import Derived.Test.YtdldlendppkknaaGreatDoorPackR09
import Derived.Test.YtdldlendppkknaaGreatDoorPackR24
import Derived.Test.YtdldlendppkknaaGreatDoorPackR25
namespace Go.Proofs.YtdldlendppkknaaGreatDoor
open Go.RowKit
set_option linter.unusedVariables false
set_option linter.unusedSimpArgs false
set_option maxRecDepth 100000
theorem take_code {xs : List ByteArray} {w w' : World} {e : Ending} (hx : xs.length ≤ 1000000) (h : TakePost xs w e w') : (∃ v, e = .returned (.tuple #[v, .int .i64 ((takeO xs).2.1 : Nat), .int .i64 (takeO xs).2.2]) ∧ OwnRow (takeO xs).1 w v w') ∧ Below w.heap.size w w' := by
 unfold TakePost at h
 unfold takeO
 obtain ⟨hb, h⟩ := h
 refine ⟨?_, hb⟩
 cases hr : ofR xs with
 | none => rw [hr] at h; exact ⟨_, h, own_nil _ _⟩
 | some m =>
  rw [hr] at h
  dsimp only at h ⊢
  cases hf : freeR xs m with
  | none => rw [hf] at h; exact ⟨_, h, own_nil _ _⟩
  | some i =>
   rw [hf] at h
   obtain ⟨v, e1, hn⟩ := h
   exact ⟨v, e1, hn.own (by rw [takeV_length]; exact Nat.le_trans hx (by decide))⟩
theorem take_len {xs : List ByteArray} (h : (takeO xs).2.2 = 0) : (takeO xs).1.length = xs.length ∧ (takeO xs).2.1 < xs.length := by
 unfold takeO at h ⊢
 cases hr : ofR xs with
 | none => rw [hr] at h; dsimp only at h; exact absurd h (by decide)
 | some m =>
  rw [hr] at h
  dsimp only at h ⊢
  cases hf : freeR xs m with
  | none => rw [hf] at h; dsimp only at h; exact absurd h (by decide)
  | some i =>
   dsimp only
   obtain ⟨f1, f2, f3, f4, f5⟩ := free_facts (ofR_some.1 hr) hf
   exact ⟨takeV_length _ _, f2⟩
theorem putO_len {xs : List ByteArray} {n : Int} {l : List Int} (hl : l.length = 12) (h : (putO xs n l).2 = 0) : (putO xs n l).1.length = xs.length := by
 rcases putO_cases (xs := xs) (n := n) hl with ⟨_, b⟩ | ⟨m, k, nl, _, _, _, _, _, _, e⟩
 ·exact absurd h b
 ·rw [e]; exact putV_length _ _ _
set_option maxHeartbeats 16000000 in
theorem aset_any (A : Option Addr) (c : Nat) (xs : List ByteArray) (n : Int) (l : List AttV) (nm v : ByteArray) (w : World) (hx : xs.length ≤ 1000000) (hnm : nm.size ≤ 140737488355328) (hls : l.Pairwise ltN) (hlt : ∀ t ∈ textsA l, t.size ≤ 127) (hl : l.length ≤ 100) (hA : inoE xs n = 0 → (getR xs n).getD 0 0 ≠ 0 → AttAt xs n l) (h : RowAt w w.heap.size A (xs.map .string)) :
  Calls Tryz.prog 48 #[.slice A xs.length c, .int .i64 n, .string nm, .string v] w (RowCode (setA xs n l nm v).1 (setA xs n l nm v).2 w) := by
 have HR := Lib.hid h
 have CO := Lib.hid (aopen_any A c xs n l w hx hA h)
 have CM := Lib.hid (fun w => amay_any nm w hnm)
 have CF := Lib.hid (fun A c w h => of_any2 A c l nm w (by omega) h)
 have CT := Lib.hid (fun w h => (take_any A c xs w hx h).mono fun _ _ h => take_code hx h)
 have HF := Lib.hid (add_facts2 hls nm v)
 have HLL : Hid (l.length ≤ 100) := hl
 have HTXM : Hid (mayA nm.data.toList = true → v.size ≤ 126 → ∀ t ∈ textsA (putA l nm v), t.size ≤ 127) := fun h1 h2 => by
  refine add_texts hlt ?_ (by omega)
  unfold mayA at h1
  simp only [Bool.and_eq_true, decide_eq_true_eq] at h1
  have := h1.1.2
  rw [dsize] at this
  omega
 have HO : Hid (setA xs n l nm v = if opE xs n ≠ 0 then ([], opE xs n) else if mayA nm.data.toList = false then ([], 7) else if 126 < v.size then ([], 6) else if 126 < (rowA (putA l nm v)).length then ([], 6)
 else if (getR xs n).getD 11 0 ≠ 0 then (xs.set ((getR xs n).getD 11 0) (blkA (putA l nm v)), 0)
 else if (takeO xs).2.2 ≠ 0 then ([], (takeO xs).2.2)
 else if (putO (takeO xs).1 n (intsL ((getR xs n).set 11 (takeO xs).2.1))).2 ≠ 0 then ([], (putO (takeO xs).1 n (intsL ((getR xs n).set 11 (takeO xs).2.1))).2)
 else ((putO (takeO xs).1 n (intsL ((getR xs n).set 11 (takeO xs).2.1))).1.set (takeO xs).2.1 (blkA (putA l nm v)), 0)) := by show _ = _; rfl
 have HOE : Hid (opE xs n = 0 → inoE xs n = 0 ∧ (getR xs n).getD 0 0 ≠ 0) := fun h => by
  unfold opE at h
  by_cases h1 : inoE xs n ≠ 0
  ·rw [if_pos h1] at h; exact absurd h h1
  ·rw [if_neg h1] at h
   refine ⟨Classical.not_not.1 h1, fun h2 => ?_⟩
   rw [if_pos h2] at h
   exact absurd h (by decide)
 have HXA : Hid (opE xs n = 0 → (getR xs n).getD 11 0 ≠ 0 → (getR xs n).getD 11 0 < xs.length) := fun h h2 => by
  obtain ⟨h3, h4⟩ := HOE.out h
  rcases hA h3 h4 with ⟨a, _⟩ | ⟨_, _, _, _, _, a, _⟩
  ·exact absurd a h2
  ·exact a
 have HTL : Hid ((takeO xs).2.2 = 0 → (takeO xs).1.length ≤ 1000000 ∧ (takeO xs).1.length = xs.length ∧ (takeO xs).2.1 < xs.length) := fun h => by
  have := take_len h
  exact ⟨by omega, this.1, this.2⟩
 unfold OpPost at CO
 generalize setA xs n l nm v = z at *
 obtain ⟨R, hR, hRl⟩ : ∃ R, (if opE xs n = 0 then getR xs n else List.replicate 12 0) = R ∧ R.length = 12 := ⟨_, rfl, by split; exact getR_len _ _; rfl⟩
 have hRz : ∀ z ∈ R, z < 4294967296 := by
  rw [← hR]
  split
  ·exact getR_lt xs n
  ·intro z hz; rw [List.eq_of_mem_replicate hz]; decide
 have hRg : opE xs n = 0 → getR xs n = R := fun h => by rw [← hR, if_pos h]
 have HRG := Lib.hid hRg
 rw [hR] at CO
 obtain ⟨a0, a1, a2, a3, a4, a5, a6, a7, a8, a9, a10, a11, hg⟩ := len12 hRl
 have HPU : Hid (∀ tk : Nat, tk < 4294967296 → ∀ z ∈ intsL (R.set 11 tk), -9223372036854775808 ≤ z ∧ z ≤ 9223372036854775807) := fun tk htk z hz => by
  unfold intsL at hz
  obtain ⟨k, hk, rfl⟩ := List.mem_map.1 hz
  rcases List.mem_or_eq_of_mem_set hk with a | a
  ·have := hRz k a; omega
  ·omega
 subst hg
 unfold inoC at CO
 simp only [List.map_cons, List.map_nil] at CO
 have HXS : Hid (xs.length ≤ 1000000) := hx
 obtain ⟨ys, tk, te, ht⟩ : ∃ a b d, takeO xs = (a, b, d) := ⟨_, _, _, rfl⟩
 rw [ht] at CT HTL HO
 dsimp only at CT HTL HO
 have HTK : Hid (te = 0 → tk < 4294967296) := fun h => by have := HTL.out h; omega
 generalize opE xs n = oe at *
 clear h hA hR hRl hRz hRg hls hlt hl hnm ht
 go_enter Tryz.func48, Tryz.ntmps48
 go_wp2_with fail
 refine CO.out.mono ?_
 rintro e' w1 ⟨⟨v1, rfl, hown⟩, hb1⟩
 have B1 := Lib.hid hb1
 have O1 := Lib.hid hown
 obtain ⟨W2, hW2⟩ : ∃ W2, w1.alloc (.cells #[.int .i64 a0, .int .i64 a1, .int .i64 a2, .int .i64 a3, .int .i64 a4, .int .i64 a5, .int .i64 a6, .int .i64 a7, .int .i64 a8, .int .i64 a9, .int .i64 a10, .int .i64 a11] 39) = W2 := ⟨_, rfl⟩
 have B2 : Hid (Below w.heap.size w W2) := hW2 ▸ B1.out.alloc B1.out.size _
 have X2 : Hid (Blk W2 w1.heap.size 39 #[.int .i64 a0, .int .i64 a1, .int .i64 a2, .int .i64 a3, .int .i64 a4, .int .i64 a5, .int .i64 a6, .int .i64 a7, .int .i64 a8, .int .i64 a9, .int .i64 a10, .int .i64 a11]) := hW2 ▸ Blk.new w1 _ _
 have HW2 := Lib.hid hW2
 have F1 : Hid (w.heap.size ≤ w1.heap.size) := B1.out.size
 clear hb1 hown CO
 by_cases h0 : oe = 0
 case neg =>
  have h0' : (oe != 0) = true := by simpa using h0
  rw [if_pos h0] at HO
  go_wp2
  go_ret2
  rw [HO.out]
  exact ⟨⟨_, rfl, own_nil _ _⟩, B2.out⟩
 subst h0
 rw [if_neg (by simp), HRG.out rfl] at HO
 rw [HRG.out rfl] at HXA
 rw [if_pos rfl] at O1
 simp only [List.getD_cons_zero, List.getD_cons_succ, List.set_cons_zero, List.set_cons_succ] at HO HXA HPU
 have HXL : Hid (a11 ≠ 0 → a11 < xs.length) := HXA.out (by trivial)
 have O2 : Hid (W2.ownsRow w.heap.size 104 2 v1 l.length (attC l)) := hW2 ▸ World.ownsRow.alloc O1.out _
 have CU : Hid (∀ A c w, te = 0 → ys.length ≤ 1000000 → RowAt w w.heap.size A (ys.map .string) → Calls Tryz.prog 65 #[.slice A ys.length c, .int .i64 n, .agg #[.int .i64 a0, .int .i64 a1, .int .i64 a2, .int .i64 a3, .int .i64 a4, .int .i64 a5, .int .i64 a6, .int .i64 a7, .int .i64 a8, .int .i64 a9, .int .i64 a10, .int .i64 (tk : Nat)]] w (RowCode (putO ys n (intsL [a0, a1, a2, a3, a4, a5, a6, a7, a8, a9, a10, tk])).1 (putO ys n (intsL [a0, a1, a2, a3, a4, a5, a6, a7, a8, a9, a10, tk])).2 w)) := fun A c w h0 h1 h =>
  put_ino A c ys n (intsL [a0, a1, a2, a3, a4, a5, a6, a7, a8, a9, a10, tk]) w h1 h rfl (HPU.out tk (HTK.out h0))
 have HPL : Hid (ys.length = xs.length ∧ tk < xs.length → (putO ys n (intsL [a0, a1, a2, a3, a4, a5, a6, a7, a8, a9, a10, tk])).2 = 0 → (putO ys n (intsL [a0, a1, a2, a3, a4, a5, a6, a7, a8, a9, a10, tk])).1.length ≤ 1000000 ∧ tk < (putO ys n (intsL [a0, a1, a2, a3, a4, a5, a6, a7, a8, a9, a10, tk])).1.length) := fun h1 h2 => by
  have := putO_len (l := intsL [a0, a1, a2, a3, a4, a5, a6, a7, a8, a9, a10, tk]) rfl h2
  have := HXS.out
  omega
 have HO : Hid (z = if mayA nm.data.toList = false then ([], 7) else if 126 < v.size then ([], 6) else if 126 < (rowA (putA l nm v)).length then ([], 6)
  else if a11 ≠ 0 then (xs.set a11 (blkA (putA l nm v)), 0)
  else if te ≠ 0 then ([], te)
  else if (putO ys n (intsL [a0, a1, a2, a3, a4, a5, a6, a7, a8, a9, a10, tk])).2 ≠ 0 then ([], (putO ys n (intsL [a0, a1, a2, a3, a4, a5, a6, a7, a8, a9, a10, tk])).2)
  else ((putO ys n (intsL [a0, a1, a2, a3, a4, a5, a6, a7, a8, a9, a10, tk])).1.set tk (blkA (putA l nm v)), 0)) := HO
 obtain ⟨zs, pe, hpz⟩ : ∃ a b, putO ys n (intsL [a0, a1, a2, a3, a4, a5, a6, a7, a8, a9, a10, tk]) = (a, b) := ⟨_, _, rfl⟩
 rw [hpz] at CU HPL HO
 unfold RowCode at CU
 dsimp only at CU HPL HO
 clear O1 B1 hW2 HRG HXA HPU hpz
 go_wp2_with fail
 rw [HW2.out]
 clear HW2
 refine (CM.out _).mono ?_
 rintro e' w3 ⟨rfl, hb3⟩
 have B3 := Lib.hid (B2.out.trans (hb3.mono B2.out.size))
 have O3 := Lib.hid (own_below O2.out hb3)
 have X3 := Lib.hid (X2.out.below hb3 X2.out.lt)
 clear hb3 B2 O2 X2 CM
 obtain ⟨mb, hmb⟩ : ∃ b, mayA nm.data.toList = b := ⟨_, rfl⟩
 rw [hmb] at HO HTXM ⊢
 clear hmb
 cases mb with
 | false =>
  rw [if_pos rfl] at HO
  go_wp2
  go_ret2
  rw [HO.out]
  exact ⟨⟨_, rfl, own_nil _ _⟩, B3.out⟩
 | true =>
 rw [if_neg (by simp)] at HO
 by_cases h1 : 126 < v.size
 case pos =>
  have h1' : (126 : Int) < (v.size : Int) := by omega
  rw [if_pos h1] at HO
  go_wp2
  go_ret2
  rw [HO.out]
  exact ⟨⟨_, rfl, own_nil _ _⟩, B3.out⟩
 have h1' : ¬ (126 : Int) < (v.size : Int) := by omega
 rw [if_neg h1] at HO
 have HTX := Lib.hid (HTXM.out rfl (by omega))
 clear HTXM h1
 obtain ⟨A3, c3, rfl, hrow⟩ := own_atts O3.out rfl
 have R3 := Lib.hid hrow
 clear hrow
 go_wp2_with fail
 refine (CF.out _ _ _ R3.out).mono ?_
 rintro e' w4 ⟨rfl, hb4⟩
 have B4 := Lib.hid (B3.out.trans (hb4.mono B3.out.size))
 have O4 := Lib.hid (own_below O3.out hb4)
 have X4 := Lib.hid (X3.out.below hb4 X3.out.lt)
 clear hb4 B3 O3 X3 R3 CF
 have HAD : Hid (addA l nm v = if 0 ≤ idxA l nm then l.set (idxA l nm).toNat ⟨nm, v⟩ else l ++ [⟨nm, v⟩]) := by show _ = _; rfl
 have HSP := Lib.hid (idxA_spec l nm)
 generalize idxA l nm = ix at *
 rcases HSP.out with ⟨hi, _⟩ | ⟨k, hk, hi, hkn, _⟩
 ·subst hi
  rw [if_neg (by decide)] at HAD
  obtain ⟨i0, q1, q2, q3, q4⟩ := info_parts att_info
  have I0 := Lib.hid (And.intro q1 (And.intro q2 (And.intro q3 q4)))
  have B5' := Lib.hid (B4.out.alloc B4.out.size (.cells #[.string nm, .string v] 104))
  have O5' : Hid ((w4.alloc (.cells #[.string nm, .string v] 104)).ownsRow w.heap.size 104 2 (.slice A3 l.length c3) l.length (attC l)) := World.ownsRow.alloc O4.out _
  have X5' := Lib.hid (X4.out.alloc (.cells #[.string nm, .string v] 104))
  have HC7 : Hid (∀ j u, [Value.string nm, Value.string v][j]? = some u → (w4.alloc (.cells #[.string nm, .string v] 104)).cell? ((⟨w4.heap.size, 0, none⟩ : Addr).add j) = some u) := fun j u hu => by
   have hB := Blk.new w4 104 #[.string nm, .string v]
   rw [add_zero_addr, Nat.zero_add]
   exact hB.cell j (by simpa using hu)
  have H17 : Hid (∀ u ∈ [Value.string nm, Value.string v], u.oneCell' = true) := fun u hu => by
   rcases List.mem_cons.1 hu with rfl | hu
   ·rfl
   ·rcases List.mem_cons.1 hu with rfl | hu
    ·rfl
    ·cases hu
  have HM7 : Hid (l.length + 1 ≤ maxLen) := by show _ ≤ _; have := HLL.out; unfold maxLen; omega
  have HY7 : Hid ((l.length + 1) * 32 ≤ 140737488355328) := by show _ ≤ _; have := HLL.out; omega
  have HAC : Hid (attC l ++ [.string nm, .string v] = attC (addA l nm v)) := by show _ = _; rw [HAD.out, attC_app]; rfl
  have HAL : Hid ((addA l nm v).length = l.length + 1) := by show _ = _; rw [HAD.out]; simp
  clear q1 q2 q3 q4
  go_wp2_with (at_builtin; refine wpList_append_own _ rfl (.tmp 43) (.tmp 47) 99 rfl w.heap.size 104 i0 (.agg #[.string ⟨#[]⟩, .string ⟨#[]⟩]) 2 32 Tryz.underlying99 I0.out.1 I0.out.2.1 I0.out.2.2.1 I0.out.2.2.2 rfl (by decide) _ l.length (attC l) rfl O5'.out ⟨w4.heap.size, 0, none⟩ 1 1 [.string nm, .string v] rfl rfl HC7.out H17.out HM7.out HY7.out B5'.out.size ?_; intro v5 W5 own hg hv; rw [HAC.out] at own; obtain ⟨g, c5, rfl⟩ := Go.Joins.ownsRow_form own (by omega); rw [← HAL.out] at own ⊢; have O5 := Lib.hid own; have B5 := Lib.hid (B5'.out.grown hg B5'.out.size (fun j e => (O5'.out.lt j e).1)); have X5 := Lib.hid (X5'.out.grown hg (own_ne O5'.out X5'.out (by decide))); clear own hg hv)
  have LN := Lib.hid (show (putA l nm v).Pairwise ltN from HF.out.2.1)
  refine (sort_any (L := putA l nm v) g w.heap.size c5 W5 HF.out.1 HF.out.2.1 put_mem (by have := HF.out.2.2.1; have := HLL.out; omega) O5.out).mono ?_
  rintro e' w6 ⟨rfl, hrow, hlen, hg6⟩
  have B6 := Lib.hid (B5.out.grown hg6 B5.out.size (fun j e => by cases e; exact (O5.out.lt g rfl).1))
  have X6 := Lib.hid (X5.out.grown hg6 (own_ne O5.out X5.out (by decide)))
  have R6 := Lib.hid hrow
  have HLN := Lib.hid hlen
  clear hrow hlen hg6 X5 B5 O5
  rw [← HLN.out]
  go_wp2_with fail
  refine (row_any _ _ (putA l nm v) w6 (by have h1 := HF.out.2.2.1; have h2 := HLL.out; have h3 := HLN.out; omega) HTX.out R6.out).mono ?_
  rintro e' w7 ⟨rfl, hb7⟩
  have B7 := Lib.hid (B6.out.trans (hb7.mono B6.out.size))
  have X7 := Lib.hid (X6.out.below hb7 X6.out.lt)
  have x7 := X7.out.cell 11 rfl
  clear hb7 R6 X6 B6
  obtain ⟨r, hr⟩ : ∃ r : ByteArray, (⟨(rowA (putA l nm v)).toArray⟩ : ByteArray) = r := ⟨_, rfl⟩
  have hrd : r.data.toList = rowA (putA l nm v) := by rw [← hr]
  have hrs : r.size = (rowA (putA l nm v)).length := by rw [← hrd, dsize]
  have HBK : Hid (blkA (putA l nm v) = ⟨(blockL r.data.toList).toArray⟩) := by show _ = _; unfold blkA; rw [hrd]
  rw [← hrs] at HO
  rw [hr]
  clear hr hrd hrs
  by_cases h6 : 126 < r.size
  case pos =>
   have h6' : (126 : Int) < (r.size : Int) := by omega
   rw [if_pos h6] at HO
   go_wp2
   go_ret2
   rw [HO.out]
   exact ⟨⟨_, rfl, own_nil _ _⟩, B7.out⟩
  have h6' : ¬ (126 : Int) < (r.size : Int) := by omega
  rw [if_neg h6] at HO
  by_cases h7 : a11 = 0
  case neg =>
   have h7' : ((a11 : Int) != 0) = true := by simpa using (by omega : ¬ (a11 : Int) = 0)
   rw [if_pos h7, HBK.out] at HO
   have CC := Lib.hid (changed_any A c xs a11 r w7 hx (HXL.out h7) (by omega) (row_keep HR.out B7.out B7.out.size))
   clear h6
   go_wp2_with fail
   refine CC.out.mono ?_
   rintro e' w8 ⟨⟨v8, rfl, hown⟩, hb8⟩
   have ON := Lib.hid (own_low hown B7.out.size)
   have B8 := Lib.hid (B7.out.trans (hb8.mono B7.out.size))
   clear hown hb8 CC
   go_wp2
   go_ret2
   rw [HO.out]
   exact ⟨⟨_, rfl, ON.out⟩, B8.out⟩
  have h7' : ((a11 : Int) != 0) = false := by simpa using (by omega : (a11 : Int) = 0)
  rw [if_neg (fun h => h h7)] at HO
  go_wp2_with fail
  refine (CT.out w7 (row_keep HR.out B7.out B7.out.size)).mono ?_
  rintro e' w8 ⟨⟨v8, rfl, hown⟩, hb8⟩
  have B8 := Lib.hid (B7.out.trans (hb8.mono B7.out.size))
  have X8 := Lib.hid (X7.out.below hb8 X7.out.lt)
  obtain ⟨A8, c8, rfl, hrow⟩ := OwnRow.read hown
  have O8 := Lib.hid hown
  clear hb8 X7 x7 B7 CT hrow hown
  by_cases h8 : te = 0
  case neg =>
   have h8' : (te != 0) = true := by simpa using h8
   rw [if_pos h8] at HO
   go_wp2
   go_ret2
   rw [HO.out]
   exact ⟨⟨_, rfl, own_nil _ _⟩, B8.out⟩
  subst h8
  rw [if_neg (by simp)] at HO
  have HLT := Lib.hid (HTL.out rfl)
  have x8 := X8.out.cell 11 rfl
  have f8 := X8.out.frozen 11
  have X9 : Hid (Blk (w8.setCell ⟨w1.heap.size, 11, none⟩ (.int .i64 (tk : Nat))) w1.heap.size 39 #[.int .i64 a0, .int .i64 a1, .int .i64 a2, .int .i64 a3, .int .i64 a4, .int .i64 a5, .int .i64 a6, .int .i64 a7, .int .i64 a8, .int .i64 a9, .int .i64 a10, .int .i64 (tk : Nat)]) := X8.out.set_ 11 _
  have O9 : Hid (OwnRow ys w7 (.slice A8 ys.length c8) (w8.setCell ⟨w1.heap.size, 11, none⟩ (.int .i64 (tk : Nat)))) := World.ownsRow.kept O8.out (only_setCell (World.grownBy.refl w8 _) 11 _) (.inr (own_ne O8.out X8.out (by decide)).symm)
  have B9 : Hid (Below w.heap.size w (w8.setCell ⟨w1.heap.size, 11, none⟩ (.int .i64 (tk : Nat)))) := B8.out.setCell (p := ⟨w1.heap.size, 11, none⟩) F1.out _
  go_wp2_with first
   | fail
   | (refine load_blk 39 (.tmp 10) w1.heap.size 39 #[.int .i64 a0, .int .i64 a1, .int .i64 a2, .int .i64 a3, .int .i64 a4, .int .i64 a5, .int .i64 a6, .int .i64 a7, .int .i64 a8, .int .i64 a9, .int .i64 a10, .int .i64 (tk : Nat)] _ rfl rfl rfl X9.out Tryz.underlying39 rfl (by kernel_rfl) ?_; go_frame)
  obtain ⟨A9, c9, he9, hr9⟩ := OwnRow.read O9.out
  cases he9
  refine (CU.out _ _ _ (by trivial) HLT.out.1 hr9).mono ?_
  rintro e' w10 ⟨⟨v10, rfl, hown⟩, hb10⟩
  have hz9 := B9.out.size
  have B10 := Lib.hid (B9.out.trans (hb10.mono hz9))
  obtain ⟨A10, c10, rfl, hrow⟩ := OwnRow.read hown
  have R10 := Lib.hid hrow
  clear hb10 hown hrow X9 O9 B9 x8 f8 X8 O8 B8 hr9 CU
  by_cases h9 : pe = 0
  case neg =>
   have h9' : (pe != 0) = true := by simpa using h9
   rw [if_pos h9] at HO
   go_wp2
   go_ret2
   rw [HO.out]
   exact ⟨⟨_, rfl, own_nil _ _⟩, B10.out⟩
  subst h9
  rw [if_neg (by simp), HBK.out] at HO
  have HPM : Hid (zs.length ≤ 1000000 ∧ tk < zs.length) := HPL.out HLT.out.2 (by trivial)
  go_wp2_with fail
  refine (changed_any _ _ zs tk r w10 HPM.out.1 HPM.out.2 (by omega) R10.out).mono ?_
  rintro e' w11 ⟨⟨v11, rfl, hown⟩, hb11⟩
  have hz := B10.out.size
  have ON := Lib.hid (own_low hown hz)
  have B11 := Lib.hid (B10.out.trans (hb11.mono hz))
  clear hown hb11
  go_wp2
  go_ret2
  rw [HO.out]
  exact ⟨⟨_, rfl, ON.out⟩, B11.out⟩
 ·subst hi
  rw [if_pos (by omega), Int.toNat_natCast] at HAD
  have HAC : Hid ((attC l).set (k * 2 + 1) (.string v) = attC (addA l nm v)) := by show _ = _; rw [HAD.out]; exact attC_set hk hkn
  have HAL : Hid (l.length = (addA l nm v).length) := by show _ = _; rw [HAD.out, List.length_set]
  obtain ⟨g, c5, hvv⟩ := Go.Joins.ownsRow_form O4.out (by omega)
  cases hvv
  obtain ⟨o1, o2⟩ := World.ownsRow.stored O4.out (k * 2 + 1) (.string v)
  rw [HAC.out] at o1
  have d1 : w4.cell? ⟨g, k * 2 + 1, none⟩ = some (.string l[k].value) := by
   rw [O4.out.cellAt (k * 2 + 1) (by omega)]
   exact (attC_get hk).2
  have d2 : w4.frozen? ⟨g, k * 2 + 1, none⟩ = false := O4.out.frozenAt (k * 2 + 1)
  generalize l[k].value = ov at d1
  obtain ⟨W5, hW5⟩ : ∃ W5, w4.setCell ⟨g, k * 2 + 1, none⟩ (.string v) = W5 := ⟨_, rfl⟩
  rw [hW5, HAL.out] at o1
  rw [hW5] at o2
  have O5 := Lib.hid o1
  have B5 := Lib.hid (B4.out.grown o2 B4.out.size (fun j e => (O4.out.lt j e).1))
  have X5 := Lib.hid (X4.out.grown o2 (own_ne O4.out X4.out (by decide)))
  have HW5 := Lib.hid hW5
  have i0 : (0 : Int) ≤ (k : Int) := by omega
  have i1 : (k : Int) < (l.length : Int) := by omega
  clear o1 o2 hkn hW5
  go_wp2_with fail
  rw [HW5.out, HAL.out]
  clear HW5 d1 d2
  have LN := Lib.hid (show (putA l nm v).Pairwise ltN from HF.out.2.1)
  refine (sort_any (L := putA l nm v) g w.heap.size c3 W5 HF.out.1 HF.out.2.1 put_mem (by have := HF.out.2.2.1; have := HLL.out; omega) O5.out).mono ?_
  rintro e' w6 ⟨rfl, hrow, hlen, hg6⟩
  have B6 := Lib.hid (B5.out.grown hg6 B5.out.size (fun j e => by cases e; exact (O5.out.lt g rfl).1))
  have X6 := Lib.hid (X5.out.grown hg6 (own_ne O5.out X5.out (by decide)))
  have R6 := Lib.hid hrow
  have HLN := Lib.hid hlen
  clear hrow hlen hg6 X5 B5 O5
  rw [← HLN.out]
  go_wp2_with fail
  refine (row_any _ _ (putA l nm v) w6 (by have h1 := HF.out.2.2.1; have h2 := HLL.out; have h3 := HLN.out; omega) HTX.out R6.out).mono ?_
  rintro e' w7 ⟨rfl, hb7⟩
  have B7 := Lib.hid (B6.out.trans (hb7.mono B6.out.size))
  have X7 := Lib.hid (X6.out.below hb7 X6.out.lt)
  have x7 := X7.out.cell 11 rfl
  clear hb7 R6 X6 B6
  obtain ⟨r, hr⟩ : ∃ r : ByteArray, (⟨(rowA (putA l nm v)).toArray⟩ : ByteArray) = r := ⟨_, rfl⟩
  have hrd : r.data.toList = rowA (putA l nm v) := by rw [← hr]
  have hrs : r.size = (rowA (putA l nm v)).length := by rw [← hrd, dsize]
  have HBK : Hid (blkA (putA l nm v) = ⟨(blockL r.data.toList).toArray⟩) := by show _ = _; unfold blkA; rw [hrd]
  rw [← hrs] at HO
  rw [hr]
  clear hr hrd hrs
  by_cases h6 : 126 < r.size
  case pos =>
   have h6' : (126 : Int) < (r.size : Int) := by omega
   rw [if_pos h6] at HO
   go_wp2
   go_ret2
   rw [HO.out]
   exact ⟨⟨_, rfl, own_nil _ _⟩, B7.out⟩
  have h6' : ¬ (126 : Int) < (r.size : Int) := by omega
  rw [if_neg h6] at HO
  by_cases h7 : a11 = 0
  case neg =>
   have h7' : ((a11 : Int) != 0) = true := by simpa using (by omega : ¬ (a11 : Int) = 0)
   rw [if_pos h7, HBK.out] at HO
   have CC := Lib.hid (changed_any A c xs a11 r w7 hx (HXL.out h7) (by omega) (row_keep HR.out B7.out B7.out.size))
   clear h6
   go_wp2_with fail
   refine CC.out.mono ?_
   rintro e' w8 ⟨⟨v8, rfl, hown⟩, hb8⟩
   have ON := Lib.hid (own_low hown B7.out.size)
   have B8 := Lib.hid (B7.out.trans (hb8.mono B7.out.size))
   clear hown hb8 CC
   go_wp2
   go_ret2
   rw [HO.out]
   exact ⟨⟨_, rfl, ON.out⟩, B8.out⟩
  have h7' : ((a11 : Int) != 0) = false := by simpa using (by omega : (a11 : Int) = 0)
  rw [if_neg (fun h => h h7)] at HO
  go_wp2_with fail
  refine (CT.out w7 (row_keep HR.out B7.out B7.out.size)).mono ?_
  rintro e' w8 ⟨⟨v8, rfl, hown⟩, hb8⟩
  have B8 := Lib.hid (B7.out.trans (hb8.mono B7.out.size))
  have X8 := Lib.hid (X7.out.below hb8 X7.out.lt)
  obtain ⟨A8, c8, rfl, hrow⟩ := OwnRow.read hown
  have O8 := Lib.hid hown
  clear hb8 X7 x7 B7 CT hrow hown
  by_cases h8 : te = 0
  case neg =>
   have h8' : (te != 0) = true := by simpa using h8
   rw [if_pos h8] at HO
   go_wp2
   go_ret2
   rw [HO.out]
   exact ⟨⟨_, rfl, own_nil _ _⟩, B8.out⟩
  subst h8
  rw [if_neg (by simp)] at HO
  have HLT := Lib.hid (HTL.out rfl)
  have x8 := X8.out.cell 11 rfl
  have f8 := X8.out.frozen 11
  have X9 : Hid (Blk (w8.setCell ⟨w1.heap.size, 11, none⟩ (.int .i64 (tk : Nat))) w1.heap.size 39 #[.int .i64 a0, .int .i64 a1, .int .i64 a2, .int .i64 a3, .int .i64 a4, .int .i64 a5, .int .i64 a6, .int .i64 a7, .int .i64 a8, .int .i64 a9, .int .i64 a10, .int .i64 (tk : Nat)]) := X8.out.set_ 11 _
  have O9 : Hid (OwnRow ys w7 (.slice A8 ys.length c8) (w8.setCell ⟨w1.heap.size, 11, none⟩ (.int .i64 (tk : Nat)))) := World.ownsRow.kept O8.out (only_setCell (World.grownBy.refl w8 _) 11 _) (.inr (own_ne O8.out X8.out (by decide)).symm)
  have B9 : Hid (Below w.heap.size w (w8.setCell ⟨w1.heap.size, 11, none⟩ (.int .i64 (tk : Nat)))) := B8.out.setCell (p := ⟨w1.heap.size, 11, none⟩) F1.out _
  go_wp2_with first
   | fail
   | (refine load_blk 39 (.tmp 10) w1.heap.size 39 #[.int .i64 a0, .int .i64 a1, .int .i64 a2, .int .i64 a3, .int .i64 a4, .int .i64 a5, .int .i64 a6, .int .i64 a7, .int .i64 a8, .int .i64 a9, .int .i64 a10, .int .i64 (tk : Nat)] _ rfl rfl rfl X9.out Tryz.underlying39 rfl (by kernel_rfl) ?_; go_frame)
  obtain ⟨A9, c9, he9, hr9⟩ := OwnRow.read O9.out
  cases he9
  refine (CU.out _ _ _ (by trivial) HLT.out.1 hr9).mono ?_
  rintro e' w10 ⟨⟨v10, rfl, hown⟩, hb10⟩
  have hz9 := B9.out.size
  have B10 := Lib.hid (B9.out.trans (hb10.mono hz9))
  obtain ⟨A10, c10, rfl, hrow⟩ := OwnRow.read hown
  have R10 := Lib.hid hrow
  clear hb10 hown hrow X9 O9 B9 x8 f8 X8 O8 B8 hr9 CU
  by_cases h9 : pe = 0
  case neg =>
   have h9' : (pe != 0) = true := by simpa using h9
   rw [if_pos h9] at HO
   go_wp2
   go_ret2
   rw [HO.out]
   exact ⟨⟨_, rfl, own_nil _ _⟩, B10.out⟩
  subst h9
  rw [if_neg (by simp), HBK.out] at HO
  have HPM : Hid (zs.length ≤ 1000000 ∧ tk < zs.length) := HPL.out HLT.out.2 (by trivial)
  go_wp2_with fail
  refine (changed_any _ _ zs tk r w10 HPM.out.1 HPM.out.2 (by omega) R10.out).mono ?_
  rintro e' w11 ⟨⟨v11, rfl, hown⟩, hb11⟩
  have hz := B10.out.size
  have ON := Lib.hid (own_low hown hz)
  have B11 := Lib.hid (B10.out.trans (hb11.mono hz))
  clear hown hb11
  go_wp2
  go_ret2
  rw [HO.out]
  exact ⟨⟨_, rfl, ON.out⟩, B11.out⟩
theorem give_code {xs : List ByteArray} {i : Int} {w w' : World} {e : Ending} (hx : xs.length ≤ 1000000) (h : GivePost xs i w e w') : RowCode (giveO xs i).1 (giveO xs i).2 w e w' := by
 unfold GivePost at h
 unfold giveO RowCode
 obtain ⟨hb, h⟩ := h
 refine ⟨?_, hb⟩
 cases hr : ofR xs with
 | none => rw [hr] at h; exact ⟨_, h, own_nil _ _⟩
 | some m =>
  rw [hr] at h
  dsimp only at h ⊢
  by_cases h1 : i < (dataN m : Int) ∨ (xs.length : Int) ≤ i
  ·rw [if_pos h1] at h ⊢; exact ⟨_, h, own_nil _ _⟩
  ·rw [if_neg h1] at h ⊢
   by_cases h2 : bitL (blkL xs 2) i.toNat = false
   ·rw [if_pos h2] at h ⊢; exact ⟨_, h, own_nil _ _⟩
   ·rw [if_neg h2] at h ⊢
    obtain ⟨v, e1, hn⟩ := h
    exact ⟨v, e1, hn.own (by rw [turnV_length]; exact Nat.le_trans hx (by decide))⟩
theorem giveO_le {xs : List ByteArray} (h : xs.length ≤ 1000000) (i : Int) : (giveO xs i).1.length ≤ 1000000 := by
 unfold giveO
 repeat' split
 all_goals first | exact Nat.zero_le _ | (dsimp only; rw [turnV_length]; exact h)
set_option maxHeartbeats 4000000 in
theorem gone_any (A : Option Addr) (c : Nat) (xs : List ByteArray) (n : Int) (w : World) (hx : xs.length ≤ 1000000) (h : RowAt w w.heap.size A (xs.map .string)) :
  Calls Tryz.prog 64 #[.slice A xs.length c, .int .i64 n] w (RowCode (goneO xs n).1 (goneO xs n).2 w) := by
 have CC := Lib.hid (cut_any A c xs n 0 w hx h)
 have HL := Lib.hid (cutO_le hx n 0)
 have HO : Hid (goneO xs n = if (cutO xs n 0).2 ≠ 0 then ([], (cutO xs n 0).2)
 else if inoE (cutO xs n 0).1 n ≠ 0 then ([], inoE (cutO xs n 0).1 n)
 else putO (goneV (cutO xs n 0).1 n) n (List.replicate 12 0)) := by show _ = _; rfl
 obtain ⟨ys, e1, hc⟩ : ∃ a b, cutO xs n 0 = (a, b) := ⟨_, _, rfl⟩
 rw [hc] at CC HL HO
 dsimp only at HL HO
 have CG := Lib.hid (fun A c w h => get_ino A c ys n w HL.out h)
 obtain ⟨a0, a1, a2, a3, a4, a5, a6, a7, a8, a9, a10, a11, hg⟩ := len12 (getR_len ys n)
 have HG : Hid (goneV ys n = if (giveO ys (a11 : Nat)).2 = 0 then (giveO ys (a11 : Nat)).1 else ys) := by show _ = _; unfold goneV; rw [hg]; rfl
 have CT := Lib.hid (fun A c w h => (give_any A c ys (a11 : Nat) w HL.out h).mono fun _ _ h => give_code HL.out h)
 have HT := Lib.hid (giveO_le HL.out (a11 : Nat))
 rw [hg] at CG
 unfold inoC at CG
 simp only [List.map_cons, List.map_nil] at CG
 generalize inoE ys n = e2 at *
 generalize goneV ys n = gv at *
 obtain ⟨gs, e3, ht⟩ : ∃ a b, giveO ys (a11 : Nat) = (a, b) := ⟨_, _, rfl⟩
 rw [ht] at CT HT HG
 unfold RowCode at CC CT
 dsimp only at CC CG CT HT HG
 generalize goneO xs n = z at *
 clear h hc hg ht hx
 go_enter Tryz.func64, Tryz.ntmps64
 go_wp2_with fail
 refine CC.out.mono ?_
 rintro e' w1 ⟨⟨v, rfl, hown⟩, hb1⟩
 have B1 := Lib.hid hb1
 obtain ⟨A1, c1, rfl, hrow⟩ := OwnRow.read hown
 have O1 := Lib.hid hown
 have R1 := Lib.hid hrow
 clear hb1 CC hown hrow
 go_wp2_with fail
 ·rename_i hc
  go_ret2
  rw [HO.out, if_pos (by simpa using hc)]
  exact ⟨⟨_, rfl, own_nil _ _⟩, B1.out⟩
 have hc : (e1 != 0) = false := by assumption
 rw [if_neg (by simpa using hc)] at HO
 clear hc
 refine (CG.out _ _ _ R1.out).mono ?_
 rintro e' w2 ⟨rfl, hb2⟩
 have B2 := Lib.hid (B1.out.trans (hb2.mono B1.out.size))
 have O2 := Lib.hid (OwnRow.keep O1.out hb2)
 obtain ⟨W3, hW3⟩ : ∃ W3, w2.alloc (.cells #[.int .i64 a0, .int .i64 a1, .int .i64 a2, .int .i64 a3, .int .i64 a4, .int .i64 a5, .int .i64 a6, .int .i64 a7, .int .i64 a8, .int .i64 a9, .int .i64 a10, .int .i64 a11] 39) = W3 := ⟨_, rfl⟩
 have hb3 : Below w2.heap.size w2 W3 := hW3 ▸ (Below.refl _ _).alloc (Nat.le_refl _) _
 have B3 := Lib.hid (B2.out.trans (hb3.mono B2.out.size))
 have O3 := Lib.hid (OwnRow.keep O2.out hb3)
 have X3 : Hid (Blk W3 w2.heap.size 39 #[.int .i64 a0, .int .i64 a1, .int .i64 a2, .int .i64 a3, .int .i64 a4, .int .i64 a5, .int .i64 a6, .int .i64 a7, .int .i64 a8, .int .i64 a9, .int .i64 a10, .int .i64 a11]) := hW3 ▸ Blk.new w2 _ _
 have HW3 := Lib.hid hW3
 clear hb2 hb3 CG hW3 O1 R1 O2
 go_wp2_with fail
 ·rename_i hc
  rw [HW3.out]
  go_ret2
  rw [HO.out, if_pos (by simpa using hc)]
  exact ⟨⟨_, rfl, own_nil _ _⟩, B3.out⟩
 have hc : (e2 != 0) = false := by assumption
 rw [if_neg (by simpa using hc)] at HO
 clear hc
 rw [HW3.out]
 clear HW3
 have x11 := X3.out.cell 11 rfl
 obtain ⟨A3, c3, he3, hr3⟩ := OwnRow.read O3.out
 cases he3
 go_wp2_with fail
 refine (CT.out _ _ _ hr3).mono ?_
 rintro e' w4 ⟨⟨v, rfl, hown⟩, hb4⟩
 have B4 := Lib.hid (B3.out.trans (hb4.mono B3.out.size))
 have O4 := Lib.hid (OwnRow.keep O3.out hb4)
 obtain ⟨A4, c4, rfl, hrow⟩ := OwnRow.read hown
 obtain ⟨A5, c5, he5, hr5⟩ := OwnRow.read O4.out
 cases he5
 have R4 := Lib.hid hrow
 have R5 := Lib.hid hr5
 clear hb4 CT x11 X3 O3 O4 hown hrow hr3 hr5
 have L0 : ∀ z ∈ (List.replicate 12 (0 : Int)), -9223372036854775808 ≤ z ∧ z ≤ 9223372036854775807 := by decide
 have LL := Lib.hid L0
 clear L0
 go_wp2_with fail
 ·have hc : (e3 == 0) = true := by assumption
  rw [if_pos (by simpa using hc)] at HG
  rw [HG.out] at HO
  refine (put_ino _ _ gs n (List.replicate 12 0) w4 HT.out R4.out rfl LL.out).mono ?_
  generalize putO gs n (List.replicate 12 0) = r at *
  obtain ⟨zs, e5⟩ := r
  rintro e' w7 ⟨⟨v, rfl, hown⟩, hb7⟩
  have hz := B4.out.size
  have ON7 := Lib.hid (own_low hown hz)
  have B7 := Lib.hid (B4.out.trans (hb7.mono hz))
  clear hown hb7
  go_wp2
  go_ret2
  rw [HO.out]
  exact ⟨⟨_, rfl, ON7.out⟩, B7.out⟩
 ·have hc : (e3 == 0) = false := by assumption
  rw [if_neg (by simpa using hc)] at HG
  rw [HG.out] at HO
  refine (put_ino _ _ ys n (List.replicate 12 0) w4 HL.out R5.out rfl LL.out).mono ?_
  generalize putO ys n (List.replicate 12 0) = r at *
  obtain ⟨zs, e5⟩ := r
  rintro e' w7 ⟨⟨v, rfl, hown⟩, hb7⟩
  have hz := B4.out.size
  have ON7 := Lib.hid (own_low hown hz)
  have B7 := Lib.hid (B4.out.trans (hb7.mono hz))
  clear hown hb7
  go_wp2
  go_ret2
  rw [HO.out]
  exact ⟨⟨_, rfl, ON7.out⟩, B7.out⟩
theorem path_size {xs : List ByteArray} {p : ByteArray} (h : (pathO xs p.data.toList).2 = 0) : 1 ≤ p.size := by
 cases hm : mayP p.data.toList with
 | true => exact (mayP_size hm).1
 | false => unfold pathO at h; rw [hm, if_pos rfl] at h; exact absurd h (by decide)
set_option maxHeartbeats 16000000 in
theorem remove_cl (vb pb : Nat) (A : Option Addr) (c : Nat) (xs : List ByteArray) (p : ByteArray) (w : World) (hx : xs.length ≤ 1000000) (hp : p.size ≤ 140737488355328)
  (h : RowAt w w.heap.size A (xs.map .string)) (h1 : Blk w vb 24 #[.slice A xs.length c]) (h2 : Blk w pb 9 #[.string p]) :
  Calls Tryz.prog 60 #[.pointer (some ⟨vb, 0, none⟩), .pointer (some ⟨pb, 0, none⟩)] w (RowCode (removeI xs p).1 (removeI xs p).2 w) := by
 have HR := Lib.hid h
 have V0 := Lib.hid h1
 have P0 := Lib.hid h2
 have CP := Lib.hid (path_any A c xs p w hx h)
 have HO : Hid (removeI xs p = if (pathO xs p.data.toList).2 ≠ 0 then ([], (pathO xs p.data.toList).2)
 else if p.data.toList = [47] then ([], 12)
 else if (inoE xs (pathO xs p.data.toList).1 = 0 ∧ (getR xs (pathO xs p.data.toList).1).getD 0 0 = 2) ∧ ((listO xs (pathO xs p.data.toList).1).2 ≠ 0 ∨ (listO xs (pathO xs p.data.toList).1).1 ≠ []) then ([], 12)
 else if (pathO xs (aboveB p).data.toList).2 ≠ 0 then ([], (pathO xs (aboveB p).data.toList).2)
 else if (dropO xs (pathO xs (aboveB p).data.toList).1 (lastB p)).2 ≠ 0 ∨ inoE xs (pathO xs p.data.toList).1 ≠ 0 then dropO xs (pathO xs (aboveB p).data.toList).1 (lastB p)
 else if (getR xs (pathO xs p.data.toList).1).getD 1 0 ≤ 1 ∨ (getR xs (pathO xs p.data.toList).1).getD 0 0 = 2 then goneO (dropO xs (pathO xs (aboveB p).data.toList).1 (lastB p)).1 (pathO xs p.data.toList).1
 else putO (dropO xs (pathO xs (aboveB p).data.toList).1 (lastB p)).1 (pathO xs p.data.toList).1 (intsL ((getR xs (pathO xs p.data.toList).1).set 1 ((getR xs (pathO xs p.data.toList).1).getD 1 0 - 1)))) := by show _ = _; rfl
 have HZ : Hid ((pathO xs p.data.toList).2 = 0 → 1 ≤ p.size) := fun h => path_size h
 obtain ⟨pn, e1, hpn⟩ : ∃ a b, pathO xs p.data.toList = (a, b) := ⟨_, _, rfl⟩
 have CG := Lib.hid (fun w h => get_ino A c xs pn w hx h)
 have CL := Lib.hid (fun w h => list_any A c xs pn w hx h)
 have CF := Lib.hid (fun w h => path_any A c xs (aboveB p) w hx h)
 have CD := Lib.hid (fun w h => drop_any A c xs (pathO xs (aboveB p).data.toList).1 (lastB p) w hx (by have := last_len p; omega) h)
 have HL := Lib.hid (dropO_le hx (pathO xs (aboveB p).data.toList).1 (lastB p))
 have CS : Hid (1 ≤ p.size → ∀ w, Calls Tryz.prog 62 #[.string p] w fun e w' => e = .returned (.tuple #[.string (aboveB p), .string (lastB p)]) ∧ Below w.heap.size w w') := fun h1 w => split_any p w h1 hp
 obtain ⟨a0, a1, a2, a3, a4, a5, a6, a7, a8, a9, a10, a11, hg⟩ := len12 (getR_len xs pn)
 have LR : Hid (1 ≤ a1 → ∀ z ∈ intsL [a0, a1 - 1, a2, a3, a4, a5, a6, a7, a8, a9, a10, a11], -9223372036854775808 ≤ z ∧ z ≤ 9223372036854775807) := fun _ => by
  have hz := getR_lt xs pn
  rw [hg] at hz
  exact ints_lt hz (v := a1 - 1) (by have := hz a1 (by simp); omega)
 have LA : Hid (a1 < 4294967296) := by
  have hz := getR_lt xs pn
  rw [hg] at hz
  exact hz a1 (by simp)
 rw [hpn] at CP HO HZ
 dsimp only at HO HZ
 rw [hg] at CG HO
 unfold inoC at CG
 simp only [List.map_cons, List.map_nil, List.getD_cons_zero, List.getD_cons_succ, List.set_cons_zero, List.set_cons_succ] at CG HO
 generalize inoE xs pn = e2 at *
 obtain ⟨E, e5, hl⟩ : ∃ a b, listO xs pn = (a, b) := ⟨_, _, rfl⟩
 rw [hl] at CL HO
 obtain ⟨d, e3, hd⟩ : ∃ a b, pathO xs (aboveB p).data.toList = (a, b) := ⟨_, _, rfl⟩
 rw [hd] at CF CD HL HO
 dsimp only at CD HL HO
 generalize aboveB p = pa at *
 generalize lastB p = pl at *
 obtain ⟨ys, e4, ha⟩ : ∃ a b, dropO xs d pl = (a, b) := ⟨_, _, rfl⟩
 rw [ha] at CD HL HO
 unfold RowCode at CD
 unfold ListPost at CL
 dsimp only at CP CL CF CD HL HO
 generalize removeI xs p = z at *
 have c1 := h1.cell 0 rfl
 have c2 := h2.cell 0 rfl
 clear h h1 h2 hpn hg hl hd ha hx hp
 go_enter Tryz.func60, Tryz.ntmps60
 go_wp2_with fail
 refine CP.out.mono ?_
 rintro e' w1 ⟨rfl, hb1⟩
 have B1 := Lib.hid hb1
 have V1 := Lib.hid (V0.out.below hb1 V0.out.lt)
 have P1 := Lib.hid (P0.out.below hb1 P0.out.lt)
 clear hb1 CP c1 c2 V0 P0
 have c1 := V1.out.cell 0 rfl
 have c2 := P1.out.cell 0 rfl
 by_cases hc : e1 = 0
 case neg =>
  have hc' : (e1 != 0) = true := by simpa using hc
  rw [if_pos hc] at HO
  go_wp2
  go_ret2
  rw [HO.out]
  exact ⟨⟨_, rfl, own_nil _ _⟩, B1.out⟩
 subst hc
 rw [if_neg (by simp)] at HO
 have hz1 := HZ.out rfl
 have CS := Lib.hid (CS.out hz1)
 clear HZ
 by_cases ht : p.data.toList = [47]
 case pos =>
  rw [if_pos ht] at HO
  have q0 : (p.toList == [47]) = true := by rw [str_data, ht]; rfl
  clear ht
  go_wp2
  go_ret2
  rw [HO.out]
  exact ⟨⟨_, rfl, own_nil _ _⟩, B1.out⟩
 rw [if_neg ht] at HO
 have q0 : (p.toList == [47]) = false := by rw [str_data]; simpa using ht
 clear ht
 go_wp2_with fail
 refine (CG.out _ (row_keep HR.out B1.out B1.out.size)).mono ?_
 rintro e' w2 ⟨rfl, hb2⟩
 have B2 := Lib.hid (B1.out.trans (hb2.mono B1.out.size))
 have V2 := Lib.hid (V1.out.below hb2 V1.out.lt)
 have P2 := Lib.hid (P1.out.below hb2 P1.out.lt)
 obtain ⟨W3, hW3⟩ : ∃ W3, w2.alloc (.cells #[.int .i64 a0, .int .i64 a1, .int .i64 a2, .int .i64 a3, .int .i64 a4, .int .i64 a5, .int .i64 a6, .int .i64 a7, .int .i64 a8, .int .i64 a9, .int .i64 a10, .int .i64 a11] 39) = W3 := ⟨_, rfl⟩
 have B3 : Hid (Below w.heap.size w W3) := hW3 ▸ B2.out.alloc B2.out.size _
 have V3 : Hid (Blk W3 vb _ _) := hW3 ▸ V2.out.alloc _
 have P3 : Hid (Blk W3 pb _ _) := hW3 ▸ P2.out.alloc _
 have X3 : Hid (Blk W3 w2.heap.size 39 #[.int .i64 a0, .int .i64 a1, .int .i64 a2, .int .i64 a3, .int .i64 a4, .int .i64 a5, .int .i64 a6, .int .i64 a7, .int .i64 a8, .int .i64 a9, .int .i64 a10, .int .i64 a11]) := hW3 ▸ Blk.new w2 _ _
 have v3 := V3.out.cell 0 rfl
 have p3 := P3.out.cell 0 rfl
 rw [← hW3] at v3 p3
 have HW3 := Lib.hid hW3
 have F3 : Hid (w.heap.size ≤ w2.heap.size) := B2.out.size
 clear hb2 CG c1 c2 V1 P1 V2 P2 hW3 q0
 by_cases h2 : e2 = 0
 case neg =>
  have h2' : (e2 == 0) = false := by simpa using h2
  have h2'' : (e2 != 0) = true := by simpa using h2
  rw [if_neg (fun h => h2 h.1.1)] at HO
  go_wp2_with fail
  rw [HW3.out]
  refine (CS.out _).mono ?_
  rintro e' w5 ⟨rfl, hb5⟩
  have B5 := Lib.hid (B3.out.trans (hb5.mono B3.out.size))
  have V5 := Lib.hid (V3.out.below hb5 V3.out.lt)
  have X5 := Lib.hid (X3.out.below hb5 X3.out.lt)
  clear hb5 CS
  have v5 := V5.out.cell 0 rfl
  go_wp2_with fail
  refine (CF.out _ (row_keep HR.out B5.out B5.out.size)).mono ?_
  rintro e' w6 ⟨rfl, hb6⟩
  have B6 := Lib.hid (B5.out.trans (hb6.mono B5.out.size))
  have V6 := Lib.hid (V5.out.below hb6 V5.out.lt)
  have X6 := Lib.hid (X5.out.below hb6 X5.out.lt)
  clear hb6 CF v5 V5 X5
  have v6 := V6.out.cell 0 rfl
  go_wp2_with fail
  ·rename_i hc
   go_ret2
   rw [HO.out, if_pos (by simpa using hc)]
   exact ⟨⟨_, rfl, own_nil _ _⟩, B6.out⟩
  have hc : (e3 != 0) = false := by assumption
  rw [if_neg (by simpa using hc)] at HO
  clear hc
  refine (CD.out _ (row_keep HR.out B6.out B6.out.size)).mono ?_
  rintro e' w7 ⟨⟨v, rfl, hown⟩, hb7⟩
  have B7 := Lib.hid (B6.out.trans (hb7.mono B6.out.size))
  have X7 := Lib.hid (X6.out.below hb7 X6.out.lt)
  obtain ⟨A7, c7, rfl, hrow⟩ := OwnRow.read hown
  have hz6 := B6.out.size
  have OL := Lib.hid (own_low hown hz6)
  have ON := Lib.hid hown
  have R7 := Lib.hid hrow
  clear hb7 CD v6 V6 X6 hown hrow hz6
  have x70 := X7.out.cell 0 rfl
  have x71 := X7.out.cell 1 rfl
  by_cases h4 : e4 = 0
  case neg =>
   rw [if_pos (.inl h4)] at HO
   have h4' : (e4 != 0) = true := by simpa using h4
   go_wp2
   go_ret2
   rw [HO.out]
   exact ⟨⟨_, rfl, OL.out⟩, B7.out⟩
  subst h4
  rw [if_pos (.inr h2)] at HO
  go_wp2
  go_ret2
  rw [HO.out]
  exact ⟨⟨_, rfl, OL.out⟩, B7.out⟩
 subst h2
 by_cases h0 : a0 = 2
 case neg =>
  have h0' : ((a0 : Int) == 2) = false := by simpa using (by omega : ¬ (a0 : Int) = 2)
  rw [if_neg (fun h => h0 h.1.2)] at HO
  go_wp2_with fail
  rw [HW3.out]
  refine (CS.out _).mono ?_
  rintro e' w5 ⟨rfl, hb5⟩
  have B5 := Lib.hid (B3.out.trans (hb5.mono B3.out.size))
  have V5 := Lib.hid (V3.out.below hb5 V3.out.lt)
  have X5 := Lib.hid (X3.out.below hb5 X3.out.lt)
  clear hb5 CS
  have v5 := V5.out.cell 0 rfl
  go_wp2_with fail
  refine (CF.out _ (row_keep HR.out B5.out B5.out.size)).mono ?_
  rintro e' w6 ⟨rfl, hb6⟩
  have B6 := Lib.hid (B5.out.trans (hb6.mono B5.out.size))
  have V6 := Lib.hid (V5.out.below hb6 V5.out.lt)
  have X6 := Lib.hid (X5.out.below hb6 X5.out.lt)
  clear hb6 CF v5 V5 X5
  have v6 := V6.out.cell 0 rfl
  go_wp2_with fail
  ·rename_i hc
   go_ret2
   rw [HO.out, if_pos (by simpa using hc)]
   exact ⟨⟨_, rfl, own_nil _ _⟩, B6.out⟩
  have hc : (e3 != 0) = false := by assumption
  rw [if_neg (by simpa using hc)] at HO
  clear hc
  refine (CD.out _ (row_keep HR.out B6.out B6.out.size)).mono ?_
  rintro e' w7 ⟨⟨v, rfl, hown⟩, hb7⟩
  have B7 := Lib.hid (B6.out.trans (hb7.mono B6.out.size))
  have X7 := Lib.hid (X6.out.below hb7 X6.out.lt)
  obtain ⟨A7, c7, rfl, hrow⟩ := OwnRow.read hown
  have hz6 := B6.out.size
  have OL := Lib.hid (own_low hown hz6)
  have ON := Lib.hid hown
  have R7 := Lib.hid hrow
  clear hb7 CD v6 V6 X6 hown hrow hz6
  have x70 := X7.out.cell 0 rfl
  have x71 := X7.out.cell 1 rfl
  by_cases h4 : e4 = 0
  case neg =>
   rw [if_pos (.inl h4)] at HO
   have h4' : (e4 != 0) = true := by simpa using h4
   go_wp2
   go_ret2
   rw [HO.out]
   exact ⟨⟨_, rfl, OL.out⟩, B7.out⟩
  subst h4
  rw [if_neg (fun h => h.elim (fun h => h rfl) (fun h => h rfl))] at HO
  by_cases h1 : a1 ≤ 1
  case pos =>
   have h1' : decide ((a1 : Int) ≤ 1) = true := decide_eq_true (by omega)
   rw [if_pos (.inl h1)] at HO
   go_wp2_with fail
   refine (gone_any _ _ ys pn w7 HL.out R7.out).mono ?_
   generalize goneO ys pn = r at *
   obtain ⟨zs, e6⟩ := r
   rintro e' w8 ⟨⟨v, rfl, hown⟩, hb8⟩
   have hz := B7.out.size
   have ON8 := Lib.hid (own_low hown hz)
   have B8 := Lib.hid (B7.out.trans (hb8.mono hz))
   clear hown hb8
   go_wp2
   go_ret2
   rw [HO.out]
   exact ⟨⟨_, rfl, ON8.out⟩, B8.out⟩
  have h1' : decide ((a1 : Int) ≤ 1) = false := decide_eq_false (by omega)
  rw [if_neg (fun h => h.elim h1 h0)] at HO
  have s1 : IntKind.i64.wrap ((a1 : Int) - 1) = (a1 : Int) - 1 := IntWalk.i64_in _ (by have := LA.out; omega)
  have f7 := X7.out.frozen 1
  have X8 : Hid (Blk (w7.setCell ⟨w2.heap.size, 1, none⟩ (.int .i64 ((a1 : Int) - 1))) w2.heap.size 39 #[.int .i64 a0, .int .i64 ((a1 : Int) - 1), .int .i64 a2, .int .i64 a3, .int .i64 a4, .int .i64 a5, .int .i64 a6, .int .i64 a7, .int .i64 a8, .int .i64 a9, .int .i64 a10, .int .i64 a11]) := X7.out.set_ 1 _
  have O8 : Hid (OwnRow ys w6 (.slice A7 ys.length c7) (w7.setCell ⟨w2.heap.size, 1, none⟩ (.int .i64 ((a1 : Int) - 1)))) := World.ownsRow.kept ON.out (only_setCell (World.grownBy.refl w7 _) 1 _) (.inr (own_ne ON.out X7.out (by decide)).symm)
  have B8 : Hid (Below w.heap.size w (w7.setCell ⟨w2.heap.size, 1, none⟩ (.int .i64 ((a1 : Int) - 1)))) := B7.out.setCell (p := ⟨w2.heap.size, 1, none⟩) F3.out _
  go_wp2_with first
   | fail
   | (refine load_blk 39 (.tmp 6) w2.heap.size 39 #[.int .i64 a0, .int .i64 ((a1 : Int) - 1), .int .i64 a2, .int .i64 a3, .int .i64 a4, .int .i64 a5, .int .i64 a6, .int .i64 a7, .int .i64 a8, .int .i64 a9, .int .i64 a10, .int .i64 a11] _ rfl rfl rfl X8.out Tryz.underlying39 rfl (by kernel_rfl) ?_; go_frame)
  obtain ⟨A8, c8, he8, hr8⟩ := OwnRow.read O8.out
  cases he8
  have ea : ((a1 : Int) - 1) = ((a1 - 1 : Nat) : Int) := by omega
  have CU := Lib.hid (put_ino A7 c7 ys pn (intsL [a0, a1 - 1, a2, a3, a4, a5, a6, a7, a8, a9, a10, a11]) _ HL.out hr8 rfl (LR.out (by omega)))
  generalize putO ys pn (intsL [a0, a1 - 1, a2, a3, a4, a5, a6, a7, a8, a9, a10, a11]) = r at *
  obtain ⟨zs, e6⟩ := r
  unfold RowCode at CU
  dsimp only at CU
  unfold intsL at CU
  simp only [List.map_cons, List.map_nil, ← ea] at CU
  refine CU.out.mono ?_
  rintro e' w9 ⟨⟨v, rfl, hown⟩, hb9⟩
  have hz := B8.out.size
  have ON9 := Lib.hid (own_low hown hz)
  have B9 := Lib.hid (B8.out.trans (hb9.mono hz))
  clear hown hb9 CU X8 O8 B8
  go_wp2
  go_ret2
  rw [HO.out]
  exact ⟨⟨_, rfl, ON9.out⟩, B9.out⟩
 subst h0
 have HW3 : Hid (w2.alloc (.cells #[.int .i64 2, .int .i64 a1, .int .i64 a2, .int .i64 a3, .int .i64 a4, .int .i64 a5, .int .i64 a6, .int .i64 a7, .int .i64 a8, .int .i64 a9, .int .i64 a10, .int .i64 a11] 39) = W3) := HW3
 have v3 : (w2.alloc (.cells #[.int .i64 2, .int .i64 a1, .int .i64 a2, .int .i64 a3, .int .i64 a4, .int .i64 a5, .int .i64 a6, .int .i64 a7, .int .i64 a8, .int .i64 a9, .int .i64 a10, .int .i64 a11] 39)).cell? ⟨vb, 0, none⟩ = _ := v3
 have p3 : (w2.alloc (.cells #[.int .i64 2, .int .i64 a1, .int .i64 a2, .int .i64 a3, .int .i64 a4, .int .i64 a5, .int .i64 a6, .int .i64 a7, .int .i64 a8, .int .i64 a9, .int .i64 a10, .int .i64 a11] 39)).cell? ⟨pb, 0, none⟩ = _ := p3
 have X3 : Hid (Blk W3 w2.heap.size 39 #[.int .i64 2, .int .i64 a1, .int .i64 a2, .int .i64 a3, .int .i64 a4, .int .i64 a5, .int .i64 a6, .int .i64 a7, .int .i64 a8, .int .i64 a9, .int .i64 a10, .int .i64 a11]) := X3
 go_wp2_with fail
 rw [HW3.out]
 refine (CL.out _ (row_keep HR.out B3.out B3.out.size)).mono ?_
 rintro e' w4 ⟨⟨v, rfl, hown⟩, hb4⟩
 have B4 := Lib.hid (B3.out.trans (hb4.mono B3.out.size))
 have V4 := Lib.hid (V3.out.below hb4 V3.out.lt)
 have P4 := Lib.hid (P3.out.below hb4 P3.out.lt)
 have X4 := Lib.hid (X3.out.below hb4 X3.out.lt)
 obtain ⟨A4, c4, rfl, _⟩ := OwnEnts.read hown
 clear hb4 CL v3 p3 V3 P3 X3 hown
 have v4 := V4.out.cell 0 rfl
 have p4 := P4.out.cell 0 rfl
 by_cases h5 : e5 = 0
 case neg =>
  have h5' : (e5 != 0) = true := by simpa using h5
  rw [if_pos ⟨by simp, .inl h5⟩] at HO
  go_wp2
  go_ret2
  rw [HO.out]
  exact ⟨⟨_, rfl, own_nil _ _⟩, B4.out⟩
 subst h5
 by_cases h6 : E = []
 case neg =>
  have h6' : decide (0 < E.length) = true := decide_eq_true (List.length_pos_iff.2 h6)
  have h6'' : decide ((0 : Int) < (E.length : Int)) = true := decide_eq_true (by have := List.length_pos_iff.2 h6; omega)
  rw [if_pos ⟨by simp, .inr h6⟩] at HO
  go_wp2
  go_ret2
  rw [HO.out]
  exact ⟨⟨_, rfl, own_nil _ _⟩, B4.out⟩
 have h6' : E.length = 0 := by rw [h6]; rfl
 rw [if_neg (fun h => h.2.elim (fun h => h rfl) (fun h => h h6))] at HO
 clear h6
 rw [h6']
 go_wp2_with fail
 refine (CS.out _).mono ?_
 rintro e' w5 ⟨rfl, hb5⟩
 have B5 := Lib.hid (B4.out.trans (hb5.mono B4.out.size))
 have V5 := Lib.hid (V4.out.below hb5 V4.out.lt)
 have X5 := Lib.hid (X4.out.below hb5 X4.out.lt)
 clear hb5 CS
 have v5 := V5.out.cell 0 rfl
 go_wp2_with fail
 refine (CF.out _ (row_keep HR.out B5.out B5.out.size)).mono ?_
 rintro e' w6 ⟨rfl, hb6⟩
 have B6 := Lib.hid (B5.out.trans (hb6.mono B5.out.size))
 have V6 := Lib.hid (V5.out.below hb6 V5.out.lt)
 have X6 := Lib.hid (X5.out.below hb6 X5.out.lt)
 clear hb6 CF v5 V5 X5
 have v6 := V6.out.cell 0 rfl
 go_wp2_with fail
 ·rename_i hc
  go_ret2
  rw [HO.out, if_pos (by simpa using hc)]
  exact ⟨⟨_, rfl, own_nil _ _⟩, B6.out⟩
 have hc : (e3 != 0) = false := by assumption
 rw [if_neg (by simpa using hc)] at HO
 clear hc
 refine (CD.out _ (row_keep HR.out B6.out B6.out.size)).mono ?_
 rintro e' w7 ⟨⟨v, rfl, hown⟩, hb7⟩
 have B7 := Lib.hid (B6.out.trans (hb7.mono B6.out.size))
 have X7 := Lib.hid (X6.out.below hb7 X6.out.lt)
 obtain ⟨A7, c7, rfl, hrow⟩ := OwnRow.read hown
 have hz6 := B6.out.size
 have OL := Lib.hid (own_low hown hz6)
 have ON := Lib.hid hown
 have R7 := Lib.hid hrow
 clear hb7 CD v6 V6 X6 hown hrow hz6
 have x70 := X7.out.cell 0 rfl
 have x71 := X7.out.cell 1 rfl
 by_cases h4 : e4 = 0
 case neg =>
  rw [if_pos (.inl h4)] at HO
  have h4' : (e4 != 0) = true := by simpa using h4
  go_wp2
  go_ret2
  rw [HO.out]
  exact ⟨⟨_, rfl, OL.out⟩, B7.out⟩
 subst h4
 rw [if_neg (fun h => h.elim (fun h => h rfl) (fun h => h rfl)), if_pos (.inr (by simp))] at HO
 by_cases h1 : a1 ≤ 1
 case pos =>
  have h1' : decide ((a1 : Int) ≤ 1) = true := decide_eq_true (by omega)
  go_wp2_with fail
  refine (gone_any _ _ ys pn w7 HL.out R7.out).mono ?_
  generalize goneO ys pn = r at *
  obtain ⟨zs, e6⟩ := r
  rintro e' w8 ⟨⟨v, rfl, hown⟩, hb8⟩
  have hz := B7.out.size
  have ON8 := Lib.hid (own_low hown hz)
  have B8 := Lib.hid (B7.out.trans (hb8.mono hz))
  clear hown hb8
  go_wp2
  go_ret2
  rw [HO.out]
  exact ⟨⟨_, rfl, ON8.out⟩, B8.out⟩
 have h1' : decide ((a1 : Int) ≤ 1) = false := decide_eq_false (by omega)
 go_wp2_with fail
 refine (gone_any _ _ ys pn w7 HL.out R7.out).mono ?_
 generalize goneO ys pn = r at *
 obtain ⟨zs, e6⟩ := r
 rintro e' w8 ⟨⟨v, rfl, hown⟩, hb8⟩
 have hz := B7.out.size
 have ON8 := Lib.hid (own_low hown hz)
 have B8 := Lib.hid (B7.out.trans (hb8.mono hz))
 clear hown hb8
 go_wp2
 go_ret2
 rw [HO.out]
 exact ⟨⟨_, rfl, ON8.out⟩, B8.out⟩
theorem ite_le {c : Prop} [Decidable c] {a b : List ByteArray × Int} {N : Nat} (h1 : c → a.1.length ≤ N) (h2 : ¬ c → b.1.length ≤ N) : (if c then a else b).1.length ≤ N := by
 split
 ·exact h1 (by assumption)
 ·exact h2 (by assumption)
theorem goneO_le {xs : List ByteArray} (h : xs.length ≤ 1000000) (n : Int) : (goneO xs n).1.length ≤ 1000000 := by
 unfold goneO
 refine ite_le (fun _ => Nat.zero_le _) fun _ => ite_le (fun _ => Nat.zero_le _) fun _ => putO_le ?_ _ _
 unfold goneV
 split
 ·exact giveO_le (cutO_le h _ _) _
 ·exact cutO_le h _ _
theorem removeI_le {xs : List ByteArray} (h : xs.length ≤ 1000000) (p : ByteArray) : (removeI xs p).1.length ≤ 1000000 := by
 unfold removeI
 refine ite_le (fun _ => Nat.zero_le _) fun _ => ite_le (fun _ => Nat.zero_le _) fun _ => ite_le (fun _ => Nat.zero_le _) fun _ => ite_le (fun _ => Nat.zero_le _) fun _ => ite_le (fun _ => dropO_le h _ _) fun _ => ite_le (fun _ => goneO_le (dropO_le h _ _) _) fun _ => putO_le (dropO_le h _ _) _ _
set_option maxHeartbeats 4000000 in
theorem remove_any (A : Option Addr) (c : Nat) (xs : List ByteArray) (p : ByteArray) (w : World) (hx : xs.length ≤ 1000000) (hp : p.size ≤ 140737488355328) (h : RowAt w w.heap.size A (xs.map .string)) :
  Calls Tryz.prog 21 #[.slice A xs.length c, .string p] w (RowCode (removeO xs p).1 (removeO xs p).2 w) := by
 obtain ⟨W1, hW1⟩ : ∃ W1, (w.alloc (Obj.cells #[.slice A xs.length c] 24)).alloc (.cells #[.string p] 9) = W1 := ⟨_, rfl⟩
 obtain ⟨b1, v1, p1⟩ : Below w.heap.size w W1 ∧ Blk W1 w.heap.size _ _ ∧ Blk W1 (w.heap.size + 1) _ _ := hW1 ▸ box2 w _ _ _ _
 have HW1 := Lib.hid hW1
 have HR := Lib.hid h
 have B1 := Lib.hid b1
 have CC := Lib.hid (remove_cl w.heap.size (w.heap.size + 1) A c xs p W1 hx hp (row_keep h b1 b1.size) v1 p1)
 have WW := Lib.hid (weighed_any A c xs 60 _ _ W1.heap.size (fun _ => True) W1 hx (removeI_le hx p) (enters_of Tryz.func60 (by kernel_rfl) rfl) (Nat.le_refl _) (row_keep h b1 b1.size) (fun _ _ _ _ => trivial) (CC.out.mono fun _ _ h => Weigh.of_row h))
 have c1 := v1.cell 0 rfl
 have HO : Hid (removeO xs p = weighO xs (removeI xs p)) := by show _ = _; rfl
 rw [← HO.out] at WW
 generalize removeO xs p = z at *
 obtain ⟨rs, e⟩ := z
 unfold Weigh at WW
 dsimp only at WW
 clear h hW1 b1 v1 p1 CC HO
 go_enter Tryz.func21, Tryz.ntmps21
 go_wp2_with fail
 rw [HW1.out]
 refine WW.out.mono ?_
 rintro e' w2 ⟨⟨v, rfl, hown⟩, hb2, _⟩
 have B2 := Lib.hid (B1.out.trans (hb2.mono B1.out.size))
 have ON := Lib.hid (own_low hown B1.out.size)
 clear hb2 hown WW c1 HW1
 go_wp2
 go_ret2
 exact ⟨⟨_, rfl, ON.out⟩, B2.out⟩
end Go.Proofs.YtdldlendppkknaaGreatDoor
