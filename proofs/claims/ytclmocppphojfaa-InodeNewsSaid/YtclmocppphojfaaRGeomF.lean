/-
  What the document's Room and Format of layer 17 do.
-/
import Derived.Test.YtclmocppphojfaaRGeomU
import Derived.Test.YtclmocppphojfaaGeomF
namespace Go.Proofs.Ytclmocppphojfaa
open Go.RowKit
set_option linter.unusedVariables false
set_option linter.unusedSimpArgs false
set_option maxRecDepth 100000
/-- how many of the first k blocks are not taken -/
def roomK (xs : List ByteArray) (k : Nat) : Nat := match ofR xs with
  | some _ => k - cntL (blkL xs 2) k
  | none => 0
set_option maxHeartbeats 2000000 in
theorem rroom_any (A : Option Addr) (c : Nat) (xs : List ByteArray) (w : World) (hx : xs.length ≤ 1000000) (h : RowAt w w.heap.size A (xs.map .string)) :
    Calls Try.prog 26 #[.slice A xs.length c] w fun e w' => e = .returned (.int .i64 (roomR xs : Nat)) ∧ Below w.heap.size w w' := by
  have HR := Lib.hid h
  clear h
  go_enter Try.func26, Try.ntmps26
  go_wp2
  go_loopw [3, 9] (fun n i wr => ∃ k : Nat, k ≤ xs.length ∧ i = .int .i64 k ∧ n = .int .i64 (roomK xs k : Nat) ∧ Hid (Below w.heap.size w wr)) (fun _ i _ => xs.length - (intOf i).toNat)
  case atStart => exact ⟨0, Nat.zero_le _, rfl, by unfold roomK; split <;> simp, Below.refl _ _⟩
  case round =>
    obtain ⟨k, hk, rfl, rfl, Y⟩ := hrel
    by_cases hlt : k < xs.length
    · go_wp2_with fail
      have hyz := Y.out.size
      refine (rof_any A c xs _ hx ((HR.out.below Y.out).mono Y.out.size)).mono ?_
      rintro e w1 ⟨rfl, hb1⟩
      have B := Lib.hid (Y.out.trans (hb1.mono Y.out.size))
      clear hb1
      have hz := B.out.size
      cases ho : ofR xs with
      | none =>
        have HO := Lib.hid ho
        have HK : Hid (roomK xs k = 0) := by show _ = _; unfold roomK; rw [ho]
        have HK1 : Hid (roomK xs (k + 1) = 0) := by show _ = _; unfold roomK; rw [ho]
        clear ho
        unfold ofE
        rw [HK.out]
        go_wp2
        go_roundw
        case rel => exact ⟨k + 1, by omega, by go_num, by rw [HK1.out]; rfl, B.out.alloc hz _⟩
        case measure => simp [intOf]; omega
      | some m =>
        have HO := Lib.hid ho
        have HU : Hid (usedR xs (k : Int) = bitL (blkL xs 2) k) := by show _ = _; unfold usedR; rw [ho]; simp; omega
        have HK : Hid (roomK xs k = k - cntL (blkL xs 2) k) := by show _ = _; unfold roomK; rw [ho]
        have HK1 : Hid (roomK xs (k + 1) = k + 1 - (cntL (blkL xs 2) k + (if bitL (blkL xs 2) k then 1 else 0))) := by show _ = _; unfold roomK; rw [ho, cntL_succ]
        have hcl := cntL_le (blkL xs 2) k
        clear ho
        unfold ofE
        dsimp only
        generalize cntL (blkL xs 2) k = cn at *
        rw [HK.out]
        have B1 := Lib.hid (B.out.alloc hz (.cells #[.int .i64 xs.length, .int .i64 m, .int .i64 1, .int .i64 2, .int .i64 3, .int .i64 (dataN m : Nat)] 24))
        have R1 := Lib.hid ((HR.out.below B1.out).mono B1.out.size)
        generalize hn0 : k - cn = n0 at *
        have hn1 : n0 ≤ 1000000 := by omega
        clear HK
        go_wp2_with fail
        refine (rused_any A c xs k _ hx R1.out).mono ?_
        rintro e w2 ⟨rfl, hb2⟩
        have B2 := Lib.hid (B1.out.trans (hb2.mono B1.out.size))
        clear hb2
        rw [HU.out]
        cases hb : bitL (blkL xs 2) k with
        | true =>
          rw [hb] at HK1
          have HB := Lib.hid hb
          clear hb
          go_wp2
          go_roundw
          case rel => exact ⟨k + 1, by omega, by go_num, by rw [HK1.out]; simp <;> omega, B2.out⟩
          case measure => simp [intOf]; omega
        | false =>
          rw [hb] at HK1
          have HB := Lib.hid hb
          clear hb
          go_wp2
          go_roundw
          case rel => exact ⟨k + 1, by omega, by go_num, by rw [HK1.out]; go_num <;> (simp <;> omega), B2.out⟩
          case measure => simp [intOf]; omega
    · obtain rfl : k = xs.length := by omega
      go_wp2
      go_ret
      exact ⟨rfl, Y.out⟩
/-- what Format has made when k blocks are there -/
def frow (b m k : Nat) : List ByteArray := headB b m :: List.replicate (k - 1) (zerosB 128)
theorem frow_succ (b m k : Nat) (h : 1 ≤ k) : frow b m (k + 1) = frow b m k ++ [zerosB 128] := by
  obtain ⟨k, rfl⟩ : ∃ n, k = n + 1 := ⟨k - 1, by omega⟩
  unfold frow
  simp [List.replicate_succ']
theorem frow_length (b m k : Nat) (h : 1 ≤ k) : (frow b m k).length = k := by simp [frow]; omega
theorem frow_all (b m : Nat) (h : 1 ≤ b) : frow b m b = (List.replicate b (zerosB 128)).set 0 (headB b m) := by
  obtain ⟨k, rfl⟩ : ∃ n, b = n + 1 := ⟨b - 1, by omega⟩
  unfold frow
  simp [List.replicate_succ]
theorem frow_two (b m : Nat) (h : 3 ≤ b) : (frow b m b).set 2 (mapB 0) = frow b m b := by
  rw [mapB_zero]
  apply List.ext_getElem?
  intro i
  rw [List.getElem?_set]
  have hl := frow_length b m b (by omega)
  split
  · rename_i e
    subst e
    rw [if_pos (by omega)]
    unfold frow
    simp [List.getElem?_replicate]
    omega
  · rfl
theorem ownsRow_keep {w w' : World} {base : Nat} {e : TypeId} {v : Value} {n : Nat} {xs : List Value} (h : w.ownsRow base e 1 v n xs) (hb : Below w.heap.size w w') : w'.ownsRow base e 1 v n xs := by
  refine ⟨h.1, ?_⟩
  rcases h.2 with hn | ⟨g, cap, cur, hv, h1, h2, h3⟩
  · exact .inl hn
  · exact .inr ⟨g, cap, cur, hv, h1, (hb.block g (Array.getElem?_eq_some_iff.1 h2).1).trans h2, h3⟩
def RFmtPost (b m : Int) (w : World) (e : Ending) (w' : World) : Prop := Below w.heap.size w w' ∧
  if planE b m = 0 then ∃ v, e = .returned (.tuple #[v, .int .i64 0]) ∧ OwnRow (fmtV b.toNat m.toNat) w v w' else e = .returned (.tuple #[.slice none 0 0, .int .i64 (planE b m)])
set_option maxHeartbeats 4000000 in
theorem rformat_any (b m : Int) (w : World) : Calls Try.prog 18 #[.int .i64 b, .int .i64 m] w (RFmtPost b m w) := by
  obtain ⟨i0, q1, q2, q3, q4⟩ := info_parts str_info
  have I0 := Lib.hid (And.intro q1 (And.intro q2 (And.intro q3 q4)))
  clear q1 q2 q3 q4
  by_cases hp : planE b m = 0
  case neg =>
    have HP := Lib.hid hp
    obtain ⟨pe, hpe⟩ : ∃ e, planE b m = e := ⟨_, rfl⟩
    have HPE := Lib.hid hpe
    have hne : (pe != 0) = true := by rw [hpe] at hp; simpa using hp
    clear hp hpe
    go_enter Try.func18, Try.ntmps18
    go_wp2_with fail
    refine (rplan_any b m _).mono ?_
    rintro e w1 ⟨rfl, hb1⟩
    unfold planC
    rw [if_neg HP.out, HPE.out]
    unfold geomZ
    have B := Lib.hid hb1
    clear hb1
    have hz := B.out.size
    go_wp2
    go_ret2
    unfold RFmtPost
    rw [if_neg HP.out, HPE.out]
    exact ⟨B.out.alloc hz _, rfl⟩
  case pos =>
    obtain ⟨b, rfl⟩ := Int.eq_ofNat_of_zero_le (show 0 ≤ b by have := planE_ok hp; omega)
    obtain ⟨m, rfl⟩ := Int.eq_ofNat_of_zero_le (show 0 ≤ m by have := planE_ok hp; omega)
    have hpl := planE_iff.1 hp
    have HP := Lib.hid hp
    obtain ⟨d, hd⟩ : ∃ d : Nat, dataN m = d := ⟨_, rfl⟩
    have HD := Lib.hid hd
    have HDI : Hid ((3 : Int) + ((m : Int) + 1) / 2 = (d : Int)) := by show _ = _; unfold dataN at hd; omega
    rw [hd] at hpl
    obtain ⟨l1, l2, l3, l4, l5⟩ := hpl
    have l6 : d ≤ 35 := by unfold dataN at hd; omega
    clear hp hd
    go_enter Try.func18, Try.ntmps18
    go_wp2_with fail
    refine (rplan_any b m _).mono ?_
    rintro e w1 ⟨rfl, hb1⟩
    unfold planC geomC
    rw [if_pos HP.out, HP.out, HDI.out]
    have B := Lib.hid hb1
    clear hb1
    have hz := B.out.size
    go_wp2_with fail
    refine (rhead_any b m 1 2 3 d _ (by omega) (by omega)).mono ?_
    rintro e w2 ⟨rfl, hb2⟩
    have B2 := Lib.hid ((B.out.alloc hz _).trans (hb2.mono (by simp; omega)))
    have G6 := Lib.hid ((Blk.new w1 24 #[.int .i64 b, .int .i64 m, .int .i64 1, .int .i64 2, .int .i64 3, .int .i64 d]).below hb2 (by simp))
    have hz2 : w1.heap.size + 1 ≤ w2.heap.size := by have := hb2.size; simpa using this
    clear hb2
    have hz1 : w.heap.size ≤ w1.heap.size := hz
    have HW : Hid ((w2.alloc (.cells #[.string (headB b m)] 9)).ownsRow (w1.heap.size + 1) 9 1 (.slice (some ⟨w2.heap.size, 0, none⟩) 1 1) 1 ((frow b m 1).map .string)) := World.ownsRow_lit w2 #[.string (headB b m)] 1 hz2 (by decide) rfl
    have B3 := Lib.hid (B2.out.alloc (by omega) (.cells #[.string (headB b m)] 9))
    have G6 := Lib.hid (G6.out.alloc (.cells #[.string (headB b m)] 9))
    go_wp2
    go_loopw [8, 9] (fun v i wr => ∃ k : Nat, 1 ≤ k ∧ k ≤ b ∧ i = .int .i64 k ∧ Hid (wr.ownsRow (w1.heap.size + 1) 9 1 v k ((frow b m k).map .string)) ∧ Hid (Blk wr w1.heap.size 24 #[.int .i64 b, .int .i64 m, .int .i64 1, .int .i64 2, .int .i64 3, .int .i64 d]) ∧ Hid (Below w.heap.size w wr)) (fun _ i _ => b - (intOf i).toNat)
    case atStart => exact ⟨1, Nat.le_refl _, by omega, rfl, HW.out, G6, B3⟩
    case round =>
      obtain ⟨k, hk1, hk, rfl, OW, Y6, Y⟩ := hrel
      obtain ⟨g, cap, rfl⟩ := Go.Joins.ownsRow_form OW.out (by omega)
      have hyz := Y.out.size
      have hg1 : w1.heap.size + 1 ≤ g := (OW.out.lt g rfl).1
      have h6 := Y6.out.lt
      by_cases hlt : k < b
      · go_wp2_with fail
        refine (rzeros_any 128 _ (by omega)).mono ?_
        rintro e w' ⟨rfl, rfl⟩
        have OW2 := Lib.hid (OW.out.alloc (.cells #[.string (zerosB 128)] 9))
        have Y62 := Lib.hid (Y6.out.alloc (.cells #[.string (zerosB 128)] 9))
        have Y2 := Lib.hid (Y.out.alloc hyz (.cells #[.string (zerosB 128)] 9))
        have HC : Hid (∀ j u, [Value.string (zerosB 128)][j]? = some u → (wr.alloc (.cells #[.string (zerosB 128)] 9)).cell? ((⟨wr.heap.size, 0, none⟩ : Addr).add j) = some u) := fun j u hu => by
          cases j with
          | zero => cases hu; exact (Blk.new wr 9 #[.string (zerosB 128)]).cell 0 rfl
          | succ j => simp at hu
        have H1 : Hid (∀ u ∈ [Value.string (zerosB 128)], u.oneCell' = true) := fun u hu => by simp at hu; subst hu; rfl
        have HM : Hid (k + 1 ≤ maxLen) := by show _ ≤ _; unfold maxLen; omega
        have HY : Hid ((k + 1) * 16 ≤ 140737488355328) := by show _ ≤ _; omega
        have HB : Hid (w1.heap.size + 1 ≤ (wr.alloc (.cells #[.string (zerosB 128)] 9)).heap.size) := by show _ ≤ _; simp; omega
        go_wp2_with (at_builtin; refine wpList_append_own _ rfl (.tmp 28) (.tmp 30) 28 rfl (w1.heap.size + 1) 9 i0 (.string ⟨#[]⟩) 1 16 Try.underlying28 I0.out.1 I0.out.2.1 I0.out.2.2.1 I0.out.2.2.2 rfl (by decide) _ k _ rfl OW2.out ⟨wr.heap.size, 0, none⟩ 1 1 [.string (zerosB 128)] rfl rfl HC.out H1.out HM.out HY.out HB.out ?_; intro v w3 own hg hv)
        have OW3 := Lib.hid own
        have Y63 := Lib.hid (Y62.out.grown hg (by intro e; have e' : w1.heap.size = g := Option.some.inj e; omega))
        have Y3 := Lib.hid (Y2.out.grown hg (by simp; omega) (by intro k' hk'; have e' : g = k' := Option.some.inj hk'; omega))
        clear own hg hv
        go_wp2
        go_roundw
        case rel => exact ⟨k + 1, by omega, by omega, by go_num, by rw [frow_succ b m k hk1, List.map_append]; exact OW3.out, Y63, Y3⟩
        case measure => simp [intOf]; omega
      · obtain rfl : k = b := by omega
        have HF2 := Lib.hid (frow_two k m (by omega))
        have OW : Hid (wr.ownsRow (w1.heap.size + 1) 9 1 (.slice (some ⟨g, 0, none⟩) k cap) k (((frow k m k).set 2 (mapB 0)).map .string)) := by rw [HF2.out]; exact OW.out
        clear hlt HW G6 B3 HF2
        go_wp2
        go_loopw [10] (fun i wr => ∃ j : Nat, j ≤ d ∧ i = .int .i64 j ∧ Hid (wr.ownsRow (w1.heap.size + 1) 9 1 (.slice (some ⟨g, 0, none⟩) k cap) k (((frow k m k).set 2 (mapB j)).map .string)) ∧ Hid (Blk wr w1.heap.size 24 #[.int .i64 k, .int .i64 m, .int .i64 1, .int .i64 2, .int .i64 3, .int .i64 d]) ∧ Hid (Below w.heap.size w wr)) (fun i _ => d - (intOf i).toNat)
        case atStart => exact ⟨0, Nat.zero_le _, rfl, OW, Y6, Y⟩
        case round =>
          rename_i wr0
          obtain ⟨j, hj, rfl, OW, Y6, Y⟩ := hrel
          have y5 := Y6.out.cell 5 (v := .int .i64 d) rfl
          have hyz := Y.out.size
          by_cases hlt : j < d
          · have hfl := frow_length k m k hk1
            have c2 : wr.cell? ⟨g, 2, none⟩ = some (.string (mapB j)) := by
              rw [OW.out.cellAt 2 (by omega), List.getElem?_map, List.getElem?_set, if_pos rfl, if_pos (by omega)]; rfl
            have i2 : (2 : Int) < (k : Int) := by omega
            clear hfl
            go_wp2_with fail
            refine (rturn_any (mapB j) j _ (mapB_size j) (by omega)).mono ?_
            rintro e w3 ⟨rfl, hb3⟩
            rw [mapB_turn j (by omega)]
            have OW3 := Lib.hid (ownsRow_keep OW.out hb3)
            have Y63 := Lib.hid (Y6.out.below hb3 Y6.out.lt)
            have Y3 := Lib.hid (Y.out.trans (hb3.mono Y.out.size))
            have c3 : w3.cell? ⟨g, 2, none⟩ = some (.string (mapB j)) := (hb3.cell (p := ⟨g, 2, none⟩) (OW.out.lt g rfl).2).trans c2
            have f3 : w3.frozen? ⟨g, 2, none⟩ = false := OW3.out.frozenAt 2
            have hst := OW3.out.stored 2 (.string (mapB (j + 1)))
            have OW4 := Lib.hid hst.1
            have Y64 := Lib.hid (Y63.out.grown hst.2 (by intro e; have e' : w1.heap.size = g := Option.some.inj e; omega))
            have Y4 : Hid (Below w.heap.size w (w3.setCell ⟨g, 2, none⟩ (.string (mapB (j + 1))))) := Y3.out.setCell (by show w.heap.size ≤ g; omega) _
            clear hb3 c2 hst y5
            go_wp2
            go_roundw
            case rel => exact ⟨j + 1, by omega, by go_num, by have := OW4.out; rw [← List.map_set, List.set_set] at this; exact this, Y64, Y4⟩
            case measure => simp [intOf]; omega
          · obtain rfl : j = d := by omega
            clear hlt
            go_wp2
            go_ret2
            unfold RFmtPost
            rw [if_pos HP.out]
            refine ⟨Y.out, _, rfl, ?_⟩
            have e : fmtV k m = (frow k m k).set 2 (mapB j) := by unfold fmtV; rw [HD.out, frow_all k m hk1]
            unfold OwnRow
            rw [Int.toNat_natCast, Int.toNat_natCast, fmtV_length, e]
            exact Go.Joins.ownsRow_le OW.out (by omega)
end Go.Proofs.Ytclmocppphojfaa
