/-
  law19's Laid: the volume of 40 blocks with three files behind the acts.
-/
import Derived.Test.YtjmafegckfijbaaLaid
namespace Go.Proofs.Ytjmafegckfijbaa
open Go.RowKit
set_option linter.unusedVariables false
set_option linter.unusedSimpArgs false
set_option maxRecDepth 100000
theorem range_snocI (f : Nat → Int) (k : Nat) : (List.range (k + 1)).map f = (List.range k).map f ++ [f k] := by rw [List.range_succ, List.map_append]; rfl
/-- rows of unlike elements lie in unlike blocks -/
theorem own_two {w : World} {base base' : Nat} {e e' : TypeId} {z z' : Nat} {v v' : Value} {n n' : Nat} {xs xs' : List Value} (h : w.ownsRow base e z v n xs) (g : w.ownsRow base' e' z' v' n' xs') (hne : e ≠ e') : v.ownBlock = none ∨ v.ownBlock ≠ v'.ownBlock := by
  rcases h.2 with ⟨rfl, _⟩ | ⟨b, cap, cur, rfl, _, hh, _⟩
  · exact .inl rfl
  · right
    rcases g.2 with ⟨rfl, _⟩ | ⟨b', cap', cur', rfl, _, hh', _⟩
    · simp [Value.ownBlock]
    · intro he
      have : b = b' := by simpa [Value.ownBlock] using he
      subst this
      rw [hh] at hh'
      injection hh' with hh'
      injection hh' with _ ht
      exact hne ht
theorem OwnRow.own40 {ys : List ByteArray} {w w' : World} {v : Value} {B : Nat} (h : OwnRow ys w v w') (hl : ys.length = 40) (hB : B ≤ w.heap.size) : ∃ A c, v = .slice A 40 c ∧ w'.ownsRow B 9 1 (.slice A 40 c) 40 (ys.map .string) := by
  have h2 : w'.ownsRow w.heap.size 9 1 v 40 (ys.map .string) := by have := h; unfold OwnRow at this; rw [hl] at this; exact this
  obtain ⟨g', cap', rfl⟩ := Go.Joins.ownsRow_form h2 (by omega)
  exact ⟨_, _, rfl, own_low h2 hB⟩
theorem OwnRow.read40 {ys : List ByteArray} {w w' : World} {v : Value} (h : OwnRow ys w v w') (hl : ys.length = 40) : ∃ A c, v = .slice A 40 c ∧ RowAt w' w'.heap.size A (ys.map .string) := by
  obtain ⟨A, c, rfl, hr⟩ := h.read
  rw [hl]
  exact ⟨A, c, rfl, hr⟩
/-- what Laid hands back: the volume, the files' numbers -/
def LaidPost (V : List ByteArray) (w : World) (e : Ending) (w' : World) : Prop :=
  (∃ A c A2 c2, e = .returned (.tuple #[.slice A 40 c, .slice A2 3 c2]) ∧ RowAt w' w'.heap.size A (V.map .string) ∧ RowAt w' w'.heap.size A2 [.int .i64 1, .int .i64 2, .int .i64 3]) ∧ Below w.heap.size w w'
set_option maxHeartbeats 8000000 in
theorem laid_any (A : Option Addr) (c : Nat) (l : List ActV) (w : World) (hl : l.length ≤ maxLen) (hd : ∀ a ∈ l, ActOk a ∧ a.data.size ≤ 140737488355328) (h : ActsAt w w.heap.size A l) :
    Calls Try.prog 41 #[.int .i64 40, .int .i64 4, .int .i64 3, .slice A l.length c] w (LaidPost (laidV l) w) := by
  obtain ⟨i0, q1, q2, q3, q4⟩ := info_parts i64_info
  have I0 := Lib.hid (And.intro q1 (And.intro q2 (And.intro q3 q4)))
  clear q1 q2 q3 q4
  have HA := Lib.hid h
  have HD := Lib.hid hd
  unfold maxLen at hl
  clear h hd
  have C2 : Hid (∀ w, Calls Try.prog 48 #[.int .i64 40, .int .i64 4] w fun e w' => (∃ A c, e = .returned (.tuple #[.slice A 40 c, .int .i64 0]) ∧ w'.ownsRow w.heap.size 9 1 (.slice A 40 c) 40 ((newV 0).map .string)) ∧ Below w.heap.size w w') := fun w => (format_any 40 4 w).mono fun e w' h => by
    unfold FmtPost at h
    rw [if_pos (show planE 40 4 = 0 by decide)] at h
    obtain ⟨hb, v, rfl, hn⟩ := h
    obtain ⟨A1, c1, rfl, hr1⟩ := (hn.own (by rw [show Int.toNat 40 = 40 from rfl, show Int.toNat 4 = 4 from rfl, fmtV_length]; decide)).own40 (fmtV_length _ _) (Nat.le_refl _)
    exact ⟨⟨A1, c1, rfl, hr1⟩, hb⟩
  have C3 : Hid (∀ k A c w, k < 3 → RowAt w w.heap.size A ((newV k).map .string) → Calls Try.prog 34 #[.slice A 40 c, .int .i64 1, .int .i64 0] w fun e w' => (∃ A c, e = .returned (.tuple #[.slice A 40 c, .int .i64 ((k + 1 : Nat) : Int), .int .i64 0]) ∧ w'.ownsRow w.heap.size 9 1 (.slice A 40 c) 40 ((newV (k + 1)).map .string)) ∧ Below w.heap.size w w') := fun k A c w hk hr => by
    have := new_ino A c (newV k) 1 0 w (by rw [newV_len]; decide) hr
    rw [newV_new k hk, newV_len] at this
    exact this.mono fun e w' h => by
      obtain ⟨⟨v, rfl, hn⟩, hb⟩ := h
      obtain ⟨A1, c1, rfl, hr1⟩ := hn.own40 (newV_len _) (Nat.le_refl _)
      exact ⟨⟨A1, c1, rfl, hr1⟩, hb⟩
  have HV3 : Hid (newV 3 = laidV (l.take 0)) := rfl
  go_enter Try.func41, Try.ntmps41
  go_wp2_with fail
  refine (C2.out _).mono ?_
  rintro e w1 ⟨⟨A1, c1, rfl, hr1⟩, hb1⟩
  have B := Lib.hid hb1
  have R := Lib.hid hr1
  have O0 : Hid (w1.ownsRow w.heap.size 3 1 (.slice none 0 0) ((List.range 0).map fun j : Nat => ((j + 1 : Nat) : Int)).length (intsC ((List.range 0).map fun j : Nat => ((j + 1 : Nat) : Int)))) := World.ownsRow_nil _ _ _ _
  clear hb1 hr1 C2
  go_wp2
  go_loopw [10, 12, 30] (fun v ns i wr => ∃ (k : Nat) (AV : Option Addr) (cv : Nat), k ≤ 3 ∧ i = .int .i64 k ∧ v = .slice AV 40 cv ∧ Hid (wr.ownsRow w.heap.size 9 1 (.slice AV 40 cv) 40 ((newV k).map .string)) ∧ Hid (wr.ownsRow w.heap.size 3 1 ns ((List.range k).map fun j : Nat => ((j + 1 : Nat) : Int)).length (intsC ((List.range k).map fun j : Nat => ((j + 1 : Nat) : Int)))) ∧ Hid (Below w.heap.size w wr)) (fun _ _ i _ => 3 - (intOf i).toNat)
  case atStart => exact ⟨0, A1, c1, by omega, rfl, rfl, R, O0, B⟩
  case round =>
    clear R O0 B
    obtain ⟨k, AV, cv, hk, rfl, rfl, R, O, B⟩ := hrel
    by_cases hlt : k < 3
    · have i2 : (k : Int) < 3 := by omega
      have C3k := Lib.hid (fun A c w hr => C3.out k A c w hlt hr)
      have HSN : Hid ((List.range (k + 1)).map (fun j : Nat => ((j + 1 : Nat) : Int)) = (List.range k).map (fun j : Nat => ((j + 1 : Nat) : Int)) ++ [((k + 1 : Nat) : Int)]) := range_snocI _ _
      have htl : ((List.range k).map (fun j : Nat => ((j + 1 : Nat) : Int))).length = k := by simp
      generalize (List.range k).map (fun j : Nat => ((j + 1 : Nat) : Int)) = ts at *
      obtain ⟨n, hn⟩ : ∃ n : Nat, k + 1 = n := ⟨_, rfl⟩
      have HN := Lib.hid hn
      rw [hn] at C3k HSN
      clear hn
      go_wp2_with fail
      refine (C3k.out _ _ _ (RowAt.of_own R.out)).mono ?_
      rintro e w2 ⟨⟨A2, c2, rfl, hr2⟩, hb2⟩
      have O2 := Lib.hid (own_below O.out hb2)
      have B2 := Lib.hid (B.out.trans (hb2.mono B.out.size))
      have R2 := Lib.hid (own_low hr2 B.out.size)
      clear hb2 hr2 R O B C3k
      have R4 : Hid ((w2.alloc (.cells #[.int .i64 (n : Int)] 3)).ownsRow w.heap.size 9 1 (.slice A2 40 c2) 40 ((newV n).map .string)) := World.ownsRow.alloc R2.out _
      have O4 : Hid ((w2.alloc (.cells #[.int .i64 (n : Int)] 3)).ownsRow w.heap.size 3 1 _ ts.length (intsC ts)) := World.ownsRow.alloc O2.out _
      have B4 := Lib.hid (B2.out.alloc B2.out.size (.cells #[.int .i64 (n : Int)] 3))
      have HC : Hid (∀ j u, [Value.int .i64 (n : Int)][j]? = some u → (w2.alloc (.cells #[.int .i64 (n : Int)] 3)).cell? ((⟨w2.heap.size, 0, none⟩ : Addr).add j) = some u) := fun j u hu => by
        cases j with
        | zero => cases hu; exact (Blk.new w2 3 #[.int .i64 (n : Int)]).cell 0 rfl
        | succ j => simp at hu
      have H1 : Hid (∀ u ∈ [Value.int .i64 (n : Int)], u.oneCell' = true) := fun u hu => by simp at hu; subst hu; rfl
      have HM : Hid (ts.length + 1 ≤ maxLen) := by show _ ≤ _; unfold maxLen; omega
      have HY : Hid ((ts.length + 1) * 8 ≤ 140737488355328) := by show _ ≤ _; omega
      have RB : Hid (Below w2.heap.size w2 w2) := Below.refl _ _
      go_wp2_with (at_builtin; refine wpList_append_own _ rfl (.tmp 41) (.tmp 43) 26 rfl w.heap.size 3 i0 (.int .i64 0) 1 8 Try.underlying26 I0.out.1 I0.out.2.1 I0.out.2.2.1 I0.out.2.2.2 rfl (by decide) _ ts.length (intsC ts) rfl O4.out ⟨w2.heap.size, 0, none⟩ 1 1 [.int .i64 (n : Int)] rfl rfl HC.out H1.out HM.out HY.out B4.out.size ?_; intro v9 w9 own hg hv)
      have ON : Hid (w9.ownsRow w.heap.size 3 1 v9 ((List.range (k + 1)).map (fun j : Nat => ((j + 1 : Nat) : Int))).length (intsC ((List.range (k + 1)).map (fun j : Nat => ((j + 1 : Nat) : Int))))) := by
        rw [HN.out, HSN.out, List.length_append, intsC_snoc]; exact own
      have BN := Lib.hid (B4.out.grown hg B4.out.size (fun j e => (O4.out.lt j e).1))
      have RN := Lib.hid (R4.out.kept hg (own_two R4.out O4.out (by decide)))
      clear own hg hv
      go_wp2
      go_roundw
      case rel =>
        rw [← HN.out] at RN
        exact ⟨k + 1, A2, c2, by omega, by go_num, rfl, RN, ON, BN⟩
      case measure => simp [intOf]; omega
    · obtain rfl : k = 3 := by omega
      clear I0 C3
      have O3 : wr.ownsRow w.heap.size 3 1 _ 3 [.int .i64 1, .int .i64 2, .int .i64 3] := O.out
      obtain ⟨bn, cn, rfl⟩ := Go.Joins.ownsRow_form O3 (by omega)
      have HN : Hid (RowAt wr wr.heap.size (some ⟨bn, 0, none⟩) [.int .i64 1, .int .i64 2, .int .i64 3]) := RowAt.of_own O3
      have RV : Hid (RowAt wr wr.heap.size AV ((laidV (l.take 0)).map .string)) := RowAt.of_own R.out
      have BW := Lib.hid B.out
      clear R O B O3
      generalize wr = w3 at *
      rw [show ((3 : Nat) : Int) = 3 from rfl]
      go_wp2
      go_loopw [10, 48] (fun v i wr => ∃ (k : Nat) (AV : Option Addr) (cv : Nat), k ≤ l.length ∧ i = .int .i64 k ∧ v = .slice AV 40 cv ∧ Hid (RowAt wr wr.heap.size AV ((laidV (l.take k)).map .string)) ∧ Hid (Below w3.heap.size w3 wr)) (fun _ i _ => l.length - (intOf i).toNat)
      case atStart => exact ⟨0, AV, cv, Nat.zero_le _, rfl, rfl, RV, Below.refl _ _⟩
      case round =>
        clear RV
        obtain ⟨k, AV, cv, hk, rfl, rfl, RV, B⟩ := hrel
        by_cases hlt : k < l.length
        · obtain ⟨bA, oA, rfl, hbA, hrA⟩ := HA.out.get hlt
          have BWW := Lib.hid (BW.out.trans (B.out.mono BW.out.size))
          have HR : Hid (wr.rangeAt bA (oA + k * 4) [.int .i64 l[k].kind, .int .i64 l[k].num, .int .i64 l[k].off, .string l[k].data]) := fun i u hu => (BWW.out.cell (p := ⟨bA, _, none⟩) hbA).trans (hrA i u hu)
          have HT : Hid (laidV (l.take (k + 1)) = actO (laidV (l.take k)) l[k]) := laidV_take (List.getElem?_eq_getElem hlt)
          have HLV : Hid ((laidV (l.take k)).length = 40) := (laidV_laid _).len
          have HL2 : Hid ((actO (laidV (l.take k)) l[k]).length = 40) := (actO_laid (laidV_laid _) _).len
          obtain ⟨ok, hsz⟩ := HD.out _ (List.getElem_mem hlt)
          obtain ⟨okn, oko⟩ := ok
          generalize l[k] = a at *
          obtain ⟨kd, nm, off, dt⟩ := a
          dsimp only at *
          generalize laidV (l.take k) = V at *
          unfold actO resO at HT HL2
          dsimp only at HT HL2
          obtain ⟨n0, n3⟩ := numI_lt nm
          obtain ⟨q, hq⟩ : ∃ q : Nat, numI nm = q := ⟨(numI nm).toNat, by omega⟩
          have hnf : numF nm = q + 1 := by unfold numF; omega
          rw [hnf] at HT HL2
          have hq3 : q < 3 := by omega
          have tlo : -3 < nm.tmod 3 := Int.lt_tmod_of_pos nm (by decide)
          have thi := Int.tmod_lt_of_pos nm (show (0 : Int) < 3 by decide)
          have e1 : IntKind.i64.wrap (nm.tmod 3) = nm.tmod 3 := IntWalk.i64_in _ (by omega)
          have e2 : IntKind.i64.wrap (nm.tmod 3 + 3) = nm.tmod 3 + 3 := IntWalk.i64_in _ (by omega)
          have e3 : (nm.tmod 3 + 3).tmod 3 = (q : Int) := hq
          have e4 : IntKind.i64.wrap (q : Int) = (q : Int) := IntWalk.i64_in _ (by omega)
          have e5 : (q : Int) < 3 := by omega
          have e6 : (0 : Int) ≤ (q : Int) := by omega
          obtain ⟨nn, hnn⟩ : ∃ nn : Nat, q + 1 = nn := ⟨_, rfl⟩
          rw [hnn] at HT HL2
          have HNC : Hid (∀ W : World, Below w3.heap.size w3 W → W.cell? ⟨bn, q, none⟩ = some (.int .i64 (nn : Int))) := fun W hW => by
            obtain ⟨b, o, he, hb, hc⟩ := HN.out.at_ (by decide)
            cases he
            have key : q = 0 ∨ q = 1 ∨ q = 2 := by omega
            have := hc q (.int .i64 (nn : Int)) (by rcases key with rfl | rfl | rfl <;> subst hnn <;> rfl)
            rw [Nat.zero_add] at this
            exact (hW.cell (p := ⟨bn, q, none⟩) hb).trans this
          have CW := Lib.hid (fun A c w hr => by have := write_any A c V nn off dt w (by rw [HLV.out]; decide) oko hsz hr; rwa [HLV.out] at this)
          have CC := Lib.hid (fun A c w hr => by have := cut_any A c V nn off w (by rw [HLV.out]; decide) hr; rwa [HLV.out] at this)
          have B4 := Lib.hid (B.out.alloc B.out.size (.cells #[.int .i64 kd, .int .i64 nm, .int .i64 off, .string dt] 55))
          have c1 : (wr.alloc (.cells #[.int .i64 kd, .int .i64 nm, .int .i64 off, .string dt] 55)).cell? ⟨bn, q, none⟩ = some (.int .i64 (nn : Int)) := HNC.out _ B4.out
          have GA := Lib.hid (Blk.new wr 55 #[.int .i64 kd, .int .i64 nm, .int .i64 off, .string dt])
          have R4 := Lib.hid ((RV.out.below ((Below.refl _ _).alloc (Nat.le_refl _) (.cells #[.int .i64 kd, .int .i64 nm, .int .i64 off, .string dt] 55))).mono (by simp : wr.heap.size ≤ (wr.alloc (.cells #[.int .i64 kd, .int .i64 nm, .int .i64 off, .string dt] 55)).heap.size))
          have i2 : (k : Int) < (l.length : Int) := by omega
          have i3 : (0 : Int) ≤ (k : Int) := by omega
          clear hq hnf hnn n0 n3 tlo thi hrA HNC RV B
          by_cases hk1 : kd = 1
          · subst hk1
            rw [if_pos rfl] at HT HL2
            go_wp2_with (refine wpList_load_mid rfl 55 (.tmp 50) rfl bA (oA + k * 4) rfl _ _ HR.out Try.underlying55 rfl (by kernel_rfl) ?_; go_frame)
            generalize hga : wr.heap.size = ga at *
            generalize World.alloc _ _ = w4 at *
            clear c1 HR
            refine (CW.out _ _ _ R4.out).mono ?_
            rintro e w5 ⟨⟨v5, rfl, hn5⟩, hb5⟩
            have a0 := (GA.out.below hb5 GA.out.lt).cell 0 rfl
            have a2 := (GA.out.below hb5 GA.out.lt).cell 2 rfl
            have R5 := Lib.hid ((R4.out.below hb5).mono hb5.size)
            have B5 := Lib.hid (B4.out.trans (hb5.mono B4.out.size))
            clear hn5 hb5
            generalize (writeO V nn off dt.data.toList).2 = code5 at *
            go_wp2_with fail
            refine (CC.out _ _ _ R5.out).mono ?_
            rintro e w6 ⟨⟨v6, rfl, hn6⟩, hb6⟩
            have R6 := Lib.hid ((R5.out.below hb6).mono hb6.size)
            have B6 := Lib.hid (B5.out.trans (hb6.mono B5.out.size))
            have N6 := Lib.hid hn6
            clear hn6 hb6 a0 a2 R5 B5 CC CW
            generalize cutO V nn off = r6 at *
            obtain ⟨V6, code6⟩ := r6
            dsimp only at *
            by_cases hc0 : code6 = 0
            · subst hc0
              rw [if_pos rfl] at HT HL2
              obtain ⟨A6, c6, rfl, hr6⟩ := N6.out.read40 HL2.out
              have R7 := Lib.hid hr6
              clear hr6
              go_wp2
              go_roundw
              case rel => exact ⟨k + 1, A6, c6, by omega, by go_num, rfl, by rw [HT.out]; exact R7, B6⟩
              case measure => simp [intOf]; omega
            · have hc1 : (code6 == 0) = false := by simpa using hc0
              have hc2 : ¬ code6 = 0 := hc0
              rw [if_neg hc0] at HT HL2
              go_wp2
              go_roundw
              case rel => exact ⟨k + 1, AV, cv, by omega, by go_num, rfl, by rw [HT.out]; exact R6, B6⟩
              case measure => simp [intOf]; omega
          · have hk2 : (kd == 1) = false := by simpa using hk1
            have hk3 : ¬ kd = 1 := hk1
            rw [if_neg hk1] at HT HL2
            go_wp2_with (refine wpList_load_mid rfl 55 (.tmp 50) rfl bA (oA + k * 4) rfl _ _ HR.out Try.underlying55 rfl (by kernel_rfl) ?_; go_frame)
            generalize hga : wr.heap.size = ga at *
            generalize World.alloc _ _ = w4 at *
            clear c1 HR
            refine (CW.out _ _ _ R4.out).mono ?_
            rintro e w5 ⟨⟨v5, rfl, hn5⟩, hb5⟩
            have a0 := (GA.out.below hb5 GA.out.lt).cell 0 rfl
            have R6 := Lib.hid ((R4.out.below hb5).mono hb5.size)
            have B6 := Lib.hid (B4.out.trans (hb5.mono B4.out.size))
            have N6 := Lib.hid hn5
            clear hn5 hb5 CC CW
            generalize writeO V nn off dt.data.toList = r6 at *
            obtain ⟨V6, code6⟩ := r6
            dsimp only at *
            by_cases hc0 : code6 = 0
            · subst hc0
              rw [if_pos rfl] at HT HL2
              obtain ⟨A6, c6, rfl, hr6⟩ := N6.out.read40 HL2.out
              have R7 := Lib.hid hr6
              clear hr6
              go_wp2
              go_roundw
              case rel => exact ⟨k + 1, A6, c6, by omega, by go_num, rfl, by rw [HT.out]; exact R7, B6⟩
              case measure => simp [intOf]; omega
            · have hc1 : (code6 == 0) = false := by simpa using hc0
              have hc2 : ¬ code6 = 0 := hc0
              rw [if_neg hc0] at HT HL2
              go_wp2
              go_roundw
              case rel => exact ⟨k + 1, AV, cv, by omega, by go_num, rfl, by rw [HT.out]; exact R6, B6⟩
              case measure => simp [intOf]; omega
        · obtain rfl : k = l.length := by omega
          rw [List.take_length] at RV
          go_wp2
          go_ret2
          exact ⟨⟨_, _, _, _, rfl, RV.out, (HN.out.below B.out).mono B.out.size⟩, BW.out.trans (B.out.mono BW.out.size)⟩
end Go.Proofs.Ytjmafegckfijbaa
