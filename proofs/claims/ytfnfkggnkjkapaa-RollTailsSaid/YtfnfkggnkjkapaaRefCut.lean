/-
  What the document's Cut computes: the same chunks.
-/
import Derived.Test.YtfnfkggnkjkapaaCut
namespace Go.Proofs.Ytfnfkggnkjkapaa
open Go.RowKit
set_option linter.unusedVariables false
set_option linter.unusedSimpArgs false

theorem win_ext (d : ByteArray) (W A n : Nat) (hW : W ≤ n) : P.sm (d.extract (A + n - W) (A + n)).data.toList = P.win W (d.data.toList.drop A) n := by
  unfold P.win
  rw [Lib.extract_data, List.drop_take, List.drop_drop]
  congr 2
  · omega
  · congr 1; omega

/-- the length of the next chunk, as the document finds it -/
theorem endN_doc {W m M : Nat} {mask : Int} {l : List UInt8} {n : Nat} (h1 : 1 ≤ m) (hmM : m ≤ M) (hn : m ≤ n) (hM : n ≤ M) (hno : ∀ j, m ≤ j → j < n → j < l.length ∧ (bits .and .u32 (P.win W l j) mask == mask) = false)
    (hend : l.length ≤ n ∨ n = M ∨ (bits .and .u32 (P.win W l n) mask == mask) = true) : P.endN W m M mask l = min n l.length := by
  have hf : ∀ j, j + 1 < n → P.hitB W m mask l (j + 1) = false := fun j hj => by
    by_cases hm : m ≤ j + 1
    · exact hit_false (.inr (hno (j + 1) hm hj).2)
    · exact hit_false (.inl hm)
  by_cases hl : l.length ≤ n
  · by_cases hl2 : l.length = n ∧ (bits .and .u32 (P.win W l n) mask == mask) = true
    · obtain ⟨e, hb⟩ := hl2
      obtain ⟨k, rfl⟩ : ∃ k, n = k + 1 := ⟨n - 1, by omega⟩
      rw [P.endN_hit (k := k) (by omega) (fun j hj => hf j (by omega)) (hit_true (by omega) hb)]; omega
    · rw [P.endN_none]
      · omega
      · intro j hj
        by_cases hj2 : j + 1 < n
        · exact hf j hj2
        · have : j + 1 = n := by omega
          rw [this]
          refine this ▸ hit_false (.inr ?_)
          rw [this]
          cases hx : (bits .and .u32 (P.win W l n) mask == mask) with
          | false => rfl
          | true => exact absurd ⟨by omega, hx⟩ hl2
  · by_cases hb : (bits .and .u32 (P.win W l n) mask == mask) = true
    · obtain ⟨k, rfl⟩ : ∃ k, n = k + 1 := ⟨n - 1, by omega⟩
      rw [P.endN_hit (k := k) (by omega) (fun j hj => hf j (by omega)) (hit_true (by omega) hb)]; omega
    · have hnM : n = M := by rcases hend with h | h | h <;> first | omega | exact absurd h hb
      rw [P.endN_none]
      · omega
      · intro j hj
        by_cases hj2 : j + 1 < n
        · exact hf j hj2
        · have : j + 1 = n := by omega
          refine hit_false (.inr ?_)
          rw [this]; simpa using hb

theorem refsum_eq (s : ByteArray) (w : World) (z : Int) (hz : P.sm s.data.toList = z) (hs : s.size ≤ 9223372036854775807) : Calls Try.prog 16 #[.string s] w fun e w' => e = .returned (.int .u32 z) ∧ w = w' := by
  subst hz; exact refsum_any s w hs
theorem own_drewN {w : World} {base : Nat} {e : TypeId} {size : Nat} {v : Value} {n : Nat} {xs : List Value} (h : w.ownsRow base e size v n xs) (k : Nat) : (w.drewN k).ownsRow base e size v n xs := h

/-- the document's round: one chunk more -/
theorem refcut_step {W m M : Nat} {mask : Int} {d : ByteArray} {w w3 : World} {A N B : Nat} {done : List ByteArray} {v a : Value} {G : Prop} (hx : A < d.size) (hdA : done.length ≤ A) (hN : 1 ≤ N ∧ A + N ≤ d.size ∧ B = A + N)
    (ha : a = .int .i64 ((A + N : Nat) : Int)) (own : w3.ownsRow w.heap.size 9 1 v (done.length + 1) (done.map .string ++ [.string (d.extract A B)])) (g : G) (bl : Hid (Below w.heap.size w w3))
    (rel : ∀ rest, P.Cuts W m M mask (d.data.toList.drop A) rest → P.Cuts W m M mask d.data.toList (done.map (fun x => x.data.toList) ++ rest)) (he : P.endN W m M mask (d.data.toList.drop A) = N) :
    ∃ (A : Nat) (done : List ByteArray), a = .int .i64 A ∧ Hid (w3.ownsRow w.heap.size 9 1 v done.length (done.map .string)) ∧ done.length ≤ A ∧ A ≤ d.size ∧ G ∧ Hid (Below w.heap.size w w3) ∧
      Hid (∀ rest, P.Cuts W m M mask (d.data.toList.drop A) rest → P.Cuts W m M mask d.data.toList (done.map (fun x => x.data.toList) ++ rest)) := by
  obtain ⟨hN1, hN2, rfl⟩ := hN
  refine ⟨A + N, done ++ [d.extract A (A + N)], ha, ?_, by simp; omega, hN2, g, bl, ?_⟩
  · simp only [List.length_append, List.length_cons, List.length_nil, List.map_append, List.map_cons, List.map_nil, Nat.zero_add]; exact own
  · intro rest hr
    have hne : d.data.toList.drop A ≠ [] := by
      intro h
      have : (d.data.toList.drop A).length = 0 := by rw [h]; rfl
      simp at this; omega
    have := rel _ (P.Cuts.cons hne (by rw [he, List.drop_drop]; exact hr))
    rw [he] at this
    simpa [Lib.extract_data] using this

set_option maxHeartbeats 400000 in
theorem refcut_no (d : ByteArray) (W m M mask : Int) (w : World) (h : ¬ (1 ≤ W ∧ W ≤ 64 ∧ W ≤ m ∧ m ≤ M ∧ M ≤ 65536)) :
    Calls Try.prog 11 #[.string d, cutsV W m M mask] w (CutNo w) := by
  have HC := Lib.hid (chk_no h)
  clear h
  go_enter Try.func11, Try.ntmps11
  go_wp2_with fail
  refine (refcheck_any W m M mask _).mono ?_
  rintro e w' ⟨rfl, hb⟩
  rw [HC.out]
  go_wp2
  go_ret2
  exact ⟨rfl, (((Below.refl _ _).alloc (Nat.le_refl _) _).trans (hb.mono (by simp)))⟩

set_option maxHeartbeats 2000000 in
theorem refcut_ok (d : ByteArray) (W m M : Nat) (mask : Int) (w : World) (hs : d.size ≤ 100000) (h1 : 1 ≤ W) (hW : W ≤ 64) (hm : W ≤ m) (hM : m ≤ M) (hMM : M ≤ 65536) :
    Calls Try.prog 11 #[.string d, cutsV W m M mask] w (CutOk W m M mask d w) := by
  have HC := Lib.hid (chk_ok (W := (W : Int)) (m := (m : Int)) (M := (M : Int)) ⟨by omega, by omega, by omega, by omega, by omega⟩)
  obtain ⟨i0, hi, hz0, hz1, hz2⟩ := info_parts str_info
  go_enter Try.func11, Try.ntmps11
  go_wp2_with fail
  refine (refcheck_any W m M mask _).mono ?_
  rintro e w' ⟨rfl, hb⟩
  rw [HC.out]
  have g0 := (Blk.new w 24 #[.int .i64 W, .int .i64 m, .int .i64 M, .int .u32 mask]).below hb (by simp)
  have HG0 := Lib.hid g0
  have HB := Lib.hid (((Below.refl _ _).alloc (Nat.le_refl _) _).trans (hb.mono (by simp)) : Below w.heap.size w w')
  have hsz := HB.out.size
  clear g0 hb
  go_wp2
  go_loopw [6, 7] (fun v a wr => ∃ (A : Nat) (done : List ByteArray), a = .int .i64 A ∧ Hid (wr.ownsRow w.heap.size 9 1 v done.length (done.map .string)) ∧ done.length ≤ A ∧ A ≤ d.size ∧
      Hid (Blk wr w.heap.size 24 #[.int .i64 W, .int .i64 m, .int .i64 M, .int .u32 mask]) ∧ Hid (Below w.heap.size w wr) ∧
      Hid (∀ rest, P.Cuts W m M mask (d.data.toList.drop A) rest → P.Cuts W m M mask d.data.toList (done.map (fun x => x.data.toList) ++ rest)))
      (fun _ a _ => d.size - (intOf a).toNat)
  case atStart =>
    refine ⟨0, [], rfl, ⟨by simp, .inr ⟨w'.heap.size, 0, #[], rfl, hsz, heap_alloc_new w' _, Nat.le_refl _, by unfold maxLen; omega, rfl, rfl⟩⟩, Nat.zero_le _, Nat.zero_le _, HG0.out.alloc _, HB.out.alloc hsz _, fun rest h => by simpa using h⟩
  case round =>
    obtain ⟨A, done, rfl, OWN, hdA, hAd, G0, GB, REL⟩ := hrel
    clear HG0 HB
    by_cases hx : A < d.size
    · have q : ∀ i v, #[Value.int .i64 W, .int .i64 m, .int .i64 M, .int .u32 mask][i]? = some v → wr.cell? ⟨w.heap.size, i, none⟩ = some v := fun i v h => G0.out.cell i h
      have q1 : wr.cell? ⟨w.heap.size, 1, none⟩ = some (.int .i64 m) := q 1 _ rfl
      clear q
      obtain ⟨wo, rfl⟩ : ∃ wo : World, wo = wr := ⟨_, rfl⟩
      go_wp2
      go_loopw [8] (fun n wr => ∃ n' : Nat, n = .int .i64 n' ∧ m ≤ n' ∧ n' ≤ M ∧ Hid (∀ j, m ≤ j → j < n' → j < (d.data.toList.drop A).length ∧ (bits .and .u32 (P.win W (d.data.toList.drop A) j) mask == mask) = false) ∧
          ∃ q, wr = wo.drewN q) (fun n _ => M - (intOf n).toNat)
      case atStart => exact ⟨m, rfl, Nat.le_refl _, hM, fun j h1 h2 => by omega, 0, rfl⟩
      case round =>
        obtain ⟨n, rfl, hn1, hn2, HNO, q, rfl⟩ := hrel
        have q : ∀ i v, #[Value.int .i64 W, .int .i64 m, .int .i64 M, .int .u32 mask][i]? = some v → (wo.drewN q).cell? ⟨w.heap.size, i, none⟩ = some v := fun i v h => G0.out.cell i h
        have p0 : wo.cell? ⟨w.heap.size, 0, none⟩ = some (.int .i64 W) := q 0 _ rfl
        have p2 : wo.cell? ⟨w.heap.size, 2, none⟩ = some (.int .i64 M) := q 2 _ rfl
        have p3 : wo.cell? ⟨w.heap.size, 3, none⟩ = some (.int .u32 mask) := q 3 _ rfl
        clear q
        have hwe := win_ext d W A n (by omega)
        generalize hS : P.sm (d.extract (A + n - W) (A + n)).data.toList = S at hwe
        have HW := Lib.hid hwe
        have HSS := Lib.hid hS
        clear hwe hS
        have e1 : IntKind.i64.wrap ((A : Int) + (n : Int)) = (A : Int) + (n : Int) := IntWalk.i64_in _ (by omega)
        have e2 : IntKind.i64.wrap ((A : Int) + (n : Int) - (W : Int)) = (A : Int) + (n : Int) - (W : Int) := IntWalk.i64_in _ (by omega)
        have e3 : ((A : Int) + (n : Int)).toNat = A + n := by omega
        have e4 : ((A : Int) + (n : Int) - (W : Int)).toNat = A + n - W := by omega
        have e5 : (0 : Int) ≤ (A : Int) + (n : Int) - (W : Int) := by omega
        have hdl : (d.data.toList.drop A).length = d.size - A := by simp
        by_cases hcont : (A : Int) + (n : Int) < (d.size : Int) ∧ n < M ∧ (bits .and .u32 S mask == mask) = false
        · obtain ⟨c1, c2, c3⟩ := hcont
          have c1' : ((A : Int) + (n : Int)) ≤ (d.size : Int) := by omega
          have c3' : (bits .and .u32 S mask != mask) = true := by simpa using c3
          have HC3 := Lib.hid c3
          have HDL := Lib.hid hdl
          clear c3 hdl
          go_wp2
          go_quiet ((go_at_call 16; exact quiet_add_left (refsum_eq _ _ S HSS.out (by simp [ByteArray.size_extract]; omega))))
          go_wp2
          go_roundw
          case rel => exact ⟨n + 1, by go_num, by omega, by omega, fun j h1 h2 => by
            rcases Nat.lt_succ_iff_lt_or_eq.1 h2 with h | rfl
            · exact HNO.out j h1 h
            · exact ⟨by rw [HDL.out]; omega, by rw [← HW.out]; exact HC3.out⟩, _, rfl⟩
          case measure => simp [intOf]; omega
        · have hend : (d.data.toList.drop A).length ≤ n ∨ n = M ∨ (bits .and .u32 (P.win W (d.data.toList.drop A) n) mask == mask) = true := by
            rw [hdl, ← HW.out]
            by_cases c1 : (A : Int) + (n : Int) < (d.size : Int)
            · by_cases c2 : n < M
              · right; right
                cases hx : (bits .and .u32 S mask == mask) with
                | true => rfl
                | false => exact absurd ⟨c1, c2, hx⟩ hcont
              · right; left; omega
            · left; omega
          have HE := Lib.hid (endN_doc (by omega) hM hn1 hn2 HNO.out hend)
          rw [hdl] at HE
          have hways : ((A : Int) + (n : Int) < (d.size : Int) ∧ n < M ∧ (bits .and .u32 S mask == mask) = true) ∨
              ((A : Int) + (n : Int) < (d.size : Int) ∧ ¬ n < M) ∨ (¬ (A : Int) + (n : Int) < (d.size : Int) ∧ ¬ (d.size : Int) < (A : Int) + (n : Int)) ∨ ((d.size : Int) < (A : Int) + (n : Int)) := by
            by_cases c1 : (A : Int) + (n : Int) < (d.size : Int)
            · by_cases c2 : n < M
              · left
                cases hx : (bits .and .u32 S mask == mask) with
                | true => exact ⟨c1, c2, rfl⟩
                | false => exact absurd ⟨c1, c2, hx⟩ hcont
              · right; left; exact ⟨c1, c2⟩
            · by_cases c4 : (d.size : Int) < (A : Int) + (n : Int)
              · right; right; right; exact c4
              · right; right; left; exact ⟨c1, c4⟩
          clear hcont hend hdl
          have hwz := GB.out.size
          rcases hways with ⟨c1, c2, c3⟩ | ⟨c1, c2⟩ | ⟨c1, c4⟩ | c4
          · have c1' : ((A : Int) + (n : Int)) ≤ (d.size : Int) := by omega
            have c3' : (bits .and .u32 S mask != mask) = false := by simpa using c3
            clear c3
            go_wp2
            go_quiet ((go_at_call 16; exact quiet_add_left (refsum_eq _ _ S HSS.out (by simp [ByteArray.size_extract]; omega))))
            go_wp2_with (first | (at_builtin; refine wpList_append_own _ rfl (.tmp 63) (.tmp 70) 26 rfl w.heap.size 9 i0 (.string ⟨#[]⟩) 1 16 Try.underlying26 hi hz0 hz1 hz2 rfl (by decide) _ done.length (done.map .string) rfl ((own_drewN OWN.out _).alloc _) ⟨wo.heap.size, 0, none⟩ 1 1 [.string (d.extract A (A + n))] rfl rfl ?c1 ?c2 ?c3 ?c4 ?c5 ?_))
            case c1 => exact cell_one_new _ _ _
            case c2 => intro u hu; simp at hu; subst hu; rfl
            case c3 => unfold maxLen; omega
            case c4 => omega
            case c5 => simp; omega
            intro v' w3 hown' hgrow _
            have g3 := Lib.hid (((G0.out.drewN _).alloc _).grown hgrow (own_ne OWN.out G0.out (by decide)))
            have b3 := Lib.hid (((below_drewN GB.out _).alloc hwz _).grown hgrow (by simp; omega) (own_row OWN.out))
            have own3 := Lib.hid hown'
            clear hown' hgrow
            go_wp2
            go_roundw
            case rel => exact refcut_step (N := n) hx hdA (by omega) (by go_num) own3.out g3 b3 REL.out (by rw [HE.out]; omega)
            case measure => simp [intOf]; omega
          · have c2' : decide (n < M) = false := by simpa using c2
            go_wp2
            go_quiet (fail)
            go_wp2_with (first | (at_builtin; refine wpList_append_own _ rfl (.tmp 63) (.tmp 70) 26 rfl w.heap.size 9 i0 (.string ⟨#[]⟩) 1 16 Try.underlying26 hi hz0 hz1 hz2 rfl (by decide) _ done.length (done.map .string) rfl ((own_drewN OWN.out _).alloc _) ⟨wo.heap.size, 0, none⟩ 1 1 [.string (d.extract A (A + n))] rfl rfl ?c1 ?c2 ?c3 ?c4 ?c5 ?_))
            case c1 => exact cell_one_new _ _ _
            case c2 => intro u hu; simp at hu; subst hu; rfl
            case c3 => unfold maxLen; omega
            case c4 => omega
            case c5 => simp; omega
            intro v' w3 hown' hgrow _
            have g3 := Lib.hid (((G0.out.drewN _).alloc _).grown hgrow (own_ne OWN.out G0.out (by decide)))
            have b3 := Lib.hid (((below_drewN GB.out _).alloc hwz _).grown hgrow (by simp; omega) (own_row OWN.out))
            have own3 := Lib.hid hown'
            clear hown' hgrow
            go_wp2
            go_roundw
            case rel => exact refcut_step (N := n) hx hdA (by omega) (by go_num) own3.out g3 b3 REL.out (by rw [HE.out]; omega)
            case measure => simp [intOf]; omega
          · have c1' : decide ((A : Int) + (n : Int) < (d.size : Int)) = false := by simpa using c1
            go_wp2
            go_quiet (fail)
            go_wp2_with (first | (at_builtin; refine wpList_append_own _ rfl (.tmp 63) (.tmp 70) 26 rfl w.heap.size 9 i0 (.string ⟨#[]⟩) 1 16 Try.underlying26 hi hz0 hz1 hz2 rfl (by decide) _ done.length (done.map .string) rfl ((own_drewN OWN.out _).alloc _) ⟨wo.heap.size, 0, none⟩ 1 1 [.string (d.extract A (A + n))] rfl rfl ?c1 ?c2 ?c3 ?c4 ?c5 ?_))
            case c1 => exact cell_one_new _ _ _
            case c2 => intro u hu; simp at hu; subst hu; rfl
            case c3 => unfold maxLen; omega
            case c4 => omega
            case c5 => simp; omega
            intro v' w3 hown' hgrow _
            have g3 := Lib.hid (((G0.out.drewN _).alloc _).grown hgrow (own_ne OWN.out G0.out (by decide)))
            have b3 := Lib.hid (((below_drewN GB.out _).alloc hwz _).grown hgrow (by simp; omega) (own_row OWN.out))
            have own3 := Lib.hid hown'
            clear hown' hgrow
            go_wp2
            go_roundw
            case rel => exact refcut_step (N := n) hx hdA (by omega) (by go_num) own3.out g3 b3 REL.out (by rw [HE.out]; omega)
            case measure => simp [intOf]; omega
          · have c1' : decide ((A : Int) + (n : Int) < (d.size : Int)) = false := by simp; omega
            have e6 : (A : Int) + ((d.size : Int) - (A : Int)) = (d.size : Int) := by omega
            go_wp2
            go_quiet (fail)
            go_wp2_with (first | (at_builtin; refine wpList_append_own _ rfl (.tmp 63) (.tmp 70) 26 rfl w.heap.size 9 i0 (.string ⟨#[]⟩) 1 16 Try.underlying26 hi hz0 hz1 hz2 rfl (by decide) _ done.length (done.map .string) rfl ((own_drewN OWN.out _).alloc _) ⟨wo.heap.size, 0, none⟩ 1 1 [.string (d.extract A d.size)] rfl rfl ?c1 ?c2 ?c3 ?c4 ?c5 ?_))
            case c1 => exact cell_one_new _ _ _
            case c2 => intro u hu; simp at hu; subst hu; rfl
            case c3 => unfold maxLen; omega
            case c4 => omega
            case c5 => simp; omega
            intro v' w3 hown' hgrow _
            have g3 := Lib.hid (((G0.out.drewN _).alloc _).grown hgrow (own_ne OWN.out G0.out (by decide)))
            have b3 := Lib.hid (((below_drewN GB.out _).alloc hwz _).grown hgrow (by simp; omega) (own_row OWN.out))
            have own3 := Lib.hid hown'
            clear hown' hgrow
            go_wp2
            go_roundw
            case rel => exact refcut_step (N := (d.size - A)) hx hdA (by omega) (by go_num) own3.out g3 b3 REL.out (by rw [HE.out]; omega)
            case measure => simp [intOf]; omega
    · have hA : A = d.size := by omega
      have HX := Lib.hid (List.drop_of_length_le (by simp; omega) : d.data.toList.drop A = [])
      clear hA
      go_wp2
      go_ret2
      exact ⟨_, done, rfl, OWN.out, GB.out, by have := REL.out [] (by rw [HX.out]; exact .nil); simpa using this⟩
end Go.Proofs.Ytfnfkggnkjkapaa
