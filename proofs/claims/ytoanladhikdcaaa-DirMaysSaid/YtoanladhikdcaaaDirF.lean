/-
  Package dir: Add.
-/
import Derived.Test.YtoanladhikdcaaaDirE
import Derived.Test.YtoanladhikdcaaaExtW
import Derived.Laws.AppendOwnNone
namespace Go.Proofs.Ytoanladhikdcaaa
open Go.RowKit
set_option linter.unusedVariables false
set_option linter.unusedSimpArgs false
set_option maxRecDepth 100000
theorem OwnEnts.form {l : List EntV} {w w' : World} {v : Value} (h : OwnEnts l w v w') : v = .slice none 0 0 ∧ l = [] ∨ ∃ g c, v = .slice (some ⟨g, 0, none⟩) l.length c ∧ l.length ≤ c ∧ c ≤ maxLen ∧ w.heap.size ≤ g ∧ g < w'.heap.size ∧ ∀ j u, (entC l)[j]? = some u → w'.cell? ⟨g, j, none⟩ = some u := by
  have h2 := h
  obtain ⟨h1, h3⟩ := h2
  rcases h3 with ⟨hv, hn⟩ | ⟨g, cap, cur, hv, hg, hh, hnc, hm, hsz, ht⟩
  · exact .inl ⟨hv, List.eq_nil_of_length_eq_zero hn⟩
  · subst hv
    refine .inr ⟨g, cap, rfl, hnc, hm, hg, ?_, fun j u hu => ?_⟩
    · rcases Nat.lt_or_ge g w'.heap.size with hlt | hge
      · exact hlt
      · rw [Array.getElem?_eq_none hge] at hh; cases hh
    · have : cur[j]? = some u := by
        rw [← ht, List.getElem?_take] at hu
        split at hu
        · simpa using hu
        · cases hu
      simp [World.cell?, hh, this]
theorem one_ent (w : World) (nm : ByteArray) (ino : Int) : ∀ j u, [Value.string nm, Value.int .i64 ino][j]? = some u → (w.alloc (.cells #[.string nm, .int .i64 ino] 35)).cell? ((⟨w.heap.size, 0, none⟩ : Addr).add j) = some u := fun j u hu => by
  have hB := Blk.new w 35 #[.string nm, .int .i64 ino]
  rw [add_zero_addr, Nat.zero_add]
  exact hB.cell j (by simpa using hu)
theorem row_drop {w w' : World} {g k : Nat} {l : List EntV} (hb : Below w.heap.size w w') (hg : g < w.heap.size) (h : ∀ j u, (entC l)[j]? = some u → w.cell? ⟨g, j, none⟩ = some u) {j : Nat} {u : Value} (hu : (entC (l.drop k))[j]? = some u) :
    w'.cell? ((⟨g, k * 2, none⟩ : Addr).add j) = some u := by
  rw [Addr.add_mid]
  refine (hb.cell (p := ⟨g, k * 2 + j, none⟩) hg).trans (h _ _ ?_)
  rw [← entC_drop, List.getElem?_drop] at hu
  exact hu
theorem row_past {w : World} {g k : Nat} {l : List EntV} (h : l.length ≤ k) {j : Nat} {u : Value} (hu : (entC (l.drop k))[j]? = some u) : w.cell? ((⟨g, 0, none⟩ : Addr).add j) = some u := by
  rw [List.drop_eq_nil_of_le h] at hu
  simp [entC] at hu
theorem add_row {w : World} {base k : Nat} {v : Value} {l L2 : List EntV} {nm : ByteArray} {ino : Int} (h : w.ownsRow base 35 2 v (0 + k + 1 + (l.length - k)) ([] ++ entC (l.take k) ++ [.string nm, .int .i64 ino] ++ entC (l.drop k))) (hk : k ≤ l.length)
    (he : entC (l.take k) ++ [Value.string nm, Value.int .i64 ino] ++ entC (l.drop k) = entC L2) : w.ownsRow base 35 2 v (l.length + 1) (entC L2) := by
  rw [List.nil_append, he, show 0 + k + 1 + (l.length - k) = l.length + 1 by omega] at h
  exact h
set_option maxHeartbeats 8000000 in
theorem add_main (A : Option Addr) (c : Nat) (xs : List ByteArray) (n : Int) (nm : ByteArray) (ino : Int) (w : World) (hx : xs.length ≤ 1000000) (hs : nm.size ≤ 140737488355328) (h : RowAt w w.heap.size A (xs.map .string))
    (hm : mayB nm.data.toList = true) (hi1 : 1 ≤ ino) (hi2 : ino ≤ 64) (h0 : (listO xs n).2 = 0) (hh : hasE (listO xs n).1 nm = false) :
    Calls Try.prog 13 #[.slice A xs.length c, .int .i64 n, .string nm, .int .i64 ino] w (RowCode (addO xs n nm ino).1 (addO xs n nm ino).2 w) := by
  have CM := Lib.hid (may_any nm w hs)
  have CL := Lib.hid (fun w h => list_any A c xs n w hx h)
  have HR := Lib.hid h
  have HV := Lib.hid (listO_valid (xs := xs) (n := n))
  have HN := Lib.hid (listO_len (xs := xs) (n := n))
  have ha : addO xs n nm ino = writeO xs n 0 (bytesE (insE (listO xs n).1 ⟨nm, ino⟩)) := by
    unfold addO
    rw [if_neg (by rw [hm]; simp), if_neg (by omega), if_neg (by rw [h0]; simp), if_neg (by rw [hh]; simp)]
  rw [ha]
  clear ha
  rw [hm] at CM
  generalize listO xs n = lo at *
  obtain ⟨l, le⟩ := lo
  dsimp only at HV HN h0 hh ⊢
  subst h0
  have CS := Lib.hid (fun A c w h => search_any A c l nm w HN.out HV.out.rise h)
  rw [hh] at CS
  have HVI := Lib.hid (insE_valid (x := ⟨nm, ino⟩) HV.out (by unfold okE; dsimp only; rw [hm, Bool.true_and, decide_eq_true_iff]; exact ⟨hi1, hi2⟩) hh)
  have hlen := insE_len l ⟨nm, ino⟩
  have hb := bytesE_len HVI.out.ok
  rw [hlen] at hb
  have CB := Lib.hid (fun A c w h => bytes_any A c (insE l ⟨nm, ino⟩) w (by rw [hlen]; have := HN.out; omega) (fun x hx => by have := okE_ok (HVI.out.ok x hx); omega) h)
  have CW := Lib.hid (fun w h => write_any A c xs n 0 ⟨(bytesE (insE l ⟨nm, ino⟩)).toArray⟩ w hx (by omega) (by show (bytesE (insE l ⟨nm, ino⟩)).toArray.size ≤ _; rw [List.size_toArray, hb]; have := HN.out; omega) h)
  rw [hlen] at CB
  dsimp only at CW
  unfold RowCode at CW
  have hat := atE_le l nm
  have HIE : Hid (entC (l.take (atE l nm)) ++ [Value.string nm, Value.int .i64 ino] ++ entC (l.drop (atE l nm)) = entC (insE l ⟨nm, ino⟩)) := by
    show _ = _
    unfold insE
    rw [entC_app, List.append_assoc]
    rfl
  generalize writeO xs n 0 (bytesE (insE l ⟨nm, ino⟩)) = wo at *
  generalize insE l ⟨nm, ino⟩ = L2 at *
  generalize (⟨(bytesE L2).toArray⟩ : ByteArray) = bt at *
  generalize atE l nm = k at *
  obtain ⟨ys, ye⟩ := wo
  dsimp only at CW ⊢
  unfold ListPost at CL
  dsimp only at CL
  obtain ⟨i0, q1, q2, q3, q4⟩ := info_parts ent_info
  have I0 := Lib.hid (And.intro q1 (And.intro q2 (And.intro q3 q4)))
  have HL2 := Lib.hid hlen
  have o1 : ¬ ino < 1 := by omega
  have o2 : ¬ (64 : Int) < ino := by omega
  have o3 : decide (ino < 1) = false := decide_eq_false o1
  clear q1 q2 q3 q4 h hm hh hlen hb HVI
  go_enter Try.func13, Try.ntmps13
  go_wp2_with fail
  refine CM.out.mono ?_
  rintro e w1 ⟨rfl, hb1⟩
  have B1 := Lib.hid hb1
  clear hb1 CM
  go_wp2_with fail
  refine (CL.out _ ((HR.out.below B1.out).mono B1.out.size)).mono ?_
  rintro e w2 ⟨⟨v, rfl, hv⟩, hb2⟩
  have B2 := Lib.hid (B1.out.trans (hb2.mono B1.out.size))
  obtain ⟨A2, c2, hA2, hr2⟩ := OwnEnts.read2 hv
  have HF := Lib.hid (hA2 ▸ hv.form)
  have R2 := Lib.hid hr2
  subst hA2
  clear hb2 hv hr2 CL
  go_wp2_with fail
  refine (CS.out _ _ _ R2.out).mono ?_
  rintro e w3 ⟨rfl, hb3⟩
  have B3 := Lib.hid (B2.out.trans (hb3.mono B2.out.size))
  have R3 := Lib.hid ((R2.out.below hb3).mono hb3.size)
  have G0 := Lib.hid (Below.refl w3.heap.size w3)
  have H17 : Hid (∀ u ∈ [Value.string nm, Value.int .i64 ino], u.oneCell' = true) := fun u hu => by
    rcases List.mem_cons.1 hu with rfl | hu
    · rfl
    · rcases List.mem_cons.1 hu with rfl | hu
      · rfl
      · cases hu
  have HN280 := HN.out
  rcases HF.out with ⟨hv, hl⟩ | ⟨g, cc, hv, hc1, hc2, hg1, hg2, hcells⟩
  · injection hv with e1 e2 e3
    subst e1
    subst e3
    subst hl
    obtain rfl : k = 0 := by simpa using hat
    have HL1 : Hid (L2.length = 1) := HL2.out
    have CB1 : Hid (∀ A c w, EntsAt w w.heap.size A L2 → Calls Try.prog 31 #[.slice A 1 c] w fun e w' => e = .returned (.string bt) ∧ Below w.heap.size w w') := CB.out
    have HIE1 : Hid ([] ++ [Value.string nm, Value.int .i64 ino] = entC L2) := by
      show _ = _
      have := HIE.out
      simpa [entC] using this
    have G5 := Lib.hid (G0.out.alloc G0.out.size (.cells #[.string nm, .int .i64 ino] 35))
    have HC5 := Lib.hid (one_ent w3 nm ino)
    clear hb3 CS R2 HF e2 CB HIE HL2
    go_wp2_with (first
      | (at_builtin; refine wpList_append_own_none rfl (.const (.slice none 0 0)) (.tmp 42) 31 rfl w3.heap.size 35 i0 2 Try.underlying31 I0.out.1 _ 0 [] rfl (World.ownsRow_nil _ _ _ _) rfl ?_)
      | (at_builtin; refine wpList_append_own _ rfl (.tmp 44) (.tmp 48) 31 rfl w3.heap.size 35 i0 (.agg #[.string ⟨#[]⟩, .int .i64 0]) 2 24 Try.underlying31 I0.out.1 I0.out.2.1 I0.out.2.2.1 I0.out.2.2.2 rfl (by decide) _ 0 [] rfl (World.ownsRow_nil _ _ _ _) ⟨w3.heap.size, 0, none⟩ 1 1 [.string nm, .int .i64 ino] rfl rfl HC5.out H17.out (by unfold maxLen; omega) (by omega) G5.out.size ?_; intro v6 w6 own hg hv6; have G8 := Lib.hid (G5.out.grown hg G5.out.size (fun j e => by cases e)); have O9 : Hid (w6.ownsRow w3.heap.size 35 2 v6 1 (entC L2)) := HIE1.out ▸ own; clear own hg hv6 HC5 G5)
      | (at_builtin; refine wpList_append_own_none rfl (.tmp 52) (.tmp 55) 31 rfl w3.heap.size 35 i0 2 Try.underlying31 I0.out.1 _ 1 (entC L2) rfl O9.out rfl ?_; obtain ⟨A8, c8, hv8, hr8⟩ := own_ents O9.out HL1.out; subst hv8; have R8 := Lib.hid hr8; clear hr8)
      | (go_at_call 31; refine (CB1.out _ _ _ R8.out).mono ?_; rintro e w9 ⟨rfl, hb9⟩; have B9 := Lib.hid (B3.out.trans ((G8.out.trans (hb9.mono G8.out.size)).mono B3.out.size)); clear hb9)
      | (go_at_call 30; refine (CW.out _ ((HR.out.below B9.out).mono B9.out.size)).mono ?_; rintro e w10 ⟨⟨v, rfl, hv⟩, hb10⟩; have O10 := Lib.hid (own_low hv B9.out.size); have B10 := Lib.hid (B9.out.trans (hb10.mono B9.out.size)); clear hv hb10))
    go_ret2
    exact ⟨⟨_, rfl, O10.out⟩, B10.out⟩
  · injection hv with e1 e2 e3
    subst e1
    subst e3
    have HC3 : Hid (∀ j u, (entC l)[j]? = some u → w3.cell? ⟨g, j, none⟩ = some u) := fun j u hu => (hb3.cell (p := ⟨g, j, none⟩) hg2).trans (hcells j u hu)
    have HG3 : Hid (g < w3.heap.size) := Nat.lt_of_lt_of_le hg2 hb3.size
    have k1 : (k : Int) ≤ (c2 : Int) := by omega
    have k2 : (0 : Int) ≤ (k : Int) := by omega
    have k3 : (k : Int) ≤ (l.length : Int) := by omega
    have hT : ∀ j u, (entC (l.take k))[j]? = some u → w3.cell? ((⟨g, 0, none⟩ : Addr).add j) = some u := fun j u hu => by
      rw [add_zero_addr, Nat.zero_add]
      refine HC3.out j u ?_
      rw [← entC_take, List.getElem?_take] at hu
      split at hu
      · exact hu
      · cases hu
    have HT := Lib.hid hT
    clear hb3 CS R2 HF hcells e2 hT
    by_cases hkc : k = c2
    · subst hkc
      have HC1 := Lib.hid hc1
      clear hc1
      go_wp2_with (first
        | (at_builtin; refine wpList_append_own _ rfl (.const (.slice none 0 0)) (.tmp 42) 31 rfl w3.heap.size 35 i0 (.agg #[.string ⟨#[]⟩, .int .i64 0]) 2 24 Try.underlying31 I0.out.1 I0.out.2.1 I0.out.2.2.1 I0.out.2.2.2 rfl (by decide) _ 0 [] rfl (World.ownsRow_nil _ _ _ _) ⟨g, 0, none⟩ k k (entC (l.take k)) rfl (by rw [entC_len, List.length_take]; omega) HT.out (entC_one _) (by unfold maxLen; omega) (by omega) (Nat.le_refl _) ?_; intro v4 w4 own hg hv4; have O4 : Hid (w4.ownsRow w3.heap.size 35 2 v4 (0 + k) ([] ++ entC (l.take k))) := own; have G4 := Lib.hid (G0.out.grown hg (Nat.le_refl _) (fun j e => by cases e)); have O5 := Lib.hid (World.ownsRow.alloc O4.out (.cells #[.string nm, .int .i64 ino] 35)); have G5 := Lib.hid (G4.out.alloc G4.out.size (.cells #[.string nm, .int .i64 ino] 35)); have HC5 := Lib.hid (one_ent w4 nm ino); clear own hg hv4 HT O4 G4)
        | (at_builtin; refine wpList_append_own _ rfl (.tmp 44) (.tmp 48) 31 rfl w3.heap.size 35 i0 (.agg #[.string ⟨#[]⟩, .int .i64 0]) 2 24 Try.underlying31 I0.out.1 I0.out.2.1 I0.out.2.2.1 I0.out.2.2.2 rfl (by decide) _ (0 + k) ([] ++ entC (l.take k)) rfl O5.out ⟨w4.heap.size, 0, none⟩ 1 1 [.string nm, .int .i64 ino] rfl rfl HC5.out H17.out (by unfold maxLen; omega) (by omega) G5.out.size ?_; intro v6 w6 own hg hv6; have O6 : Hid (w6.ownsRow w3.heap.size 35 2 v6 (0 + k + 1) ([] ++ entC (l.take k) ++ [Value.string nm, Value.int .i64 ino])) := own; have G6 := Lib.hid (G5.out.grown hg G5.out.size (fun j e => (O5.out.lt j e).1)); have HC6 := Lib.hid (fun j u hu => row_past (w := w6) (g := g) HC1.out (j := j) (u := u) hu); clear own hg hv6 O5 G5 HC5)
        | (at_builtin; refine wpList_append_own _ rfl (.tmp 52) (.tmp 55) 31 rfl w3.heap.size 35 i0 (.agg #[.string ⟨#[]⟩, .int .i64 0]) 2 24 Try.underlying31 I0.out.1 I0.out.2.1 I0.out.2.2.1 I0.out.2.2.2 rfl (by decide) _ (0 + k + 1) ([] ++ entC (l.take k) ++ [Value.string nm, Value.int .i64 ino]) rfl O6.out ⟨g, 0, none⟩ (l.length - k) 0 (entC (l.drop k)) rfl (by rw [entC_len, List.length_drop]) HC6.out (entC_one _) (by unfold maxLen; omega) (by omega) G6.out.size ?_; intro v8 w8 own hg hv8; have O8 : Hid (w8.ownsRow w3.heap.size 35 2 v8 (0 + k + 1 + (l.length - k)) ([] ++ entC (l.take k) ++ [.string nm, .int .i64 ino] ++ entC (l.drop k))) := own; have G8 := Lib.hid (G6.out.grown hg G6.out.size (fun j e => (O6.out.lt j e).1)); have O9 : Hid (w8.ownsRow w3.heap.size 35 2 v8 (l.length + 1) (entC L2)) := add_row O8.out hat HIE.out; obtain ⟨A8, c8, hv8, hr8⟩ := own_ents O9.out HL2.out; subst hv8; have R8 := Lib.hid hr8; clear own hg O6 G6 HC6 O8 hr8)
        | (go_at_call 31; refine (CB.out _ _ _ R8.out).mono ?_; rintro e w9 ⟨rfl, hb9⟩; have B9 := Lib.hid (B3.out.trans ((G8.out.trans (hb9.mono G8.out.size)).mono B3.out.size)); clear hb9)
        | (go_at_call 30; refine (CW.out _ ((HR.out.below B9.out).mono B9.out.size)).mono ?_; rintro e w10 ⟨⟨v, rfl, hv⟩, hb10⟩; have O10 := Lib.hid (own_low hv B9.out.size); have B10 := Lib.hid (B9.out.trans (hb10.mono B9.out.size)); clear hv hb10))
      go_ret2
      exact ⟨⟨_, rfl, O10.out⟩, B10.out⟩
    · have k4 : ¬ c2 = k := fun e => hkc e.symm
      have k5 : (k : Int) < (c2 : Int) := by omega
      go_wp2_with (first
        | (at_builtin; refine wpList_append_own _ rfl (.const (.slice none 0 0)) (.tmp 42) 31 rfl w3.heap.size 35 i0 (.agg #[.string ⟨#[]⟩, .int .i64 0]) 2 24 Try.underlying31 I0.out.1 I0.out.2.1 I0.out.2.2.1 I0.out.2.2.2 rfl (by decide) _ 0 [] rfl (World.ownsRow_nil _ _ _ _) ⟨g, 0, none⟩ k c2 (entC (l.take k)) rfl (by rw [entC_len, List.length_take]; omega) HT.out (entC_one _) (by unfold maxLen; omega) (by omega) (Nat.le_refl _) ?_; intro v4 w4 own hg hv4; have O4 : Hid (w4.ownsRow w3.heap.size 35 2 v4 (0 + k) ([] ++ entC (l.take k))) := own; have G4 := Lib.hid (G0.out.grown hg (Nat.le_refl _) (fun j e => by cases e)); have O5 := Lib.hid (World.ownsRow.alloc O4.out (.cells #[.string nm, .int .i64 ino] 35)); have G5 := Lib.hid (G4.out.alloc G4.out.size (.cells #[.string nm, .int .i64 ino] 35)); have HC5 := Lib.hid (one_ent w4 nm ino); clear own hg hv4 HT O4 G4)
        | (at_builtin; refine wpList_append_own _ rfl (.tmp 44) (.tmp 48) 31 rfl w3.heap.size 35 i0 (.agg #[.string ⟨#[]⟩, .int .i64 0]) 2 24 Try.underlying31 I0.out.1 I0.out.2.1 I0.out.2.2.1 I0.out.2.2.2 rfl (by decide) _ (0 + k) ([] ++ entC (l.take k)) rfl O5.out ⟨w4.heap.size, 0, none⟩ 1 1 [.string nm, .int .i64 ino] rfl rfl HC5.out H17.out (by unfold maxLen; omega) (by omega) G5.out.size ?_; intro v6 w6 own hg hv6; have O6 : Hid (w6.ownsRow w3.heap.size 35 2 v6 (0 + k + 1) ([] ++ entC (l.take k) ++ [Value.string nm, Value.int .i64 ino])) := own; have G6 := Lib.hid (G5.out.grown hg G5.out.size (fun j e => (O5.out.lt j e).1)); have HC6 := Lib.hid (fun j u hu => row_drop (G6.out) HG3.out HC3.out (k := k) (j := j) (u := u) hu); clear own hg hv6 O5 G5 HC5)
        | (at_builtin; refine wpList_append_own _ rfl (.tmp 52) (.tmp 55) 31 rfl w3.heap.size 35 i0 (.agg #[.string ⟨#[]⟩, .int .i64 0]) 2 24 Try.underlying31 I0.out.1 I0.out.2.1 I0.out.2.2.1 I0.out.2.2.2 rfl (by decide) _ (0 + k + 1) ([] ++ entC (l.take k) ++ [Value.string nm, Value.int .i64 ino]) rfl O6.out ⟨g, k * 2, none⟩ (l.length - k) (c2 - k) (entC (l.drop k)) rfl (by rw [entC_len, List.length_drop]) HC6.out (entC_one _) (by unfold maxLen; omega) (by omega) G6.out.size ?_; intro v8 w8 own hg hv8; have O8 : Hid (w8.ownsRow w3.heap.size 35 2 v8 (0 + k + 1 + (l.length - k)) ([] ++ entC (l.take k) ++ [.string nm, .int .i64 ino] ++ entC (l.drop k))) := own; have G8 := Lib.hid (G6.out.grown hg G6.out.size (fun j e => (O6.out.lt j e).1)); have O9 : Hid (w8.ownsRow w3.heap.size 35 2 v8 (l.length + 1) (entC L2)) := add_row O8.out hat HIE.out; obtain ⟨A8, c8, hv8, hr8⟩ := own_ents O9.out HL2.out; subst hv8; have R8 := Lib.hid hr8; clear own hg O6 G6 HC6 O8 hr8)
        | (go_at_call 31; refine (CB.out _ _ _ R8.out).mono ?_; rintro e w9 ⟨rfl, hb9⟩; have B9 := Lib.hid (B3.out.trans ((G8.out.trans (hb9.mono G8.out.size)).mono B3.out.size)); clear hb9)
        | (go_at_call 30; refine (CW.out _ ((HR.out.below B9.out).mono B9.out.size)).mono ?_; rintro e w10 ⟨⟨v, rfl, hv⟩, hb10⟩; have O10 := Lib.hid (own_low hv B9.out.size); have B10 := Lib.hid (B9.out.trans (hb10.mono B9.out.size)); clear hv hb10))
      go_ret2
      exact ⟨⟨_, rfl, O10.out⟩, B10.out⟩
theorem RowCode.none {w w' : World} {c : Int} (h : Below w.heap.size w w') : RowCode [] c w (.returned (.tuple #[.slice none 0 0, .int .i64 c])) w' := ⟨⟨_, rfl, own_nil _ _⟩, h⟩
set_option maxHeartbeats 4000000 in
theorem add_any (A : Option Addr) (c : Nat) (xs : List ByteArray) (n : Int) (nm : ByteArray) (ino : Int) (w : World) (hx : xs.length ≤ 1000000) (hs : nm.size ≤ 140737488355328) (h : RowAt w w.heap.size A (xs.map .string)) :
    Calls Try.prog 13 #[.slice A xs.length c, .int .i64 n, .string nm, .int .i64 ino] w (RowCode (addO xs n nm ino).1 (addO xs n nm ino).2 w) := by
  have CM := Lib.hid (may_any nm w hs)
  cases hm : mayB nm.data.toList with
  | false =>
    have HO : Hid (addO xs n nm ino = ([], 7)) := by show _ = _; unfold addO; rw [if_pos hm]
    rw [hm] at CM
    clear hm h
    go_enter Try.func13, Try.ntmps13
    go_wp2_with fail
    refine CM.out.mono ?_
    rintro e w1 ⟨rfl, hb1⟩
    have B1 := Lib.hid hb1
    go_wp2
    go_ret2
    rw [HO.out]
    exact RowCode.none B1.out
  | true =>
    by_cases hr : ino < 1 ∨ 64 < ino
    · have HO : Hid (addO xs n nm ino = ([], 2)) := by show _ = _; unfold addO; rw [if_neg (by rw [hm]; simp), if_pos hr]
      rw [hm] at CM
      clear hm h
      by_cases h1 : ino < 1
      · have o3 : decide (ino < 1) = true := decide_eq_true h1
        clear hr
        go_enter Try.func13, Try.ntmps13
        go_wp2_with fail
        refine CM.out.mono ?_
        rintro e w1 ⟨rfl, hb1⟩
        have B1 := Lib.hid hb1
        go_wp2
        go_ret2
        rw [HO.out]
        exact RowCode.none B1.out
      · have o3 : decide (ino < 1) = false := decide_eq_false h1
        have o2 : (64 : Int) < ino := by omega
        have o4 : decide ((64 : Int) < ino) = true := decide_eq_true o2
        clear hr
        go_enter Try.func13, Try.ntmps13
        go_wp2_with fail
        refine CM.out.mono ?_
        rintro e w1 ⟨rfl, hb1⟩
        have B1 := Lib.hid hb1
        go_wp2
        go_ret2
        rw [HO.out]
        exact RowCode.none B1.out
    · by_cases h0 : (listO xs n).2 = 0
      · cases hh : hasE (listO xs n).1 nm with
        | false => exact add_main A c xs n nm ino w hx hs h hm (by omega) (by omega) h0 hh
        | true =>
          have HO : Hid (addO xs n nm ino = ([], 8)) := by show _ = _; unfold addO; rw [if_neg (by rw [hm]; simp), if_neg hr, if_neg (by rw [h0]; simp), if_pos hh]
          rw [hm] at CM
          have CL := Lib.hid (fun w h => list_any A c xs n w hx h)
          have HV := Lib.hid (listO_valid (xs := xs) (n := n))
          have HN := Lib.hid (listO_len (xs := xs) (n := n))
          have HR := Lib.hid h
          generalize listO xs n = lo at *
          obtain ⟨l, le⟩ := lo
          dsimp only at HV HN h0 hh
          subst h0
          have CS := Lib.hid (fun A c w h => search_any A c l nm w HN.out HV.out.rise h)
          rw [hh] at CS
          unfold ListPost at CL
          dsimp only at CL
          have o1 : ¬ ino < 1 := by omega
          have o2 : ¬ (64 : Int) < ino := by omega
          have o3 : decide (ino < 1) = false := decide_eq_false o1
          clear hm h hr hh
          go_enter Try.func13, Try.ntmps13
          go_wp2_with fail
          refine CM.out.mono ?_
          rintro e w1 ⟨rfl, hb1⟩
          have B1 := Lib.hid hb1
          clear hb1 CM
          go_wp2_with fail
          refine (CL.out _ ((HR.out.below B1.out).mono B1.out.size)).mono ?_
          rintro e w2 ⟨⟨v, rfl, hv⟩, hb2⟩
          have B2 := Lib.hid (B1.out.trans (hb2.mono B1.out.size))
          obtain ⟨A2, c2, rfl, hr2⟩ := OwnEnts.read2 hv
          have R2 := Lib.hid hr2
          clear hb2 hv hr2 CL
          go_wp2_with fail
          refine (CS.out _ _ _ R2.out).mono ?_
          rintro e w3 ⟨rfl, hb3⟩
          have B3 := Lib.hid (B2.out.trans (hb3.mono B2.out.size))
          clear hb3 CS
          go_wp2
          go_ret2
          rw [HO.out]
          exact RowCode.none B3.out
      · have HO : Hid (addO xs n nm ino = ([], (listO xs n).2)) := by show _ = _; unfold addO; rw [if_neg (by rw [hm]; simp), if_neg hr, if_pos h0]
        rw [hm] at CM
        have CL := Lib.hid (fun w h => list_any A c xs n w hx h)
        have HR := Lib.hid h
        generalize listO xs n = lo at *
        obtain ⟨l, le⟩ := lo
        dsimp only at h0 HO
        unfold ListPost at CL
        dsimp only at CL
        have h01 : (le != 0) = true := by simpa using h0
        have o1 : ¬ ino < 1 := by omega
        have o2 : ¬ (64 : Int) < ino := by omega
        have o3 : decide (ino < 1) = false := decide_eq_false o1
        clear hm h hr h0
        go_enter Try.func13, Try.ntmps13
        go_wp2_with fail
        refine CM.out.mono ?_
        rintro e w1 ⟨rfl, hb1⟩
        have B1 := Lib.hid hb1
        clear hb1 CM
        go_wp2_with fail
        refine (CL.out _ ((HR.out.below B1.out).mono B1.out.size)).mono ?_
        rintro e w2 ⟨⟨v, rfl, hv⟩, hb2⟩
        have B2 := Lib.hid (B1.out.trans (hb2.mono B1.out.size))
        clear hb2 hv CL
        go_wp2
        go_ret2
        rw [HO.out]
        exact RowCode.none B2.out
end Go.Proofs.Ytoanladhikdcaaa
