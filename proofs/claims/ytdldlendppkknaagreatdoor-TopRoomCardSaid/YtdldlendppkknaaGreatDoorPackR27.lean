/-
  Contracts and plain laws: FsI, TreeD, FsH, TopA.
-/
import Derived.Test.YtdldlendppkknaaGreatDoorPackR15
import Derived.Test.YtdldlendppkknaaGreatDoorPackR17
import Derived.Test.YtdldlendppkknaaGreatDoorPackR22
import Derived.Test.YtdldlendppkknaaGreatDoorPackR25
import Derived.Test.YtdldlendppkknaaGreatDoorPackR26
namespace Go.Proofs.YtdldlendppkknaaGreatDoor
open Go.RowKit
set_option linter.unusedVariables false
set_option linter.unusedSimpArgs false
set_option maxRecDepth 100000
def setF (xs : List ByteArray) (n : Int) (l : List AttV) (nm v : ByteArray) : List ByteArray × Int := weighO xs (setA xs n l nm v)
theorem takeO_le {xs : List ByteArray} (h : xs.length ≤ 1000000) : (takeO xs).1.length ≤ 1000000 := by
 unfold takeO
 repeat' split
 all_goals first | exact Nat.zero_le _ | (dsimp only; rw [takeV_length]; exact h)
theorem setA_le {xs : List ByteArray} (h : xs.length ≤ 1000000) (n : Int) (l : List AttV) (nm v : ByteArray) : (setA xs n l nm v).1.length ≤ 1000000 := by
 unfold setA
 exact ite_le (fun _ => Nat.zero_le _) fun _ => ite_le (fun _ => Nat.zero_le _) fun _ => ite_le (fun _ => Nat.zero_le _) fun _ => ite_le (fun _ => Nat.zero_le _) fun _ => ite_le (fun _ => by dsimp only; rw [List.length_set]; exact h) fun _ => ite_le (fun _ => Nat.zero_le _) fun _ => ite_le (fun _ => Nat.zero_le _) fun _ => by
  dsimp only
  rw [List.length_set]
  exact putO_le (takeO_le h) _ _
set_option maxHeartbeats 4000000 in
theorem setattr_any (A : Option Addr) (c : Nat) (xs : List ByteArray) (n : Int) (l : List AttV) (nm v : ByteArray) (w : World) (hx : xs.length ≤ 1000000) (hnm : nm.size ≤ 140737488355328) (hls : l.Pairwise ltN) (hlt : ∀ t ∈ textsA l, t.size ≤ 127) (hl : l.length ≤ 100) (hA : inoE xs n = 0 → (getR xs n).getD 0 0 ≠ 0 → AttAt xs n l) (h : RowAt w w.heap.size A (xs.map .string)) :
  Calls Tryz.prog 15 #[.slice A xs.length c, .int .i64 n, .string nm, .string v] w (RowCode (setF xs n l nm v).1 (setF xs n l nm v).2 w) := by
 have HO : Hid (setF xs n l nm v = weighO xs (setA xs n l nm v)) := by show _ = _; rfl
 obtain ⟨W1, hW1⟩ : ∃ W1, (((w.alloc (Obj.cells #[.slice A xs.length c] 24)).alloc (Obj.cells #[.int .i64 n] 3)).alloc (.cells #[.string nm] 9)).alloc (.cells #[.string v] 9) = W1 := ⟨_, rfl⟩
 obtain ⟨b1, v1, n1, m1, d1⟩ := box4 _ _ _ _ _ _ _ _ _ _ hW1
 have HW1 := Lib.hid hW1
 have B1 := Lib.hid b1
 have HL := Lib.hid (setA_le hx n l nm v)
 have CS := Lib.hid (aset_any A c xs n l nm v W1 hx hnm hls hlt hl hA (row_keep h b1 b1.size))
 have CC : Hid (Calls Tryz.prog 47 #[.pointer (some ⟨w.heap.size, 0, none⟩), .pointer (some ⟨w.heap.size + 1, 0, none⟩), .pointer (some ⟨w.heap.size + 1 + 1, 0, none⟩), .pointer (some ⟨w.heap.size + 1 + 1 + 1, 0, none⟩)] W1 (RowCode (setA xs n l nm v).1 (setA xs n l nm v).2 W1)) := by
  show Calls _ _ _ _ _
  have c1 := v1.cell 0 rfl
  have c2 := n1.cell 0 rfl
  have c3 := m1.cell 0 rfl
  have c4 := d1.cell 0 rfl
  generalize setA xs n l nm v = r at *
  obtain ⟨rs, e⟩ := r
  unfold RowCode at CS
  dsimp only at CS
  clear h hW1 b1 v1 n1 m1 d1 hA hlt hls HW1 HO
  go_enter Tryz.func47, Tryz.ntmps47
  go_wp2_with fail
  refine CS.out.mono ?_
  rintro e' w2 ⟨⟨v, rfl, hown⟩, hb2⟩
  have ON := Lib.hid hown
  have B2 := Lib.hid hb2
  clear hown hb2 CS
  go_wp2
  go_ret2
  exact ⟨⟨_, rfl, ON.out⟩, B2.out⟩
 have WW := Lib.hid (weighed_any A c xs 47 _ _ W1.heap.size (fun _ => True) W1 hx HL.out (enters_of Tryz.func47 (by kernel_rfl) rfl) (Nat.le_refl _) (row_keep h b1 b1.size) (fun _ _ _ _ => trivial) (CC.out.mono fun _ _ h => Weigh.of_row h))
 have c1 := v1.cell 0 rfl
 rw [← HO.out] at WW
 generalize setF xs n l nm v = z at *
 obtain ⟨rs, e⟩ := z
 unfold Weigh at WW
 dsimp only at WW
 clear h hW1 b1 v1 n1 m1 d1 CC HO CS HL hA hlt hls
 go_enter Tryz.func15, Tryz.ntmps15
 go_wp2_with fail
 rw [HW1.out]
 refine WW.out.mono ?_
 rintro e' w2 ⟨⟨v, rfl, hown⟩, hb2, _⟩
 have B2 := Lib.hid (B1.out.trans (hb2.mono B1.out.size))
 have ON := Lib.hid (own_low hown B1.out.size)
 clear hb2 hown WW c1 HW1
 go_wp2
 go_ret2
 exact ⟨⟨_, rfl, ON.out⟩, B2.out⟩
section
variable {V W X ys : List ByteArray} {m n k c d b : Nat} {l l' : List Nat} {E E' : List EntV} {δ ε : Nat → Int}
open Classical in
noncomputable def attL (V : List ByteArray) (z : Int) : List AttV := if h : ∃ l, AttAt V z l then Classical.choose h else []
theorem attAt_ok {z : Int} {l : List AttV} (h : AttAt V z l) : l.Pairwise ltN ∧ (∀ t ∈ textsA l, t.size ≤ 127) ∧ l.length ≤ 100 := by
 rcases h with ⟨_, rfl⟩ | ⟨_, _, hv, _⟩
 ·exact ⟨List.Pairwise.nil, (fun t ht => nomatch ht), Nat.zero_le _⟩
 ·exact ⟨hv.rise, fun t ht => by have := hv.texts t ht; omega, by have := hv.small; omega⟩
theorem attL_ok (V : List ByteArray) (z : Int) : (attL V z).Pairwise ltN ∧ (∀ t ∈ textsA (attL V z), t.size ≤ 127) ∧ (attL V z).length ≤ 100 := by
 unfold attL
 split
 ·rename_i h
  exact attAt_ok (Classical.choose_spec h)
 ·exact ⟨List.Pairwise.nil, (fun t ht => nomatch ht), Nat.zero_le _⟩
theorem ino_known (hv : IsVol V m) {z : Int} (h0 : inoE V z = 0) : ∃ n : Nat, z = (n : Int) ∧ 1 ≤ n ∧ n ≤ m := by
 obtain ⟨m2, k, hv2, rfl, k1, k2, _⟩ := inoE_ok h0
 obtain rfl : m = m2 := by
  have e1 := ofR_some.2 hv
  have e2 := ofR_some.2 hv2
  rw [e1] at e2
  exact Option.some.inj e2
 exact ⟨k, rfl, k1, k2⟩
theorem ext_attAt (hI : InvT V m) (hn : LiveT V m n) {l : List AttV} (h0 : extL (getR V (n : Int)) ≠ 0) (hne : l ≠ []) (hv : ValidA l) (hb : blkL V (extL (getR V (n : Int))) = blockL (rowA l)) : AttAt V (n : Int) l := by
 obtain ⟨h1, h2, _⟩ := hI.ext n hn h0
 have hd := datB_iff.1 h1
 refine .inr ⟨h0, hne, hv, ⟨m, ofR_some.2 hI.vol, hd.1⟩, ?_, hd.2, hb⟩
 have h1' := hd.2
 change extL (getR V (n : Int)) < V.length at h1'
 show usedR V ((extL (getR V (n : Int)) : Nat) : Int) = true
 unfold usedR
 rw [ofR_some.2 hI.vol]
 dsimp only
 rw [decide_eq_true (by omega), Bool.true_and, Int.toNat_natCast]
 exact h2
theorem DirT.attAt (h : DirT V m) {z : Int} (h0 : inoE V z = 0) (hk : (getR V z).getD 0 0 ≠ 0) : AttAt V z (attL V z) := by
 obtain ⟨n, rfl, h1, h2⟩ := ino_known h.inv.vol h0
 have hn : LiveT V m n := ⟨h1, h2, by rw [← kind_getT h.inv.vol h1 h2]; exact hk⟩
 have hex : ∃ l, AttAt V (n : Int) l := by
  by_cases e : extL (getR V (n : Int)) = 0
  ·exact ⟨[], .inl ⟨e, rfl⟩⟩
  ·obtain ⟨l, hne, hv, hb⟩ := h.att n hn e
   exact ⟨l, ext_attAt h.inv hn e hne hv hb⟩
 unfold attL
 rw [dif_pos hex]
 exact Classical.choose_spec hex
theorem take_keep (h : InvT V m) (hf : freeR V m = some b) : KeepVT V (takeV V b) m (fun _ => False) := by
 obtain ⟨f1, f2, f3, f4, f5⟩ := free_facts h.vol hf
 have hl := h.vol.len
 have hvt : IsVol (takeV V b) m := h.vol.take f1 f2
 have hbit : ∀ j, bitV (takeV V b) j = (bitV V j || decide (j = b)) := fun j => bit_take h.vol hf
 have hblk : ∀ j, j ≠ 2 → j ≠ b → blkL (takeV V b) j = blkL V j := fun j h1 h2 => by
  unfold takeV turnV
  rw [blkL_set _ _ _ _ (by rw [List.length_set]; exact f2), if_neg (fun e => h2 e.symm), blkL_set _ _ _ _ (by omega), if_neg (fun e => h1 e.symm)]
 have hnb : ∀ j, bitV V j = true → j ≠ b := fun j hj e => by rw [e, f3] at hj; cases hj
 exact ⟨takeV_length _ _, hvt, fun j h1 h2 h3 => hblk j h2 (by omega), fun j h1 h2 h3 => ⟨hblk j (by have := datB_iff.1 h1; omega) (hnb j h2), by rw [hbit, h2]; rfl⟩⟩
structure AttrT (V W : List ByteArray) (m n : Nat) (L : List AttV) : Prop where
 far : FarT V W m n
 dir : DirT W m
 here : LiveT W m n
 keep : ∀ i, i < 11 → (getR W (n : Int)).getD i 0 = (getR V (n : Int)).getD i 0
 byte : ∀ i, i < 8960 → byteX W m (getR W (n : Int)) i = byteX V m (getR V (n : Int)) i
 att : AttAt W (n : Int) L
 ent : ∀ k, LiveT V m k → kindR V k = 2 → entD W k = entD V k
theorem DirT.attr_of (h : DirT V m) (hn : LiveT V m n) {L : List AttV} (hL : ValidA L) (hne : L ≠ []) (f : FarT V W m n) (hw : LiveT W m n) (hk : ∀ i, i < 11 → (getR W (n : Int)).getD i 0 = (getR V (n : Int)).getD i 0)
  (hb : ∀ i, i < 8960 → byteX W m (getR V (n : Int)) i = byteX V m (getR V (n : Int)) i) (h0 : extL (getR W (n : Int)) ≠ 0) (hbk : blkL W (extL (getR W (n : Int))) = blockL (rowA L)) : AttrT V W m n L := by
 have hkn : kindR W n = kindR V n := by rw [← kind_getT f.inv.vol hn.1 hn.2.1, ← kind_getT h.inv.vol hn.1 hn.2.1]; exact hk 0 (by omega)
 have hD : kindR V n = 2 → DirS W m n (entD V n) := fun e => (h.dir n hn e).same f.inv hw (fun i _ h2 => hk i h2) hb
 obtain ⟨a, b⟩ := h.far f (fun _ => ⟨by
  rcases h.kind n hn with e | e
  ·left; rw [hkn, e]
  ·right; exact ⟨by rw [hkn, e], _, hD e⟩, fun _ => ⟨L, hne, hL, hbk⟩⟩)
 refine ⟨f, a, hw, hk, fun i hi => ?_, ext_attAt f.inv hw h0 hne hL hbk, fun k k1 k2 => ?_⟩
 ·rw [byte_same (fun i h1 h2 => hk i h2), hb i hi]
 ·by_cases e : k = n
  ·subst e; exact (hD k2).ent
  ·exact b k k1 k2 e
theorem setA_ok {z : Int} {l : List AttV} {nm v : ByteArray} (he : (setA V z l nm v).2 = 0) : opE V z = 0 ∧ mayA nm.data.toList = true ∧ v.size ≤ 126 ∧ (rowA (putA l nm v)).length ≤ 126 ∧
  ((getR V z).getD 11 0 ≠ 0 ∧ (setA V z l nm v).1 = V.set ((getR V z).getD 11 0) (blkA (putA l nm v)) ∨
   (getR V z).getD 11 0 = 0 ∧ (takeO V).2.2 = 0 ∧ (putO (takeO V).1 z (intsL ((getR V z).set 11 (takeO V).2.1))).2 = 0 ∧ (setA V z l nm v).1 = (putO (takeO V).1 z (intsL ((getR V z).set 11 (takeO V).2.1))).1.set (takeO V).2.1 (blkA (putA l nm v))) := by
 unfold setA at he ⊢
 by_cases h1 : opE V z = 0
 ·rw [if_neg (fun h => h h1)] at he ⊢
  cases hm : mayA nm.data.toList with
  | false => rw [hm, if_pos rfl] at he; exact absurd he (by decide)
  | true =>
   rw [hm, if_neg (by simp)] at he
   rw [if_neg (by simp)]
   by_cases h2 : 126 < v.size
   ·rw [if_pos h2] at he; exact absurd he (by decide)
   ·rw [if_neg h2] at he ⊢
    by_cases h3 : 126 < (rowA (putA l nm v)).length
    ·rw [if_pos h3] at he; exact absurd he (by decide)
    ·rw [if_neg h3] at he ⊢
     refine ⟨h1, rfl, by omega, by omega, ?_⟩
     by_cases h4 : (getR V z).getD 11 0 = 0
     ·rw [if_neg (fun h => h h4)] at he ⊢
      by_cases h5 : (takeO V).2.2 = 0
      ·rw [if_neg (fun h => h h5)] at he ⊢
       by_cases h6 : (putO (takeO V).1 z (intsL ((getR V z).set 11 (takeO V).2.1))).2 = 0
       ·rw [if_neg (fun h => h h6)]
        exact .inr ⟨h4, h5, h6, rfl⟩
       ·rw [if_pos h6] at he; exact absurd he h6
      ·rw [if_pos h5] at he; exact absurd he h5
     ·rw [if_pos h4]
      exact .inl ⟨h4, rfl⟩
 ·rw [if_pos h1] at he; exact absurd he h1
theorem put_valid {l : List AttV} (h1 : l.Pairwise ltN) (hok : ∀ x ∈ l, mayA x.name.data.toList = true) {nm v : ByteArray} (hm : mayA nm.data.toList = true) (hs : (rowA (putA l nm v)).length ≤ 126) : ValidA (putA l nm v) ∧ putA l nm v ≠ [] := by
 obtain ⟨_, h2, _, h4⟩ := add_facts2 h1 nm v
 refine ⟨⟨fun x hx => ?_, h2, hs⟩, fun e => ?_⟩
 ·rw [put_mem] at hx
  unfold addA at hx
  split at hx
  ·rcases List.mem_or_eq_of_mem_set hx with a | a
   ·exact hok x a
   ·subst a; exact hm
  ·rcases List.mem_append.1 hx with a | a
   ·exact hok x a
   ·rw [List.mem_singleton.1 a]; exact hm
 ·obtain ⟨x, hx⟩ := List.exists_mem_of_ne_nil _ h4
  rw [← put_mem, e] at hx
  cases hx
theorem blkA_data (L : List AttV) : (blkA L).data.toList = blockL (rowA L) := by unfold blkA; simp
theorem DirT.attr (h : DirT V m) {z : Int} {nm v : ByteArray} (he : (setA V z (attL V z) nm v).2 = 0) :
  ∃ n : Nat, z = (n : Int) ∧ LiveT V m n ∧ mayA nm.data.toList = true ∧ AttrT V (setA V z (attL V z) nm v).1 m n (putA (attL V z) nm v) := by
 obtain ⟨h1, hm, hv, hs, hc⟩ := setA_ok he
 have hi : inoE V z = 0 ∧ (getR V z).getD 0 0 ≠ 0 := by
  unfold opE at h1
  by_cases a : inoE V z = 0
  ·rw [if_neg (fun h => h a)] at h1
   refine ⟨a, fun b => ?_⟩
   rw [if_pos b] at h1
   exact absurd h1 (by decide)
  ·rw [if_pos a] at h1; exact absurd h1 a
 have hat := h.attAt hi.1 hi.2
 obtain ⟨n, rfl, n1, n2⟩ := ino_known h.inv.vol hi.1
 have hn : LiveT V m n := ⟨n1, n2, by rw [← kind_getT h.inv.vol n1 n2]; exact hi.2⟩
 have hok : ∀ x ∈ attL V (n : Int), mayA x.name.data.toList = true := by
  rcases hat with ⟨_, e⟩ | ⟨_, _, hv, _⟩
  ·rw [e]; intro x hx; cases hx
  ·exact hv.ok
 obtain ⟨hL, hne⟩ := put_valid (attL_ok V n).1 hok hm hs
 refine ⟨n, rfl, hn, hm, ?_⟩
 generalize hLL : putA (attL V (n : Int)) nm v = L at *
 have hsz : (blkA L).size = 128 := by rw [← dsize, blkA_data, blockL_len hs]
 rcases hc with ⟨hx, e⟩ | ⟨hx, ht, hp, e⟩
 ·change (setA V (n : Int) (attL V (n : Int)) nm v).1 = V.set (extL (getR V (n : Int))) (blkA L) at e
  rw [e]
  have hx : extL (getR V (n : Int)) ≠ 0 := hx
  have sT := h.inv.laid hn hx hsz
  have hd := datB_iff.1 (h.inv.ext n hn hx).1
  have hself : blkL (V.set (extL (getR V (n : Int))) (blkA L)) (extL (getR V (n : Int))) = blockL (rowA L) := by
   rw [blkL_set _ _ _ _ hd.2, if_pos rfl, blkA_data]
  refine h.attr_of hn hL hne (sT.far fun k hk hkn h0 => ?_) ((sT.live n).2 hn) (fun i _ => by rw [sT.rest n n1 n2]) (fun i hi => sT.byte n hn i hi) (by rw [sT.rest n n1 n2]; exact hx) (by rw [sT.rest n n1 n2]; exact hself)
  show blkL (V.set (extL (getR V (n : Int))) (blkA L)) _ = _
  rw [blkL_set _ _ _ _ hd.2, if_neg (fun e => ?_)]
  exact hx (h.inv.exti n k hn hk (fun e => hkn e.symm) e)
 ·rw [e]
  have hx : extL (getR V (n : Int)) = 0 := hx
  unfold takeO at ht hp ⊢
  rw [ofR_some.2 h.inv.vol] at ht hp ⊢
  dsimp only at ht hp ⊢
  cases hf : freeR V m with
  | none => rw [hf] at ht; dsimp only at ht; exact absurd ht (by decide)
  | some b =>
   rw [hf] at hp
   dsimp only at hp ⊢
   obtain ⟨f1, f2, f3, f4, f5⟩ := free_facts h.inv.vol hf
   have hl := h.inv.vol.len
   have hb6 : b < 65536 := by omega
   have hkp := take_keep h.inv hf
   obtain ⟨p1, p2⟩ := h.inv.attr hn hx hf hb6
   have hfit : FitN ((getR V (n : Int)).set 11 b) := (h.inv.good n hn).ok.fit.set 11 hb6
   have h12 : (getR V (n : Int)).length = 12 := (h.inv.good n hn).ok.fit.1
   have hpo : putO (takeV V b) (n : Int) (intsL ((getR V (n : Int)).set 11 b)) = (putV (takeV V b) n ((getR V (n : Int)).set 11 b), 0) := putO_ok hkp.vol n1 n2 hfit
   rw [hpo]
   dsimp only
   have hb0 : ∀ k, LiveT V m k → k ≠ n → extL (getR V (k : Int)) ≠ 0 → blkL (takeV V b) (extL (getR V (k : Int))) = blkL V (extL (getR V (k : Int))) ∧ datB (takeV V b) m (extL (getR V (k : Int))) = true := fun k hk _ h0 => by
    obtain ⟨a, b', _⟩ := h.inv.ext k hk h0
    exact ⟨(hkp.far _ a b' (fun h => h)).1, by rw [datB_len m _ (takeV_length _ _)]; exact a⟩
   have F1 := p1.farR p2 (takeV_length _ _) hb0
   have hg1 := p1.get
   have hx1 : extL (getR (putV (takeV V b) n ((getR V (n : Int)).set 11 b)) (n : Int)) = b := by
    rw [hg1]
    unfold extL
    rw [List.getD_eq_getElem?_getD, List.getElem?_set_self (by omega)]; rfl
   have hsame : ∀ i, i < 11 → ((getR V (n : Int)).set 11 b).getD i 0 = (getR V (n : Int)).getD i 0 := fun i hi => getD_set_ne _ _ _ _ (by omega)
   have hl1 : LiveT (putV (takeV V b) n ((getR V (n : Int)).set 11 b)) m n := ⟨n1, n2, by
    rw [← kind_getT p1.inv.vol n1 n2, hg1, hsame 0 (by omega), kind_getT h.inv.vol n1 n2]; exact hn.2.2⟩
   have hbyte1 : ∀ i, i < 8960 → byteX (putV (takeV V b) n ((getR V (n : Int)).set 11 b)) m (getR V (n : Int)) i = byteX V m (getR V (n : Int)) i := fun i hi => by
    rw [p1.byte]
    exact (hkp.good (h.inv.good n hn) (fun s _ _ hx => hx)).2.2 i hi
   generalize putV (takeV V b) n ((getR V (n : Int)).set 11 b) = W1 at *
   have hbne : b ≠ 0 := by omega
   have sT := p1.inv.laid hl1 (by rw [hx1]; exact hbne) hsz
   rw [hx1] at sT
   have hlen : b < W1.length := by rw [F1.len]; exact f2
   have hself : blkL (W1.set b (blkA L)) b = blockL (rowA L) := by rw [blkL_set _ _ _ _ hlen, if_pos rfl, blkA_data]
   have F2 : FarT W1 (W1.set b (blkA L)) m n := sT.far fun k hk hkn h0 => by
    rw [blkL_set _ _ _ _ hlen, if_neg (fun e => ?_)]
    have := p1.inv.exti n k hl1 hk (fun e => hkn e.symm) (by rw [hx1, e])
    rw [hx1] at this
    exact hbne this
   have hgw : getR (W1.set b (blkA L)) (n : Int) = (getR V (n : Int)).set 11 b := by rw [sT.rest n n1 n2, hg1]
   refine h.attr_of hn hL hne (F1.trans F2) ((sT.live n).2 hl1) (fun i hi => by rw [hgw]; exact hsame i hi) (fun i hi => ?_) (by rw [sT.rest n n1 n2, hx1]; exact hbne) (by rw [sT.rest n n1 n2, hx1]; exact hself)
   have := sT.byte n hl1 i hi
   rw [hg1, byte_same (fun i h1 h2 => hsame i h2), byte_same (fun i h1 h2 => hsame i h2)] at this
   rw [this]
   exact hbyte1 i hi
theorem TreeX.attr (h : TreeX V m δ) {L : List AttV} (hn : LiveT V m n) (a : AttrT V W m n L) : TreeX W m δ := by
 refine h.still a.dir (fun k k1 k2 => ?_) (fun k k1 k2 => ?_) a.ent
 ·by_cases e : k = n
  ·subst e
   rw [← kind_getT a.dir.inv.vol k1 k2, ← kind_getT h.vol k1 k2]; exact a.keep 0 (by omega)
  ·exact a.far.kind h.vol k1 k2 e
 ·by_cases e : k = n
  ·subst e; exact a.keep 1 (by omega)
  ·exact a.far.link k1 k2 e
theorem TreeX.setattr (h : FsT V m) {z : Int} {nm v : ByteArray} (he : (setF V z (attL V z) nm v).2 = 0) : FsT (setF V z (attL V z) nm v).1 m ∧ (setF V z (attL V z) nm v).1.length = V.length ∧ (setA V z (attL V z) nm v).2 = 0 ∧ setF V z (attL V z) nm v = ((setA V z (attL V z) nm v).1, 0) := by
 unfold setF at he ⊢
 obtain ⟨hI, hW, _⟩ := weigh_ok he
 rw [hW]
 obtain ⟨n, rfl, hn, _, a⟩ := h.dir.attr hI
 exact ⟨TreeX.attr h hn a, a.far.len, hI, rfl⟩
end
set_option maxHeartbeats 8000000 in
theorem rename_cl (vb pb qb : Nat) (A : Option Addr) (c : Nat) (xs : List ByteArray) (p q : ByteArray) (w : World) (hx : xs.length ≤ 1000000) (hp : p.size ≤ 140737488355328) (hq : q.size ≤ 140737488355328)
  (h : RowAt w w.heap.size A (xs.map .string)) (h1 : Blk w vb 24 #[.slice A xs.length c]) (h2 : Blk w pb 9 #[.string p]) (h3 : Blk w qb 9 #[.string q]) :
  Calls Tryz.prog 88 #[.pointer (some ⟨vb, 0, none⟩), .pointer (some ⟨pb, 0, none⟩), .pointer (some ⟨qb, 0, none⟩)] w (RowCode (renameI xs p q).1 (renameI xs p q).2 w) := by
 have HR := Lib.hid h
 have V0 := Lib.hid h1
 have P0 := Lib.hid h2
 have Q0 := Lib.hid h3
 have CP := Lib.hid (path_any A c xs p w hx h)
 have CV := Lib.hid (fun w h => vacant_any A c xs q w hx h)
 have HO : Hid (renameI xs p q = if (pathO xs p.data.toList).2 ≠ 0 then ([], (pathO xs p.data.toList).2)
 else if p.data.toList = [47] then ([], 12)
 else if (vacO xs q).2.2 ≠ 0 then ([], (vacO xs q).2.2)
 else if Lib.hasPrefix q.data.toList (p.data.toList ++ [47]) = true then ([], 12)
 else if (pathO xs (aboveB p).data.toList).2 ≠ 0 then ([], (pathO xs (aboveB p).data.toList).2)
 else if (dropO xs (pathO xs (aboveB p).data.toList).1 (lastB p)).2 ≠ 0 then ([], (dropO xs (pathO xs (aboveB p).data.toList).1 (lastB p)).2)
 else addO (dropO xs (pathO xs (aboveB p).data.toList).1 (lastB p)).1 (vacO xs q).1 (vacO xs q).2.1 (pathO xs p.data.toList).1) := by show _ = _; rfl
 have HZ : Hid ((pathO xs p.data.toList).2 = 0 → 1 ≤ p.size ∧ p.size ≤ 200) := fun h => by
  cases hm : mayP p.data.toList with
  | true => exact mayP_size hm
  | false => unfold pathO at h; rw [hm, if_pos rfl] at h; exact absurd h (by decide)
 have CH : Hid (p.size ≤ 200 → ∀ w, Calls Tryz.prog 89 #[.string q, .string (p ++ ⟨#[47]⟩)] w fun e w' => e = .returned (.bool (Lib.hasPrefix q.data.toList (p.data.toList ++ [47]))) ∧ w' = w) := fun hs w => by
  have h := Tryz.strings_HasPrefix q (p ++ ⟨#[47]⟩) w
  rw [show (p ++ (⟨#[47]⟩ : ByteArray)).data.toList = p.data.toList ++ [47] by simp [ByteArray.data_append]] at h
  exact h
 have ad : Hid (p.size ≤ 200 → ∀ w : World, _) := fun hs (w : World) => run_string_add_sum (P := Tryz.prog) (w := w) p ⟨#[47]⟩ (by show p.size + 1 ≤ _; omega)
 have CF := Lib.hid (fun w h => path_any A c xs (aboveB p) w hx h)
 have CD := Lib.hid (fun w h => drop_any A c xs (pathO xs (aboveB p).data.toList).1 (lastB p) w hx (by have := last_len p; omega) h)
 have HL := Lib.hid (dropO_le hx (pathO xs (aboveB p).data.toList).1 (lastB p))
 have CS : Hid (1 ≤ p.size → ∀ w, Calls Tryz.prog 62 #[.string p] w fun e w' => e = .returned (.tuple #[.string (aboveB p), .string (lastB p)]) ∧ Below w.heap.size w w') := fun h1 w => split_any p w h1 hp
 obtain ⟨pn, e1, hpn⟩ : ∃ a b, pathO xs p.data.toList = (a, b) := ⟨_, _, rfl⟩
 have CA := Lib.hid (fun A c w h => add_any A c (dropO xs (pathO xs (aboveB p).data.toList).1 (lastB p)).1 (vacO xs q).1 (vacO xs q).2.1 pn w HL.out (vac_last xs q hq) h)
 rw [hpn] at CP HO HZ
 dsimp only at HO HZ
 obtain ⟨d, e3, hd⟩ : ∃ a b, pathO xs (aboveB p).data.toList = (a, b) := ⟨_, _, rfl⟩
 rw [hd] at CF CD CA HL HO
 dsimp only at CD CA HL HO
 generalize aboveB p = pa at *
 generalize lastB p = pl at *
 obtain ⟨dv, pv, e2, hv⟩ : ∃ a b c, vacO xs q = (a, b, c) := ⟨_, _, _, rfl⟩
 rw [hv] at CV CA HO
 dsimp only at CA HO
 obtain ⟨ys, e4, ha⟩ : ∃ a b, dropO xs d pl = (a, b) := ⟨_, _, rfl⟩
 rw [ha] at CD CA HL HO
 dsimp only at CD CA HL HO
 generalize addO ys dv pv pn = r at *
 obtain ⟨zs, e5⟩ := r
 unfold RowCode at CD CA
 unfold VacPost at CV
 dsimp only at CP CF CD CA CV HL HO
 obtain ⟨hb, hhb⟩ : ∃ b, Lib.hasPrefix q.data.toList (p.data.toList ++ [47]) = b := ⟨_, rfl⟩
 rw [hhb] at CH HO
 generalize renameI xs p q = z at *
 have c1 := h1.cell 0 rfl
 have c2 := h2.cell 0 rfl
 clear h h1 h2 h3 hpn hd hv ha hx hp hq hhb
 go_enter Tryz.func88, Tryz.ntmps88
 go_wp2_with fail
 refine CP.out.mono ?_
 rintro e' w1 ⟨rfl, hb1⟩
 have B1 := Lib.hid hb1
 have V1 := Lib.hid (V0.out.below hb1 V0.out.lt)
 have P1 := Lib.hid (P0.out.below hb1 P0.out.lt)
 have Q1 := Lib.hid (Q0.out.below hb1 Q0.out.lt)
 clear hb1 CP c1 c2 V0 P0 Q0
 have c1 := V1.out.cell 0 rfl
 have c2 := P1.out.cell 0 rfl
 have c3 := Q1.out.cell 0 rfl
 by_cases hc : e1 = 0
 case neg =>
  have hc' : (e1 != 0) = true := by simpa using hc
  rw [if_pos hc] at HO
  go_wp2
  go_ret2
  rw [HO.out]
  exact ⟨⟨_, rfl, own_nil _ _⟩, B1.out⟩
 subst hc
 rw [if_neg (by simp)] at HO
 obtain ⟨hz1, hz2⟩ := HZ.out rfl
 have CS := Lib.hid (CS.out hz1)
 have CH := Lib.hid (CH.out hz2)
 have ad := ad.out hz2
 clear HZ
 by_cases ht : p.data.toList = [47]
 case pos =>
  rw [if_pos ht] at HO
  have q0 : (p.toList == [47]) = true := by rw [str_data, ht]; rfl
  clear ht
  go_wp2
  go_ret2
  rw [HO.out]
  exact ⟨⟨_, rfl, own_nil _ _⟩, B1.out⟩
 rw [if_neg ht] at HO
 have q0 : (p.toList == [47]) = false := by rw [str_data]; simpa using ht
 clear ht
 go_wp2_with fail
 refine (CV.out _ (row_keep HR.out B1.out B1.out.size)).mono ?_
 rintro e' w2 ⟨rfl, hb2⟩
 have B2 := Lib.hid (B1.out.trans (hb2.mono B1.out.size))
 have V2 := Lib.hid (V1.out.below hb2 V1.out.lt)
 have P2 := Lib.hid (P1.out.below hb2 P1.out.lt)
 have Q2 := Lib.hid (Q1.out.below hb2 Q1.out.lt)
 clear hb2 CV c1 c2 c3 V1 P1 Q1 q0
 have c1 := V2.out.cell 0 rfl
 have c2 := P2.out.cell 0 rfl
 have c3 := Q2.out.cell 0 rfl
 by_cases hc : e2 = 0
 case neg =>
  have hc' : (e2 != 0) = true := by simpa using hc
  rw [if_pos hc] at HO
  go_wp2
  go_ret2
  rw [HO.out]
  exact ⟨⟨_, rfl, own_nil _ _⟩, B2.out⟩
 subst hc
 rw [if_neg (by simp)] at HO
 go_wp2_with fail
 refine (CH.out _).mono ?_
 rintro e' w3 ⟨rfl, rfl⟩
 clear CH ad
 cases hb with
 | true =>
  rw [if_pos rfl] at HO
  go_wp2
  go_ret2
  rw [HO.out]
  exact ⟨⟨_, rfl, own_nil _ _⟩, B2.out⟩
 | false =>
  rw [if_neg (by simp)] at HO
  go_wp2_with fail
  refine (CS.out _).mono ?_
  rintro e' w5 ⟨rfl, hb5⟩
  have B5 := Lib.hid (B2.out.trans (hb5.mono B2.out.size))
  have V5 := Lib.hid (V2.out.below hb5 V2.out.lt)
  clear hb5 CS c1 c2 c3 V2 P2 Q2
  have v5 := V5.out.cell 0 rfl
  go_wp2_with fail
  refine (CF.out _ (row_keep HR.out B5.out B5.out.size)).mono ?_
  rintro e' w6 ⟨rfl, hb6⟩
  have B6 := Lib.hid (B5.out.trans (hb6.mono B5.out.size))
  have V6 := Lib.hid (V5.out.below hb6 V5.out.lt)
  clear hb6 CF v5 V5
  have v6 := V6.out.cell 0 rfl
  go_wp2_with fail
  ·rename_i hc
   go_ret2
   rw [HO.out, if_pos (by simpa using hc)]
   exact ⟨⟨_, rfl, own_nil _ _⟩, B6.out⟩
  have hc : (e3 != 0) = false := by assumption
  rw [if_neg (by simpa using hc)] at HO
  clear hc
  refine (CD.out _ (row_keep HR.out B6.out B6.out.size)).mono ?_
  rintro e' w7 ⟨⟨v, rfl, hown⟩, hb7⟩
  have B7 := Lib.hid (B6.out.trans (hb7.mono B6.out.size))
  obtain ⟨A7, c7, rfl, hrow⟩ := OwnRow.read hown
  have R7 := Lib.hid hrow
  clear hb7 CD v6 V6 hown hrow
  go_wp2_with fail
  ·rename_i hc
   go_ret2
   rw [HO.out, if_pos (by simpa using hc)]
   exact ⟨⟨_, rfl, own_nil _ _⟩, B7.out⟩
  have hc : (e4 != 0) = false := by assumption
  rw [if_neg (by simpa using hc)] at HO
  clear hc
  refine (CA.out _ _ _ R7.out).mono ?_
  rintro e' w8 ⟨⟨v, rfl, hown⟩, hb8⟩
  have hz := B7.out.size
  have ON := Lib.hid (own_low hown hz)
  have B8 := Lib.hid (B7.out.trans (hb8.mono hz))
  clear hown hb8
  go_wp2
  go_ret2
  rw [HO.out]
  exact ⟨⟨_, rfl, ON.out⟩, B8.out⟩
theorem renameI_le {xs : List ByteArray} (h : xs.length ≤ 1000000) (p q : ByteArray) : (renameI xs p q).1.length ≤ 1000000 := by
 unfold renameI
 exact ite_le (fun _ => Nat.zero_le _) fun _ => ite_le (fun _ => Nat.zero_le _) fun _ => ite_le (fun _ => Nat.zero_le _) fun _ => ite_le (fun _ => Nat.zero_le _) fun _ => ite_le (fun _ => Nat.zero_le _) fun _ => ite_le (fun _ => Nat.zero_le _) fun _ => addO_le (dropO_le h _ _) _ _ _
set_option maxHeartbeats 4000000 in
theorem rename_any (A : Option Addr) (c : Nat) (xs : List ByteArray) (p q : ByteArray) (w : World) (hx : xs.length ≤ 1000000) (hp : p.size ≤ 140737488355328) (hq : q.size ≤ 140737488355328) (h : RowAt w w.heap.size A (xs.map .string)) :
  Calls Tryz.prog 34 #[.slice A xs.length c, .string p, .string q] w (RowCode (renameO xs p q).1 (renameO xs p q).2 w) := by
 obtain ⟨W1, hW1⟩ : ∃ W1, ((w.alloc (Obj.cells #[.slice A xs.length c] 24)).alloc (.cells #[.string p] 9)).alloc (.cells #[.string q] 9) = W1 := ⟨_, rfl⟩
 obtain ⟨b1, v1, p1, q1⟩ := box3 _ _ _ _ _ _ _ _ hW1
 have HW1 := Lib.hid hW1
 have HR := Lib.hid h
 have B1 := Lib.hid b1
 have V1 := Lib.hid v1
 have P1 := Lib.hid p1
 have Q1 := Lib.hid q1
 have CM := Lib.hid (mayp_any p)
 have CQ := Lib.hid (mayp_any q)
 have HO : Hid (renameO xs p q = if mayP p.data.toList = false ∨ mayP q.data.toList = false then ([], 7) else weighO xs (renameI xs p q)) := by show _ = _; rfl
 have WW : Hid (∀ w2, Below w.heap.size w w2 → Blk w2 w.heap.size _ _ → Blk w2 (w.heap.size + 1) _ _ → Blk w2 (w.heap.size + 1 + 1) _ _ → Calls Tryz.prog 44 #[.slice A xs.length c, .func (.func 88) #[] #[.pointer (some ⟨w.heap.size, 0, none⟩), .pointer (some ⟨w.heap.size + 1, 0, none⟩), .pointer (some ⟨w.heap.size + 1 + 1, 0, none⟩)]] w2 (Weigh (weighO xs (renameI xs p q)) w2.heap.size (fun _ => True) w2)) := fun w2 hb a b d =>
  weighed_any A c xs 88 _ _ w2.heap.size (fun _ => True) w2 hx (renameI_le hx p q) (enters_of Tryz.func88 (by kernel_rfl) rfl) (Nat.le_refl _) (row_keep h hb hb.size) (fun _ _ _ _ => trivial) ((rename_cl _ _ _ A c xs p q w2 hx hp hq (row_keep h hb hb.size) a b d).mono fun _ _ h => Weigh.of_row h)
 have c1 := v1.cell 0 rfl
 have c2 := p1.cell 0 rfl
 have c3 := q1.cell 0 rfl
 generalize renameO xs p q = z at *
 generalize weighO xs (renameI xs p q) = r at *
 clear h hW1 b1 v1 p1 q1
 generalize hmp : mayP p.data.toList = mp at *
 generalize hmq : mayP q.data.toList = mq at *
 clear hmp hmq
 go_enter Tryz.func34, Tryz.ntmps34
 go_wp2_with fail
 rw [HW1.out]
 refine (CM.out _).mono ?_
 rintro e' w2 ⟨rfl, hb2⟩
 have B2 := Lib.hid (B1.out.trans (hb2.mono B1.out.size))
 have V2 := Lib.hid (V1.out.below hb2 V1.out.lt)
 have P2 := Lib.hid (P1.out.below hb2 P1.out.lt)
 have Q2 := Lib.hid (Q1.out.below hb2 Q1.out.lt)
 clear hb2 CM c1 c2 c3 V1 P1 Q1 HW1
 have c1 := V2.out.cell 0 rfl
 have c3 := Q2.out.cell 0 rfl
 cases mp with
 | false =>
  rw [if_pos (.inl rfl)] at HO
  go_wp2
  go_ret2
  rw [HO.out]
  exact ⟨⟨_, rfl, own_nil _ _⟩, B2.out⟩
 | true =>
  go_wp2_with fail
  refine (CQ.out _).mono ?_
  rintro e' w3 ⟨rfl, hb3⟩
  have B3 := Lib.hid (B2.out.trans (hb3.mono B2.out.size))
  have V3 := Lib.hid (V2.out.below hb3 V2.out.lt)
  have P3 := Lib.hid (P2.out.below hb3 P2.out.lt)
  have Q3 := Lib.hid (Q2.out.below hb3 Q2.out.lt)
  clear hb3 CQ c1 c3 V2 P2 Q2
  have c1 := V3.out.cell 0 rfl
  cases mq with
  | false =>
   rw [if_pos (.inr rfl)] at HO
   go_wp2
   go_ret2
   rw [HO.out]
   exact ⟨⟨_, rfl, own_nil _ _⟩, B3.out⟩
  | true =>
   rw [if_neg (by simp)] at HO
   go_wp2_with fail
   refine (WW.out _ B3.out V3.out P3.out Q3.out).mono ?_
   rw [← HO.out]
   rintro e' w4 ⟨⟨v, rfl, hown⟩, hb4, _⟩
   have ON := Lib.hid (own_low hown B3.out.size)
   have B4 := Lib.hid (B3.out.trans (hb4.mono B3.out.size))
   clear hown hb4
   go_wp2
   go_ret2
   exact ⟨⟨_, rfl, ON.out⟩, B4.out⟩
structure DeedV where
 kind : Int
 n : Int
 path : ByteArray
 goal : ByteArray
 data : ByteArray
 owner : Int
def deedC (a : DeedV) : Array Value := #[.int .i64 a.kind, .int .i64 a.n, .string a.path, .string a.goal, .string a.data, .int .i64 a.owner]
noncomputable def actI (V : List ByteArray) (a : DeedV) : List ByteArray × Int :=
 if a.kind = 0 then ((madeO V a.path 1 a.owner).1, (madeO V a.path 1 a.owner).2.2) else if a.kind = 1 then ((madeO V a.path 2 a.owner).1, (madeO V a.path 2 a.owner).2.2)
 else if a.kind = 2 then linkO V a.path a.goal else if a.kind = 3 then removeO V a.path else if a.kind = 4 then renameO V a.path a.goal
 else if a.kind = 5 then writeF V (pathO V a.path.data.toList).1 a.n a.data.data.toList else if a.kind = 6 then cutF V (pathO V a.path.data.toList).1 a.n
 else if a.kind = 7 then setF V (pathO V a.path.data.toList).1 (attL V (pathO V a.path.data.toList).1) a.goal a.data else if a.kind = 8 then setO V a.n (a.data.size : Int) else ([], 1)
noncomputable def actO (V : List ByteArray) (a : DeedV) : List ByteArray × Bool := if (actI V a).2 = 0 then ((actI V a).1, true) else (V, false)
def ActPost (r : List ByteArray × Bool) (w : World) (e : Ending) (w' : World) : Prop := (∃ A c, e = .returned (.tuple #[.slice A r.1.length c, .bool r.2]) ∧ RowAt w' w'.heap.size A (r.1.map .string)) ∧ Below w.heap.size w w'
structure DeedOk (a : DeedV) : Prop where
 n : -9223372036854775808 ≤ a.n ∧ a.n ≤ 9223372036854775807
 path : a.path.size ≤ 300
 goal : a.goal.size ≤ 300
 data : a.data.size ≤ 600
set_option maxHeartbeats 16000000 in
theorem act_k (A : Option Addr) (c : Nat) (V : List ByteArray) (m : Nat) (k n o : Int) (p q d : ByteArray) (w : World) (hk : 0 ≤ k ∧ k ≤ 8) (hx : V.length ≤ 1000000) (hD : DirT V m) (hok : DeedOk ⟨k, n, p, q, d, o⟩) (h : RowAt w w.heap.size A (V.map .string)) :
  Calls Tryz.prog 9 #[.slice A V.length c, .agg (deedC ⟨k, n, p, q, d, o⟩)] w (ActPost (actO V ⟨k, n, p, q, d, o⟩) w) := by
 obtain ⟨hn, hp, hq, hd⟩ := hok
 dsimp only at hn hp hq hd
 have HR := Lib.hid h
 have CP := Lib.hid (fun w h => path_any A c V p w hx h)
 have HI : Hid (actI V ⟨k, n, p, q, d, o⟩ = if k = 0 then ((madeO V p 1 o).1, (madeO V p 1 o).2.2) else if k = 1 then ((madeO V p 2 o).1, (madeO V p 2 o).2.2) else if k = 2 then linkO V p q else if k = 3 then removeO V p else if k = 4 then renameO V p q else if k = 5 then writeF V (pathO V p.data.toList).1 n d.data.toList else if k = 6 then cutF V (pathO V p.data.toList).1 n else if k = 7 then setF V (pathO V p.data.toList).1 (attL V (pathO V p.data.toList).1) q d else if k = 8 then setO V n (d.size : Int) else ([], 1)) := by show _ = _; rfl
 have HO : Hid (actO V ⟨k, n, p, q, d, o⟩ = if (actI V ⟨k, n, p, q, d, o⟩).2 = 0 then ((actI V ⟨k, n, p, q, d, o⟩).1, true) else (V, false)) := by show _ = _; rfl
 rw [HI.out] at HO
 clear HI
 obtain ⟨kk, hkk⟩ : ∃ kk, k = kk := ⟨_, rfl⟩
 obtain ⟨W1, hW1⟩ : ∃ W1, w.alloc (.cells #[.int .i64 k, .int .i64 n, .string p, .string q, .string d, .int .i64 o] 30) = W1 := ⟨_, rfl⟩
 have B1 : Hid (Below w.heap.size w W1) := hW1 ▸ (Below.refl _ _).alloc (Nat.le_refl _) _
 have X1 : Hid (Blk W1 w.heap.size 30 #[.int .i64 k, .int .i64 n, .string p, .string q, .string d, .int .i64 o]) := hW1 ▸ Blk.new w _ _
 have HW1 := Lib.hid hW1
 have HDS : Hid (d.size ≤ 600) := hd
 clear hW1
 generalize actO V ⟨k, n, p, q, d, o⟩ = z at *
 show Calls _ _ #[.slice A V.length c, .agg #[.int .i64 k, .int .i64 n, .string p, .string q, .string d, .int .i64 o]] _ _
 obtain rfl | rfl | rfl | rfl | rfl | rfl | rfl | rfl | rfl : k = 0 ∨ k = 1 ∨ k = 2 ∨ k = 3 ∨ k = 4 ∨ k = 5 ∨ k = 6 ∨ k = 7 ∨ k = 8 := by omega
 all_goals
  first
   | (have e0 : (0 : Int) = kk := hkk
      have CC : Hid (∀ w2, RowAt w2 w2.heap.size A (V.map .string) → Calls Tryz.prog 26 #[.slice A V.length c, .string p, .int .i64 o] w2 fun e w' => (∃ v, e = .returned (.tuple #[v, .int .i64 (madeO V p 1 o).2.1, .int .i64 (((madeO V p 1 o).1, (madeO V p 1 o).2.2)).2]) ∧ OwnRow (((madeO V p 1 o).1, (madeO V p 1 o).2.2)).1 w2 v w') ∧ Below w2.heap.size w2 w') := fun w2 h => (create_any A c V p o w2 hx (by omega) h)
      replace HO : Hid (z = if (((madeO V p 1 o).1, (madeO V p 1 o).2.2)).2 = 0 then ((((madeO V p 1 o).1, (madeO V p 1 o).2.2)).1, true) else (V, false)) := HO
      generalize ((madeO V p 1 o).1, (madeO V p 1 o).2.2) = r at *)
   | (have e0 : (1 : Int) = kk := hkk
      have CC : Hid (∀ w2, RowAt w2 w2.heap.size A (V.map .string) → Calls Tryz.prog 32 #[.slice A V.length c, .string p, .int .i64 o] w2 fun e w' => (∃ v, e = .returned (.tuple #[v, .int .i64 (madeO V p 2 o).2.1, .int .i64 (((madeO V p 2 o).1, (madeO V p 2 o).2.2)).2]) ∧ OwnRow (((madeO V p 2 o).1, (madeO V p 2 o).2.2)).1 w2 v w') ∧ Below w2.heap.size w2 w') := fun w2 h => (mkdir_any A c V p o w2 hx (by omega) h)
      replace HO : Hid (z = if (((madeO V p 2 o).1, (madeO V p 2 o).2.2)).2 = 0 then ((((madeO V p 2 o).1, (madeO V p 2 o).2.2)).1, true) else (V, false)) := HO
      generalize ((madeO V p 2 o).1, (madeO V p 2 o).2.2) = r at *)
   | (have e0 : (2 : Int) = kk := hkk
      have CC : Hid (∀ w2, RowAt w2 w2.heap.size A (V.map .string) → Calls Tryz.prog 33 #[.slice A V.length c, .string p, .string q] w2 fun e w' => (∃ v, e = .returned (.tuple #[v, .int .i64 (linkO V p q).2]) ∧ OwnRow (linkO V p q).1 w2 v w') ∧ Below w2.heap.size w2 w') := fun w2 h => (link_any A c V p q w2 hx (by omega) (by omega) h)
      replace HO : Hid (z = if (linkO V p q).2 = 0 then ((linkO V p q).1, true) else (V, false)) := HO
      generalize linkO V p q = r at *)
   | (have e0 : (3 : Int) = kk := hkk
      have CC : Hid (∀ w2, RowAt w2 w2.heap.size A (V.map .string) → Calls Tryz.prog 21 #[.slice A V.length c, .string p] w2 fun e w' => (∃ v, e = .returned (.tuple #[v, .int .i64 (removeO V p).2]) ∧ OwnRow (removeO V p).1 w2 v w') ∧ Below w2.heap.size w2 w') := fun w2 h => (remove_any A c V p w2 hx (by omega) h)
      replace HO : Hid (z = if (removeO V p).2 = 0 then ((removeO V p).1, true) else (V, false)) := HO
      generalize removeO V p = r at *)
   | (have e0 : (4 : Int) = kk := hkk
      have CC : Hid (∀ w2, RowAt w2 w2.heap.size A (V.map .string) → Calls Tryz.prog 34 #[.slice A V.length c, .string p, .string q] w2 fun e w' => (∃ v, e = .returned (.tuple #[v, .int .i64 (renameO V p q).2]) ∧ OwnRow (renameO V p q).1 w2 v w') ∧ Below w2.heap.size w2 w') := fun w2 h => (rename_any A c V p q w2 hx (by omega) (by omega) h)
      replace HO : Hid (z = if (renameO V p q).2 = 0 then ((renameO V p q).1, true) else (V, false)) := HO
      generalize renameO V p q = r at *)
   | (have e0 : (5 : Int) = kk := hkk
      have CC : Hid (∀ w2, RowAt w2 w2.heap.size A (V.map .string) → Calls Tryz.prog 13 #[.slice A V.length c, .int .i64 (pathO V p.data.toList).1, .int .i64 n, .string d] w2 fun e w' => (∃ v, e = .returned (.tuple #[v, .int .i64 (writeF V (pathO V p.data.toList).1 n d.data.toList).2]) ∧ OwnRow (writeF V (pathO V p.data.toList).1 n d.data.toList).1 w2 v w') ∧ Below w2.heap.size w2 w') := fun w2 h => (writeF_any A c V (pathO V p.data.toList).1 n d w2 hx hn (by omega) h)
      replace HO : Hid (z = if (writeF V (pathO V p.data.toList).1 n d.data.toList).2 = 0 then ((writeF V (pathO V p.data.toList).1 n d.data.toList).1, true) else (V, false)) := HO
      generalize writeF V (pathO V p.data.toList).1 n d.data.toList = r at *)
   | (have e0 : (6 : Int) = kk := hkk
      have CC : Hid (∀ w2, RowAt w2 w2.heap.size A (V.map .string) → Calls Tryz.prog 35 #[.slice A V.length c, .int .i64 (pathO V p.data.toList).1, .int .i64 n] w2 fun e w' => (∃ v, e = .returned (.tuple #[v, .int .i64 (cutF V (pathO V p.data.toList).1 n).2]) ∧ OwnRow (cutF V (pathO V p.data.toList).1 n).1 w2 v w') ∧ Below w2.heap.size w2 w') := fun w2 h => (cutF_any A c V (pathO V p.data.toList).1 n w2 hx h)
      replace HO : Hid (z = if (cutF V (pathO V p.data.toList).1 n).2 = 0 then ((cutF V (pathO V p.data.toList).1 n).1, true) else (V, false)) := HO
      generalize cutF V (pathO V p.data.toList).1 n = r at *)
   | (have e0 : (7 : Int) = kk := hkk
      have CC : Hid (∀ w2, RowAt w2 w2.heap.size A (V.map .string) → Calls Tryz.prog 15 #[.slice A V.length c, .int .i64 (pathO V p.data.toList).1, .string q, .string d] w2 fun e w' => (∃ v, e = .returned (.tuple #[v, .int .i64 (setF V (pathO V p.data.toList).1 (attL V (pathO V p.data.toList).1) q d).2]) ∧ OwnRow (setF V (pathO V p.data.toList).1 (attL V (pathO V p.data.toList).1) q d).1 w2 v w') ∧ Below w2.heap.size w2 w') := fun w2 h => (setattr_any A c V (pathO V p.data.toList).1 (attL V (pathO V p.data.toList).1) q d w2 hx (by omega) (attL_ok V _).1 (attL_ok V _).2.1 (attL_ok V _).2.2 (fun h0 hk => hD.attAt h0 hk) h)
      replace HO : Hid (z = if (setF V (pathO V p.data.toList).1 (attL V (pathO V p.data.toList).1) q d).2 = 0 then ((setF V (pathO V p.data.toList).1 (attL V (pathO V p.data.toList).1) q d).1, true) else (V, false)) := HO
      generalize setF V (pathO V p.data.toList).1 (attL V (pathO V p.data.toList).1) q d = r at *)
   | (have e0 : (8 : Int) = kk := hkk
      have CC : Hid (∀ w2, RowAt w2 w2.heap.size A (V.map .string) → Calls Tryz.prog 36 #[.slice A V.length c, .int .i64 n, .int .i64 (d.size : Int)] w2 fun e w' => (∃ v, e = .returned (.tuple #[v, .int .i64 (setO V n (d.size : Int)).2]) ∧ OwnRow (setO V n (d.size : Int)).1 w2 v w') ∧ Below w2.heap.size w2 w') := fun w2 h => (set_quo A c V n (d.size : Int) w2 hx h)
      replace HO : Hid (z = if (setO V n (d.size : Int)).2 = 0 then ((setO V n (d.size : Int)).1, true) else (V, false)) := HO
      generalize setO V n (d.size : Int) = r at *)
  obtain ⟨pn, pe, hpp⟩ : ∃ a b, pathO V p.data.toList = (a, b) := ⟨_, _, rfl⟩
  rw [hpp] at CP
  try rw [hpp] at CC
  dsimp only at CP CC
  obtain ⟨rs, e⟩ := r
  dsimp only at CC HO
  clear h hpp hD hx hn hp hq hd hkk e0 hk
  go_enter Tryz.func9, Tryz.ntmps9
  go_wp2_with fail
  rw [HW1.out]
  refine (CP.out _ (row_keep HR.out B1.out B1.out.size)).mono ?_
  rintro e' w2 ⟨rfl, hb2⟩
  have B2 := Lib.hid (B1.out.trans (hb2.mono B1.out.size))
  have X2 := Lib.hid (X1.out.below hb2 X1.out.lt)
  have x0 := X2.out.cell 0 rfl
  have x1 := X2.out.cell 1 rfl
  have x2 := X2.out.cell 2 rfl
  have x3 := X2.out.cell 3 rfl
  have x4 := X2.out.cell 4 rfl
  have x5 := X2.out.cell 5 rfl
  clear hb2 CP X1 HW1 B1
  go_wp2_with fail
  refine (CC.out _ (row_keep HR.out B2.out B2.out.size)).mono ?_
  rintro e' w3 ⟨⟨v, rfl, hown⟩, hb3⟩
  have B3 := Lib.hid (B2.out.trans (hb3.mono B2.out.size))
  obtain ⟨A3, c3, rfl, hrow⟩ := OwnRow.read hown
  have R3 := Lib.hid hrow
  clear hb3 hown hrow CC X2 x0 x1 x2 x3 x4 x5 B2
  by_cases he : e = 0
  ·subst he
   rw [if_pos rfl] at HO
   go_wp2
   go_ret2
   rw [HO.out]
   exact ⟨⟨_, _, rfl, R3.out⟩, B3.out⟩
  ·have he' : (e != 0) = true := by simpa using he
   rw [if_neg he] at HO
   go_wp2
   go_ret2
   rw [HO.out]
   exact ⟨⟨_, _, rfl, row_keep HR.out B3.out B3.out.size⟩, B3.out⟩
set_option maxHeartbeats 8000000 in
theorem act_x (A : Option Addr) (c : Nat) (V : List ByteArray) (m : Nat) (a : DeedV) (w : World) (hx : V.length ≤ 1000000) (hk : a.kind < 0 ∨ 8 < a.kind) (h : RowAt w w.heap.size A (V.map .string)) :
  Calls Tryz.prog 9 #[.slice A V.length c, .agg (deedC a)] w (ActPost (actO V a) w) := by
 obtain ⟨k, n, p, q, d, o⟩ := a
 dsimp only at hk
 have HR := Lib.hid h
 have CP := Lib.hid (fun w h => path_any A c V p w hx h)
 have HO : Hid (actO V ⟨k, n, p, q, d, o⟩ = (V, false)) := by
  show _ = _
  have hI : actI V ⟨k, n, p, q, d, o⟩ = ([], 1) := by
   unfold actI
   dsimp only
   rw [if_neg (by omega), if_neg (by omega), if_neg (by omega), if_neg (by omega), if_neg (by omega), if_neg (by omega), if_neg (by omega), if_neg (by omega), if_neg (by omega)]
  unfold actO
  rw [hI]
  rfl
 generalize actO V ⟨k, n, p, q, d, o⟩ = z at *
 obtain ⟨W1, hW1⟩ : ∃ W1, w.alloc (.cells #[.int .i64 k, .int .i64 n, .string p, .string q, .string d, .int .i64 o] 30) = W1 := ⟨_, rfl⟩
 have B1 : Hid (Below w.heap.size w W1) := hW1 ▸ (Below.refl _ _).alloc (Nat.le_refl _) _
 have X1 : Hid (Blk W1 w.heap.size 30 #[.int .i64 k, .int .i64 n, .string p, .string q, .string d, .int .i64 o]) := hW1 ▸ Blk.new w _ _
 have HW1 := Lib.hid hW1
 have k0 : (k == 0) = false := by simpa using (by omega : ¬ k = 0)
 have k1 : (k == 1) = false := by simpa using (by omega : ¬ k = 1)
 have k2 : (k == 2) = false := by simpa using (by omega : ¬ k = 2)
 have k3 : (k == 3) = false := by simpa using (by omega : ¬ k = 3)
 have k4 : (k == 4) = false := by simpa using (by omega : ¬ k = 4)
 have k5 : (k == 5) = false := by simpa using (by omega : ¬ k = 5)
 have k6 : (k == 6) = false := by simpa using (by omega : ¬ k = 6)
 have k7 : (k == 7) = false := by simpa using (by omega : ¬ k = 7)
 have k8 : (k == 8) = false := by simpa using (by omega : ¬ k = 8)
 clear h hW1 hk
 show Calls _ _ #[.slice A V.length c, .agg #[.int .i64 k, .int .i64 n, .string p, .string q, .string d, .int .i64 o]] _ _
 go_enter Tryz.func9, Tryz.ntmps9
 go_wp2_with fail
 rw [HW1.out]
 refine (CP.out _ (row_keep HR.out B1.out B1.out.size)).mono ?_
 rintro e' w2 ⟨rfl, hb2⟩
 have B2 := Lib.hid (B1.out.trans (hb2.mono B1.out.size))
 have X2 := Lib.hid (X1.out.below hb2 X1.out.lt)
 have x0 := X2.out.cell 0 rfl
 clear hb2 CP X1 HW1 B1
 go_wp2
 go_ret2
 rw [HO.out]
 exact ⟨⟨_, _, rfl, row_keep HR.out B2.out B2.out.size⟩, B2.out⟩
theorem act_any (A : Option Addr) (c : Nat) (V : List ByteArray) (m : Nat) (a : DeedV) (w : World) (hx : V.length ≤ 1000000) (hD : DirT V m) (hok : DeedOk a) (h : RowAt w w.heap.size A (V.map .string)) :
  Calls Tryz.prog 9 #[.slice A V.length c, .agg (deedC a)] w (ActPost (actO V a) w) := by
 obtain ⟨k, n, p, q, d, o⟩ := a
 by_cases hk : k < 0 ∨ 8 < k
 ·exact act_x A c V m _ w hx hk h
 ·exact act_k A c V m k n o p q d w (by omega) hx hD hok h
end Go.Proofs.YtdldlendppkknaaGreatDoor
