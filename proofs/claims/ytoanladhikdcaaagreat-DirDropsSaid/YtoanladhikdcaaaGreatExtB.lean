/-
  What the methods lay, keep, take, give of an open file do.
-/
import Derived.Test.YtoanladhikdcaaaGreatExtA
import Derived.Test.YtoanladhikdcaaaGreatInfra
namespace Go.Proofs.YtoanladhikdcaaaGreat
open Go.RowKit
set_option linter.unusedVariables false
set_option linter.unusedSimpArgs false
set_option maxRecDepth 100000
/-- a whole struct out of the midst of a block, in a region that draws its order -/
theorem quiet_load_mid {P : Program} {C : World → Prop} {K : Act → Prop} {o : Oper} {a : Act} (ty : TypeId) (x : Operand) (b off : Nat) (cs : List Value) (d : TypeDesc) (ho : o.op = .load ty x) (hx : a.eval x = .pointer (some ⟨b, off, none⟩)) (hc : ∀ w, C w → w.rangeAt b off cs)
    (hu : P.underlying ty = some d) (hd : d.isRow = true) (hi : (P.info? ty).map (·.size) = some cs.length)
    (hk : K (a.put o.dst (.agg cs.toArray))) : o.quiet P a C K :=
  ⟨.agg cs.toArray, fun w hw => by
    unfold Oper.quietAt
    unfold execOp
    simp only [ho, hx, Instr.loadAt, Instr.sureAddr, Sem.run_bind, Sem.run_pure, Result.andThen_ok, run_loadVar_mid w b off ty cs d (hc w hw) hu hd hi]
    exact ⟨rfl, rfl⟩, hk⟩
theorem own_low {w : World} {base base' : Nat} {e : TypeId} {size : Nat} {v : Value} {n : Nat} {xs : List Value} (h : w.ownsRow base e size v n xs) (hb : base' ≤ base) : w.ownsRow base' e size v n xs := by
  obtain ⟨h1, h2⟩ := h
  refine ⟨h1, ?_⟩
  rcases h2 with h2 | ⟨g, cap, cur, hv, hg, r⟩
  · exact .inl h2
  · exact .inr ⟨g, cap, cur, hv, by omega, r⟩
section
variable {B : Nat} {g m n : Nat} {V : List ByteArray} {l : List Nat}
theorem FileX.grow {w : World} (h : FileX B w g m n V l) (hz : B ≤ w.heap.size) (u : Ext w) : FileX B u.val g m n V l ∧ Below B w u.val := ⟨h.below u.below, u.below.mono hz⟩
set_option maxHeartbeats 2000000 in
theorem lay_any (b p : Nat) (d : ByteArray) (w : World) (hz : B ≤ w.heap.size) (hb : datB V m b = true) (hp : p + d.size ≤ 128) (h : FileX B w g m n V l) :
    Calls Tryz.prog 37 #[.pointer (some ⟨g, 0, none⟩), .int .i64 b, .int .i64 p, .string d] w fun e w' => e = .returned (.tuple #[]) ∧ FileX B w' g m n (layX V b p d.data.toList) l ∧ Below B w w' := by
  obtain ⟨gv, c, h⟩ := h
  have HF := Lib.hid h
  have hlt := (datB_iff.1 hb).2
  have hsm := h.small
  have h0 := h.c0
  have hstr := h.str b hlt
  have hsz := h.vol.size b hlt
  have HV : Hid (IsVol (layX V b p d.data.toList) m) := layX_ok h.vol hb (by rw [Array.length_toList]; exact hp)
  have HL : Hid (layX V b p d.data.toList = V.set b (layB (V.getD b ⟨#[]⟩) p d.data.toList)) := rfl
  have hfz := h.own.frozenAt b
  clear h
  generalize V.getD b ⟨#[]⟩ = s at *
  have ze : ∀ a b, a ≤ b → b ≤ 128 → (s.extract a b).size = b - a := fun a b h1 h2 => by rw [ByteArray.size_extract]; omega
  have ad1 := fun (w : World) => run_string_add_sum (P := Tryz.prog) (w := w) (s.extract 0 p) d (by rw [ze 0 p (by omega) (by omega)]; omega)
  have ad2 := fun (w : World) => run_string_add_sum (P := Tryz.prog) (w := w) (s.extract 0 p ++ d) (s.extract (p + d.size) s.size) (by rw [ByteArray.size_append, ze 0 p (by omega) (by omega), ze (p + d.size) s.size (by omega) (by omega)]; omega)
  clear ze
  have u0 : ∀ u : Ext w, u.val.cell? ⟨g, 0, none⟩ = some (.slice (some ⟨gv, 0, none⟩) V.length c) := fun u => u.cell h0
  have s1 : IntKind.i64.wrap ((p : Int) + (d.size : Int)) = (p : Int) + (d.size : Int) := IntWalk.i64_in _ (by omega)
  have s2 : (0 : Int) ≤ (p : Int) + (d.size : Int) := by omega
  have s3 : ((p : Int) + (d.size : Int)).toNat = p + d.size := by omega
  have s4 : (p : Int) ≤ (s.size : Int) := by omega
  have s5 : (p : Int) + (d.size : Int) ≤ (s.size : Int) := by omega
  have s6 : (0 : Int) ≤ (b : Int) := by omega
  have s7 : (b : Int) < (V.length : Int) := by omega
  have s8 : (0 : Int) ≤ (p : Int) := by omega
  have HSZ := Lib.hid hsz
  clear hsz
  go_enter Tryz.func37, Tryz.ntmps37
  go_wp2_with fail
  refine wp_region_ext_tail 18 (by kernel_rfl) (by kernel_rfl) ?_
  simp only [List.take_succ_cons, List.take_zero, List.drop_succ_cons, List.drop_zero]
  repeat (go_big_quiet_step (fail))
  refine wpQuiet_nil ?_
  rintro _ ⟨u, rfl⟩
  have hF2 := HF.out.below u.below
  have UB := Lib.hid (u.below.mono hz)
  generalize u.val = W2 at *
  clear u0 ad1 ad2 s1 s2 s3 s4 s5 s8 hstr hfz h0
  have c1 := hF2.str b hlt
  have c2 : W2.frozen? ⟨gv, b, none⟩ = false := hF2.own.frozenAt b
  have H2 := Lib.hid hF2
  have hnb : layB s p d.data.toList = s.extract 0 p ++ d ++ s.extract (p + d.size) s.size := by
    apply WideShapes.bytes_inj
    have e1 := Lib.extract_data s 0 p
    have e2 : (s.extract (p + d.size) s.size).data.toList = s.data.toList.drop (p + d.size) := by
      rw [Lib.extract_data, List.take_of_length_le]
      rw [List.length_drop, Array.length_toList]; exact Nat.le_refl _
    rw [layB_list]
    simp only [ByteArray.data_append, Array.toList_append, e1, e2, List.drop_zero, Nat.sub_zero, Array.length_toList]
    rfl
  rw [← hnb]
  have HB := Lib.hid hb
  clear hF2 hnb hb
  go_wp2
  go_end0
  rw [HL.out] at HV ⊢
  exact ⟨rfl, ⟨gv, c, H2.out.lay b _ hlt HV.out⟩, UB.out.setCell H2.out.gv_low _⟩
theorem ino_range {w : World} {gv c : Nat} (h : FileW B w g m n V l gv c) : w.rangeAt g 8 (l.map fun k : Nat => Value.int .i64 (k : Int)) := fun j v hv => by
  simp only [List.getElem?_map] at hv
  cases hj : l[j]? with
  | none => rw [hj] at hv; cases hv
  | some k =>
    rw [hj] at hv
    obtain rfl := Option.some.inj hv
    have h12 : j < 12 := by rw [← h.fit.1]; exact (List.getElem?_eq_some_iff.1 hj).1
    have := h.ino j h12
    rw [List.getD_eq_getElem?_getD, hj] at this
    exact this
set_option maxHeartbeats 2000000 in
theorem keep_any (w : World) (hz : B ≤ w.heap.size) (h : FileX B w g m n V l) :
    Calls Tryz.prog 39 #[.pointer (some ⟨g, 0, none⟩)] w fun e w' => e = .returned (.int .i64 0) ∧ FileX B w' g m n (putV V n l) l ∧ Below B w w' := by
  obtain ⟨gv, c, h⟩ := h
  have HF := Lib.hid h
  have hsm := h.small
  have h0 := h.c0
  have h7 := h.c7
  have u0 : ∀ u : Ext w, u.val.cell? ⟨g, 0, none⟩ = some (.slice (some ⟨gv, 0, none⟩) V.length c) := fun u => u.cell h0
  have u7 : ∀ u : Ext w, u.val.cell? ⟨g, 7, none⟩ = some (.int .i64 (n : Int)) := fun u => u.cell h7
  have CP : Hid (∀ w, FileW B w g m n V l gv c → Calls Tryz.prog 71 #[.slice (some ⟨gv, 0, none⟩) V.length c, .int .i64 n, .agg (l.map fun k : Nat => Value.int .i64 (k : Int)).toArray] w (RowCode (putV V n l) 0 w)) := fun w h => by
    have := put_ino (some ⟨gv, 0, none⟩) c V (n : Int) (l.map fun k : Nat => (k : Int)) w (by omega) h.row (by rw [List.length_map]; exact h.fit.1) (fun z hz => by
      obtain ⟨k, hk, rfl⟩ := List.mem_map.1 hz
      obtain ⟨j, hj, rfl⟩ := List.getElem_of_mem hk
      have := fit_lt h.fit j
      rw [List.getD_eq_getElem?_getD, List.getElem?_eq_getElem hj] at this
      simp only [Option.getD_some] at this
      omega)
    rw [putO_ok h.vol h.one h.top h.fit] at this
    unfold intC at this
    rw [List.map_map] at this
    exact this
  have HR : Hid (∀ u : Ext w, u.val.rangeAt g 8 (l.map fun k : Nat => Value.int .i64 (k : Int))) := fun u => ino_range (HF.out.below u.below)
  have HLn : Hid ((l.map fun k : Nat => Value.int .i64 (k : Int)).length = 12) := by show _ = _; rw [List.length_map]; exact h.fit.1
  clear h h0 h7
  generalize hcs : (l.map fun k : Nat => Value.int .i64 (k : Int)) = cs at *
  clear hcs
  go_enter Tryz.func39, Tryz.ntmps39
  go_wp2_with fail
  refine wp_region_waist 12 (by kernel_rfl) (by kernel_rfl) ?_
  simp only [List.take_succ_cons, List.take_zero, List.drop_succ_cons, List.drop_zero]
  repeat (first
    | (go_big_quiet_want; refine quiet_load_mid 35 (.tmp 16) g 8 cs _ rfl rfl (by rintro _ ⟨u, rfl⟩; exact HR.out u) Tryz.underlying35 rfl (by rw [HLn.out]; kernel_rfl) ?_; go_frame; go_big_quiet_on)
    | go_big_quiet_step (fail))
  refine wpQuiet_nil ?_
  rintro _ ⟨u, rfl⟩
  have H2 := Lib.hid (HF.out.below u.below)
  have UB := Lib.hid (u.below.mono hz)
  have hz2 := u.below.size
  generalize u.val = W2 at *
  clear u0 u7 HR
  go_wp2_with fail
  refine (CP.out _ H2.out).mono ?_
  rintro e w3 ⟨⟨v, rfl, hown⟩, hb3⟩
  have H3 := Lib.hid (H2.out.below hb3)
  have B3 := Lib.hid (UB.out.trans (hb3.mono (by omega)))
  have hlen := putV_length V n l
  obtain ⟨gv2, c2, rfl⟩ := Go.Joins.ownsRow_form hown (by omega)
  have O3 : Hid (w3.ownsRow B 9 1 (.slice (some ⟨gv2, 0, none⟩) (putV V n l).length c2) (putV V n l).length ((putV V n l).map .string)) := own_low hown (by omega)
  have HV := Lib.hid (H2.out.vol.putI H2.out.one H2.out.top l)
  clear hown hb3 CP
  rw [hlen] at O3
  go_wp2
  repeat (go_big_quiet_step (fail))
  refine wpQuiet_nil ?_
  rintro _ ⟨u, rfl⟩
  have H4 := Lib.hid (H3.out.below u.below)
  have O4 := Lib.hid (own_below O3.out u.below)
  have B4 := Lib.hid (B3.out.trans (u.below.mono (by have := B3.out.size; omega)))
  have c0 := H4.out.c0
  have c0f := H4.out.blk.frozen 0
  generalize u.val = W4 at *
  clear O3 H3
  go_wp2
  go_ret
  refine ⟨rfl, ⟨gv2, c2, ?_⟩, B4.out.setCell H4.out.low _⟩
  have := H4.out.vol_ (V' := putV V n l) hlen HV.out (by rw [hlen]; exact O4.out)
  rw [hlen] at this
  exact this
set_option maxHeartbeats 2000000 in
theorem take_file (w : World) (hz : B ≤ w.heap.size) (h : FileX B w g m n V l) :
    Calls Tryz.prog 69 #[.pointer (some ⟨g, 0, none⟩)] w fun e w' => Below B w w' ∧ match takX V m with
      | none => e = .returned (.tuple #[.int .i64 0, .int .i64 10])
      | some r => e = .returned (.tuple #[.int .i64 (r.2 : Int), .int .i64 0]) ∧ FileX B w' g m n r.1 l := by
  obtain ⟨gv, c, h⟩ := h
  have HF := Lib.hid h
  have hsm := h.small
  have h0 := h.c0
  have hT := take_any (some ⟨gv, 0, none⟩) c V w (by omega) h.row
  unfold TakePost at hT
  rw [ofR_some.2 h.vol] at hT
  dsimp only at hT
  have hv := h.vol
  clear h
  unfold takX
  cases hf : freeR V m with
  | none =>
    dsimp only [Option.map_none]
    rw [hf] at hT
    have CT := Lib.hid hT
    clear hT hf hv
    go_enter Tryz.func69, Tryz.ntmps69
    go_wp2_with fail
    refine CT.out.mono ?_
    rintro e w1 ⟨hb1, rfl⟩
    have B1 := Lib.hid (hb1.mono hz)
    clear hb1
    go_wp2
    go_ret2
    exact ⟨B1.out, rfl⟩
  | some i =>
    dsimp only [Option.map_some]
    rw [hf] at hT
    have CT := Lib.hid hT
    have hi := (freeR_some (by have := hv.len; omega)).1 hf
    have HV := Lib.hid (hv.take hi.1 hi.2.1)
    clear hT hf hv
    go_enter Tryz.func69, Tryz.ntmps69
    go_wp2_with fail
    refine CT.out.mono ?_
    rintro e w1 ⟨hb1, v, rfl, hn⟩
    have hlen := takeV_length V i
    have hown := hn.own (by unfold maxLen; omega)
    obtain ⟨gv2, c2, rfl⟩ := Go.Joins.ownsRow_form hown (by omega)
    have O1 : Hid (w1.ownsRow B 9 1 (.slice (some ⟨gv2, 0, none⟩) (takeV V i).length c2) (takeV V i).length ((takeV V i).map .string)) := own_low hown hz
    have H1 := Lib.hid (HF.out.below hb1)
    have B1 := Lib.hid (hb1.mono hz)
    have c0 := H1.out.c0
    have c0f := H1.out.blk.frozen 0
    clear hb1 hn hown h0 CT
    rw [hlen] at O1
    go_wp2
    go_ret2
    refine ⟨B1.out.setCell H1.out.low _, rfl, ⟨gv2, c2, ?_⟩⟩
    have := H1.out.vol_ (V' := takeV V i) hlen HV.out (by rw [hlen]; exact O1.out)
    rw [hlen] at this
    exact this
set_option maxHeartbeats 2000000 in
theorem give_file (b : Nat) (w : World) (hz : B ≤ w.heap.size) (h : FileX B w g m n V l) :
    Calls Tryz.prog 72 #[.pointer (some ⟨g, 0, none⟩), .int .i64 b] w fun e w' => e = .returned (.tuple #[]) ∧ FileX B w' g m n (giveV V m b) l ∧ Below B w w' := by
  obtain ⟨gv, c, h⟩ := h
  have HF := Lib.hid h
  have hsm := h.small
  have h0 := h.c0
  have hT := give_any (some ⟨gv, 0, none⟩) c V (b : Int) w (by omega) h.row
  unfold GivePost at hT
  rw [ofR_some.2 h.vol] at hT
  dsimp only at hT
  have hv := h.vol
  clear h
  by_cases hd : datB V m b = true ∧ bitL (blkL V 2) b = true
  · have hdd := datB_iff.1 hd.1
    simp only [if_neg (show ¬ ((b : Int) < (dataN m : Int) ∨ (V.length : Int) ≤ (b : Int)) by omega), Int.toNat_natCast, if_neg (show ¬ (bitL (blkL V 2) b = false) by rw [hd.2]; simp)] at hT
    have HG : Hid (giveV V m b = turnV V b) := by show _ = _; unfold giveV; rw [if_pos hd]
    have CT := Lib.hid hT
    have HV := Lib.hid (hv.turn hdd.1 hdd.2)
    clear hT hd hv hdd
    go_enter Tryz.func72, Tryz.ntmps72
    go_wp2_with fail
    refine CT.out.mono ?_
    rintro e w1 ⟨hb1, v, rfl, hn⟩
    have hlen := turnV_length V b
    have hown := hn.own (by unfold maxLen; omega)
    obtain ⟨gv2, c2, rfl⟩ := Go.Joins.ownsRow_form hown (by omega)
    have O1 : Hid (w1.ownsRow B 9 1 (.slice (some ⟨gv2, 0, none⟩) (turnV V b).length c2) (turnV V b).length ((turnV V b).map .string)) := own_low hown hz
    have H1 := Lib.hid (HF.out.below hb1)
    have B1 := Lib.hid (hb1.mono hz)
    have c0 := H1.out.c0
    have c0f := H1.out.blk.frozen 0
    clear hb1 hn hown h0 CT
    rw [hlen] at O1
    go_wp2
    go_end0
    refine ⟨rfl, ⟨gv2, c2, ?_⟩, B1.out.setCell H1.out.low _⟩
    have := H1.out.vol_ (V' := turnV V b) hlen HV.out (by rw [hlen]; exact O1.out)
    rw [hlen] at this
    rw [HG.out]
    exact this
  · have HG : Hid (giveV V m b = V) := by show _ = _; unfold giveV; rw [if_neg hd]
    have CT : Hid (Calls Tryz.prog 96 #[.slice (some ⟨gv, 0, none⟩) V.length c, .int .i64 b] w fun e w' => (∃ k : Int, e = .returned (.tuple #[.slice none 0 0, .int .i64 k]) ∧ (k == 0) = false) ∧ Below w.heap.size w w') := hT.mono fun e w' h => by
      obtain ⟨hb, h⟩ := h
      refine ⟨?_, hb⟩
      by_cases h1 : (b : Int) < (dataN m : Int) ∨ (V.length : Int) ≤ (b : Int)
      · rw [if_pos h1] at h; exact ⟨2, h, rfl⟩
      · rw [if_neg h1, Int.toNat_natCast] at h
        have h2 : bitL (blkL V 2) b = false := by
          cases hbt : bitL (blkL V 2) b with
          | false => rfl
          | true => exact absurd ⟨datB_iff.2 (by omega), hbt⟩ hd
        rw [if_pos h2] at h
        exact ⟨9, h, rfl⟩
    clear hT hd hv
    go_enter Tryz.func72, Tryz.ntmps72
    go_wp2_with fail
    refine CT.out.mono ?_
    rintro e w1 ⟨⟨k, rfl, hk⟩, hb1⟩
    have H1 := Lib.hid (HF.out.below hb1)
    have B1 := Lib.hid (hb1.mono hz)
    clear hb1 CT
    go_wp2
    go_end0
    rw [HG.out]
    exact ⟨rfl, ⟨gv, c, H1.out⟩, B1.out⟩
end
end Go.Proofs.YtoanladhikdcaaaGreat
