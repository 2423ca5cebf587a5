/-
  What inode.written computes.
-/
import Derived.Test.YtoanladhikdcaaaGreatFits
import Derived.Test.YtoanladhikdcaaaGreatRGeomU
import Derived.Lib.AppendStr
namespace Go.Proofs.YtoanladhikdcaaaGreat
open Go.RowKit Go.Shelf
set_option linter.unusedVariables false
set_option linter.unusedSimpArgs false
set_option maxRecDepth 100000
attribute [local go_sem] Oper.semAt_some
/-- the bytes of some of an inode's fields -/
def fbytes (l : List Nat) (pre : List (Fin 12)) : List UInt8 := pre.flatMap fun i => putL (l.getD (fof i) 0) (fsz i)
theorem fbytes_snoc (l : List Nat) (pre : List (Fin 12)) (i : Fin 12) : fbytes l (pre ++ [i]) = fbytes l pre ++ putL (l.getD (fof i) 0) (fsz i) := by unfold fbytes; simp
theorem fbytes_len (l : List Nat) : ∀ pre : List (Fin 12), (fbytes l pre).length ≤ 4 * pre.length
  | [] => by simp [fbytes]
  | i :: pre => by
    have h := fbytes_len l pre
    have hz := fsz_le i
    unfold fbytes at *
    simp only [List.flatMap_cons, List.length_append, putL_length, List.length_cons]
    omega
def byteL (bs : List UInt8) : List Value := bs.map fun x => Value.int .u8 (x.toNat : Int)
theorem fbytes_all_len (l : List Nat) : (fbytes l allF).length = 24 := by
  unfold fbytes
  simp only [allF, List.flatMap_cons, List.flatMap_nil, List.length_append, putL_length, List.length_nil]
  rfl
structure WrI (w : World) (gx gb : Nat) (l : List Nat) (pre : List (Fin 12)) (W : World) : Prop where
  fx : Blk W gx 35 (inoC l)
  fb : ∃ g cap, Blk W gb 58 #[.slice (some ⟨g, 0, none⟩) (fbytes l pre).length cap] ∧ W.ownsRow w.heap.size 5 1 (.slice (some ⟨g, 0, none⟩) (fbytes l pre).length cap) (fbytes l pre).length (byteL (fbytes l pre))
  below : Below w.heap.size w W
theorem own_own {β : Type} {B : Nat} {e : TypeId} {v : Value} {n : Nat} {xs : List Value} (s : β) {X Y : World} {row : Option Nat} (h : X.ownsRow B e 1 v n xs) (hg : X.grownBy Y row) (hr : ∀ r, row = some r → ∃ o : Obj, X.heap[r]? = some o ∧ o.isCells = false) : Y.ownsRow B e 1 v n xs := by
  refine h.kept hg ?_
  rcases h.2 with ⟨rfl, _⟩ | ⟨g, cap, cur, rfl, _, hgg, _⟩
  · exact .inl rfl
  · right
    intro e
    obtain ⟨o, h1, h2⟩ := hr g e.symm
    rw [hgg] at h1; cases h1; cases h2
theorem WrI.own {w : World} {gx gb : Nat} {l : List Nat} {B : Nat} (hB : w.heap.size ≤ B) : OwnFrom B (fun pre W => WrI w gx gb l pre W) := fun s X Y row hs hg hr =>
  have hr' : ∀ r, row = some r → ∃ o : Obj, X.heap[r]? = some o ∧ o.isCells = false := fun r e => (hr r e).2
  ⟨Blk.own gx _ (fun _ => _) s X Y row hs.fx hg hr', by
    obtain ⟨g, cap, h1, h2⟩ := hs.fb
    exact ⟨g, cap, Blk.own gb _ (fun _ => _) s X Y row h1 hg hr', own_own s h2 hg hr'⟩, ownFrom_below (Nat.le_refl _) hB s X Y row hs.below hg hr⟩
theorem WrI.later {w : World} {gx gb : Nat} {l : List Nat} {pre : List (Fin 12)} {X Y : World} (h : WrI w gx gb l pre X) (hb : Below X.heap.size X Y) : WrI w gx gb l pre Y :=
  ⟨h.fx.below hb h.fx.lt, by obtain ⟨g, cap, h1, h2⟩ := h.fb; exact ⟨g, cap, h1.below hb h1.lt, own_below h2 hb⟩, h.below.trans (hb.mono h.below.size)⟩
theorem own_blkT {W : World} {B : Nat} {e : TypeId} {g n cap : Nat} {xs : List Value} (h : W.ownsRow B e 1 (.slice (some ⟨g, 0, none⟩) n cap) n xs) : ∃ cur, Blk W g e cur := by
  rcases h.2 with ⟨h', _⟩ | ⟨g', cap', cur, h', _, hg, _⟩
  · cases h'
  · cases h'; exact ⟨cur, hg⟩
theorem byteL_str (bs : List UInt8) (b : List UInt8) : byteL bs ++ Lib.strCells ⟨b.toArray⟩ = byteL (bs ++ b) := by unfold byteL Lib.strCells; simp
/-- a block in which an inode's numbers have been put -/
def putInoB (s : ByteArray) (p : Nat) (l : List Nat) : ByteArray := ⟨(s.data.toList.take p ++ fbytes l allF ++ s.data.toList.drop (p + 24)).toArray⟩
set_option maxHeartbeats 4000000 in
theorem written_any (A : Option Addr) (c : Nat) (xs : List ByteArray) (b m q r d : Int) (n : Nat) (l : List Nat) (w : World) (hx : xs.length ≤ 1000000) (h1 : 1 ≤ n) (h2 : 3 + (n - 1) / 2 < xs.length) (hs : (xs.getD (3 + (n - 1) / 2) ⟨#[]⟩).size = 128) (h : RowAt w w.heap.size A (xs.map .string))
    (hl : l.length = 12) (hlt : ∀ z ∈ l, z < 4294967296) :
    Calls Tryz.prog 59 #[.slice A xs.length c, .agg #[.int .i64 b, .int .i64 m, .int .i64 q, .int .i64 r, .int .i64 3, .int .i64 d], .int .i64 n, .agg (inoC l)] w fun e w' =>
      (∃ v, e = .returned v ∧ OwnRow (xs.set (3 + (n - 1) / 2) (putInoB (xs.getD (3 + (n - 1) / 2) ⟨#[]⟩) ((n - 1) % 2 * 64) l)) w v w') ∧ Below w.heap.size w w' := by
  obtain ⟨k, hk⟩ : ∃ k, 3 + (n - 1) / 2 = k := ⟨_, rfl⟩
  obtain ⟨p, hp⟩ : ∃ p, (n - 1) % 2 * 64 = p := ⟨_, rfl⟩
  have PL := Lib.hid (place_any b m q r d n)
  rw [hk, hp] at PL
  rw [hk] at h2 hs ⊢
  rw [hp]
  have hp64 : p ≤ 64 := by omega
  have hn : n ≤ 4000000 := by omega
  have HH := Lib.hid h
  have HL := Lib.hid hl
  have HLT : Hid (∀ i : Fin 12, ∃ z, l.getD (fof i) 0 = z ∧ l[fof i]? = some z ∧ z < 4294967296) := fun i => by
    have hi : fof i < l.length := by rw [hl]; exact fof_lt i
    exact ⟨l[fof i], by simp [List.getD, hi], by simp [hi], hlt _ (List.getElem_mem hi)⟩
  obtain ⟨bb, oo, rfl, hbb, hc⟩ := row_get h k h2
  have HS : Hid (∀ s : ByteArray, xs.getD k ⟨#[]⟩ = s → xs.getD k ⟨#[]⟩ = s) := fun _ h => h
  obtain ⟨i0, q1, q2, q3, q4⟩ := info_parts u8_info
  have I0 := Lib.hid (And.intro q1 (And.intro q2 (And.intro q3 q4)))
  generalize hsx : xs.getD k ⟨#[]⟩ = s at hs hc ⊢
  clear h hk hp HS hl hlt q1 q2 q3 q4
  refine (callsIn_wide (n := 4)).1 ?_
  refine callsIn_of_wp_marks Tryz.func59 rfl trivial ?_
  simp only [Tryz.ntmps59, List.size_toArray, List.length_cons, List.length_nil, Nat.reduceAdd, Nat.reduceSub, Array.replicate_succ, Array.replicate_zero, List.push_toArray, List.append_toArray, List.nil_append, List.cons_append]
  refine wpIn_wide.2 ?_
  go_wp2_with fail
  refine (PL.out _ h1 hn).mono ?_
  rintro e w1 ⟨rfl, hb1⟩
  have B1 : Hid (Below w.heap.size w w1) := (((Below.refl w.heap.size w).alloc (Nat.le_refl _) _).alloc (by simp) _).trans (hb1.mono (by simp; omega))
  have G7 : Hid (Blk w1 (w.heap.size + 1) 35 (inoC l)) := by
    refine Blk.below ?_ hb1 (by simp)
    have := Blk.new (w.alloc (.cells #[.int .i64 b, .int .i64 m, .int .i64 q, .int .i64 r, .int .i64 3, .int .i64 d] 54)) 35 (inoC l)
    simp only [World.size_alloc] at this
    exact this
  have hz1 := B1.out.size
  clear hb1 PL
  go_wp2_with (refine wpList_make_own _ rfl (.const (.int .i64 0)) (.const (.int .i64 24)) 58 rfl w.heap.size 5 i0 (.int .u8 0) 1 Tryz.underlying58 I0.out.1 I0.out.2.1 I0.out.2.2.1 .i64 .i64 24 24 rfl rfl rfl (by rw [I0.out.2.2.2]; decide) (by decide) hz1 ?_; intro w2 own hg2; have O2 := Lib.hid own; have B2 := Lib.hid (B1.out.grown hg2 hz1 (by intro k hk; cases hk)); have G8 := Lib.hid (G7.out.grown hg2 (by simp)); have hz2 := B2.out.size; clear own hg2)
  refine (fields_any _ _).mono ?_
  rintro e w' ⟨rfl, rfl⟩
  go_wp2_with fail
  obtain ⟨W0, hW0⟩ : ∃ W0, (w2.alloc (Obj.cells #[Value.slice (some ⟨w1.heap.size, 0, none⟩) 0 24] 58)).alloc (Obj.cells #[Value.pointer (some ⟨w.heap.size + 1, 0, none⟩)] 103) = W0 := ⟨_, rfl⟩
  have HI0 : Hid (WrI w (w.heap.size + 1) w2.heap.size l [] W0) := by
    rw [← hW0]
    exact ⟨(G8.out.alloc _).alloc _, ⟨w1.heap.size, 24, (Blk.new w2 _ _).alloc _, (O2.out.alloc _).alloc _⟩, (B2.out.alloc hz2 _).alloc (by simp; omega) _⟩
  have HBn : Hid (Blk W0 (w2.heap.size + 1) 103 #[.pointer (some ⟨w.heap.size + 1, 0, none⟩)]) := by
    rw [← hW0]
    have := Blk.new (w2.alloc (Obj.cells #[Value.slice (some ⟨w1.heap.size, 0, none⟩) 0 24] 58)) 103 #[.pointer (some ⟨w.heap.size + 1, 0, none⟩)]
    simp only [World.size_alloc] at this
    exact this
  have hz0 : W0.heap.size = w2.heap.size + 2 := by rw [← hW0]; simp
  rw [hW0]
  have hgx : w.heap.size + 1 < w2.heap.size := G8.out.lt
  clear hW0 G7 G8 O2 B1 B2 hz1
  generalize w2.heap.size = z2 at *
  generalize w1.heap.size = z1 at *
  refine (wpIn_wide (n := 4)).1 ?_
  refine wpIn_rangeFunc_ownH rfl (by omega) (gf := 86) (lb := #[.pointer (some ⟨z2 + 1, 0, none⟩)]) rfl trivial (enters_of Tryz.func86 (by kernel_rfl) rfl)
    (fields_stops 3 (by omega) (z2 + 1) (w.heap.size + 1) W0 HBn.out)
    (fun h k => h.trans k) (fun W l o o' _ ho hc _ => KeepT.putObj W l o o' ho hc) (Below.refl _ _) (fun _ => rfl)
    (fun pre W => WrI w (w.heap.size + 1) z2 l pre W) (fun _ _ _ => False)
    (WrI.own (by omega)) (fun _ _ _ _ _ hs _ _ => hs) HI0.out
    (fun x a' W => ∃ Bx, Blk W Bx 106 #[.int .i64 (fsz x : Nat), .pointer (some ⟨w.heap.size + 1, fof x, none⟩)] ∧ a' = { tmps := #[Value.slice (some ⟨bb, oo, none⟩) xs.length c, Value.agg #[Value.int IntKind.i64 b, Value.int IntKind.i64 m, Value.int IntKind.i64 q, Value.int IntKind.i64 r, Value.int IntKind.i64 3, Value.int IntKind.i64 d], Value.int IntKind.i64 ↑n, Value.agg (inoC l), undef, Value.pointer (some ⟨w.heap.size, 0, none⟩), undef, Value.pointer (some ⟨w.heap.size + 1, 0, none⟩), Value.slice none 0 0, Value.int IntKind.i64 ↑k, Value.int IntKind.i64 ↑p, Value.pointer (some ⟨z2, 0, none⟩), .pointer (some ⟨Bx, 0, none⟩), undef, Value.tuple #[Value.int IntKind.i64 ↑k, Value.int IntKind.i64 ↑p], Value.agg #[Value.int IntKind.i64 b, Value.int IntKind.i64 m, Value.int IntKind.i64 q, Value.int IntKind.i64 r, Value.int IntKind.i64 3, Value.int IntKind.i64 d], Value.int IntKind.i64 ↑n, Value.tuple #[Value.int IntKind.i64 ↑k, Value.int IntKind.i64 ↑p], Value.int IntKind.i64 ↑k, Value.int IntKind.i64 ↑p, Value.slice (some ⟨z1, 0, none⟩) 0 24, Value.func (Fn.func 86) #[] #[Value.pointer (some ⟨z2 + 1, 0, none⟩)], .agg #[.int .i64 (fsz x : Nat), .pointer (some ⟨w.heap.size + 1, fof x, none⟩)], undef, undef, undef, undef, undef, undef, undef, undef, undef, undef, undef, undef, undef, undef, undef, undef, undef, undef, undef, undef, undef, undef, undef, undef, undef, undef, undef, undef, undef, undef, undef, undef, undef], defers := [] })
    (fun x a' s X Y row hs hg hr => by obtain ⟨Bx, h1, h2⟩ := hs; exact ⟨Bx, Blk.own Bx _ (fun (_ : Unit) => _) s X Y row h1 hg (fun r e => (hr r e).2), h2⟩)
    ?assign ?body ?done ?stop
  case assign =>
    rintro lp pre x W K hi hK
    dsimp only [fieldV]
    gi_wp2
    exact hK _ _ ((KeepsOthers.alloc _ _).from _) (KeepT.alloc _ _) (hi.later ((Below.refl _ _).alloc (Nat.le_refl _) _)) ⟨W.heap.size, Blk.new W _ _, rfl⟩
  case body =>
    rintro lp pre x a' W hlp ⟨r0, hr0⟩ hi ⟨Bx, bX, rfl⟩ hlt
    obtain ⟨z, hz, hzg, hzl⟩ := HLT.out x
    obtain ⟨g, cap, hB, hO⟩ := hi.fb
    have hbl := fbytes_len l pre
    have HSN := Lib.hid (fbytes_snoc l pre x)
    have hszl := fsz_le x
    rw [hz] at HSN
    have u3 : ∀ u : Ext W, u.val.cell? ⟨w.heap.size + 1, fof x, none⟩ = some (.int .i64 (z : Int)) := fun u => u.cell (hi.fx.cell (fof x) (by unfold inoC; simp [hzg]))
    have u4 : ∀ u : Ext W, u.val.cell? ⟨z2, 0, none⟩ = some (.slice (some ⟨g, 0, none⟩) (fbytes l pre).length cap) := fun u => u.cell (hB.cell 0 rfl)
    have HI := Lib.hid hi
    have BX := Lib.hid bX
    have BB := Lib.hid hB
    have OO := Lib.hid hO
    clear hr0 hi bX hz hzg hB hO
    generalize fsz x = sz at *
    generalize fof x = f at *
    generalize hob : fbytes l pre = ob at *
    have CP : Hid (∀ u : Ext W, Calls Tryz.prog 66 #[.int .u64 (z : Int), .int .i64 (sz : Int)] u.val fun e w' => e = .returned (.string ⟨(putL z sz).toArray⟩) ∧ Below u.val.heap.size u.val w') := fun u => put_any z sz u.val (by omega) (by omega)
    have HPS : Hid ((⟨(putL z sz).toArray⟩ : ByteArray).size = sz) := by show (putL z sz).toArray.size = sz; rw [List.size_toArray, putL_length]
    have HBS := Lib.hid (byteL_str ob (putL z sz))
    generalize hpt : (⟨(putL z sz).toArray⟩ : ByteArray) = pt at *
    have u1 : ∀ u : Ext W, u.val.cell? ⟨Bx, 1, none⟩ = some (.pointer (some ⟨w.heap.size + 1, f, none⟩)) := fun u => u.cell (BX.out.cell 1 rfl)
    have u2 : ∀ u : Ext W, u.val.cell? ⟨Bx, 0, none⟩ = some (.int .i64 (sz : Int)) := fun u => u.cell (BX.out.cell 0 rfl)
    have s1 : IntKind.u64.wrap (z : Int) = (z : Int) := IntWalk.u64_in _ (by omega)
    have HOB := Lib.hid hob
    have HPT := Lib.hid hpt
    clear hob hpt
    gi_wp2_with fail
    refine wpIn_round_tail 9 (by kernel_rfl) (by kernel_rfl) (by kernel_rfl) ?_
    simp only [List.take_succ_cons, List.take_zero, List.drop_succ_cons, List.drop_zero]
    repeat (go_big_quiet_step (first
      | (go_at_call 66; with_reducible exact Ext.call (CP.out _))))
    refine wpQuiet_nil ?_
    rintro _ ⟨u, rfl⟩
    have HI2 := Lib.hid (HI.out.later u.below)
    have BB2 := Lib.hid (BB.out.below u.below BB.out.lt)
    have OO2 := Lib.hid (own_below OO.out u.below)
    have UB := Lib.hid u.below
    generalize u.val = W2 at *
    clear u1 u2 u3 u4 s1 CP BB OO HI
    have c1 : W2.cell? ⟨z2, 0, none⟩ = some (.slice (some ⟨g, 0, none⟩) ob.length cap) := BB2.out.cell 0 rfl
    have hzz : w.heap.size ≤ W2.heap.size := HI2.out.below.size
    refine Lib.wpList_append_own_string _ rfl (.tmp 23) (.tmp 31) 58 9 rfl w.heap.size 5 i0 Tryz.underlying58 Tryz.underlying9 I0.out.1 I0.out.2.1 I0.out.2.2.1 I0.out.2.2.2 (.slice (some ⟨g, 0, none⟩) ob.length cap) ob.length (byteL ob) rfl OO2.out pt rfl (by rw [HPS.out]; unfold maxLen; omega) (by rw [HPS.out]; omega) hzz ?_
    intro v' W3 own3 hg3 hnil
    rcases Go.Joins.ownsRow_forms own3 with ⟨rfl, _⟩ | ⟨g', cap', rfl⟩
    · exact absurd (hnil.1 rfl).1 (by intro h; cases h)
    obtain ⟨cur, hcur⟩ := own_blkT OO2.out
    have hne : some z2 ≠ (Value.slice (some ⟨g, 0, none⟩) ob.length cap).ownBlock := by
      intro e
      exact BB2.out.ne hcur (by decide) (Option.some.inj e)
    have hne2 : some (w.heap.size + 1) ≠ (Value.slice (some ⟨g, 0, none⟩) ob.length cap).ownBlock := by
      intro e
      exact HI2.out.fx.ne hcur (by decide) (Option.some.inj e)
    have BB3 := Lib.hid (BB2.out.grown hg3 hne)
    have X3 := Lib.hid (HI2.out.fx.grown hg3 hne2)
    have B3 := Lib.hid (HI2.out.below.grown hg3 hzz (fun j e => (OO2.out.lt j e).1))
    have K3 : Hid (KeepT keepTy W W3) := (KeepT.below UB.out).trans (KeepT.grown hg3 (fun r e => by cases e; exact .inr ⟨_, _, hcur, rfl⟩))
    have Q3 : Hid (KeepsOthers W W3) := (keeps_below UB.out).trans (KeepsOthers.of_grownBy hg3 (fun j o e hj => by cases e; unfold Blk at hcur; rw [hcur] at hj; cases hj; rfl))
    have hln : ob.length + pt.size = (fbytes l (pre ++ [x])).length := by rw [HSN.out, List.length_append, putL_length, HPS.out]
    rw [HBS.out, ← HSN.out] at own3
    rw [hln] at own3 ⊢
    have O3 := Lib.hid own3
    clear own3 hg3 hnil hcur hne hne2 hln c1 BB2 OO2 HI2 UB
    have c1 : W3.cell? ⟨z2, 0, none⟩ = some (.slice (some ⟨g, 0, none⟩) ob.length cap) := BB3.out.cell 0 rfl
    have c2 : W3.frozen? ⟨z2, 0, none⟩ = false := BB3.out.frozen 0
    go_frame
    go_wp2_with fail
    refine ⟨by simp, ?_⟩
    gi_wp2
    have hg4 : W3.grownBy (W3.setCell ⟨z2, 0, none⟩ (.slice (some ⟨g', 0, none⟩) (fbytes l (pre ++ [x])).length cap')) (some z2) := only_setCell (World.grownBy.refl W3 _) 0 _
    refine ⟨(Q3.out.trans (KeepsOthers.setCell _ _ _)).from _, K3.out.trans (KeepT.set_ BB3.out rfl 0 _), X3.out.grown hg4 (by intro e; have := Option.some.inj e; omega), ⟨g', cap', BB3.out.set_ 0 _, ?_⟩, B3.out.setCell (by simp; omega) _⟩
    refine World.ownsRow.kept O3.out hg4 ?_
    right
    intro e
    obtain ⟨cur, hcur⟩ := own_blkT O3.out
    exact hcur.ne BB3.out (by decide) (Option.some.inj e)
  case done =>
    rintro D ys W hD rfl hi hK
    obtain ⟨g, cap, hB, hO⟩ := hi.fb
    have hfl := fbytes_all_len l
    rw [hfl] at hB hO
    have HI := Lib.hid hi
    have HK := Lib.hid hK
    have BB := Lib.hid hB
    have OO := Lib.hid hO
    have HFL := Lib.hid hfl
    clear hi hK hB hO hfl
    obtain ⟨j0, q1, q2, q3, q4⟩ := info_parts str_info
    have J0 := Lib.hid (And.intro q1 (And.intro q2 (And.intro q3 q4)))
    have R0 := Lib.hid ((HH.out.below HI.out.below).mono HI.out.below.size)
    have hzW := HI.out.below.size
    have HC : Hid (∀ j u, (xs.map Value.string)[j]? = some u → W.cell? ((⟨bb, oo, none⟩ : Addr).add j) = some u) := fun j u hu => by
      have : (⟨bb, oo, none⟩ : Addr).add j = ⟨bb, oo + j, none⟩ := by unfold Addr.add; split <;> simp_all
      obtain ⟨b', o', hA, _, hcc⟩ := R0.out.at_ (by simp; omega)
      cases hA
      rw [this]; exact hcc j u hu
    have H1 := Lib.hid (str_cells xs)
    have HM : Hid (0 + xs.length ≤ maxLen) := by show _ ≤ _; unfold maxLen; omega
    have HY : Hid ((0 + xs.length) * 16 ≤ 140737488355328) := by show _ ≤ _; omega
    clear q1 q2 q3 q4
    go_wp2_with (at_builtin; refine wpList_append_own _ rfl (.const (.slice none 0 0)) (.tmp 33) 22 rfl w.heap.size 9 j0 (.string ⟨#[]⟩) 1 16 Tryz.underlying22 J0.out.1 J0.out.2.1 J0.out.2.2.1 J0.out.2.2.2 rfl (by decide) _ 0 [] rfl (World.ownsRow_nil _ _ _ _) ⟨bb, oo, none⟩ xs.length c (xs.map .string) rfl (by rw [List.length_map, Nat.mul_one]) HC.out H1.out HM.out HY.out hzW ?_; intro v W2 own hg hv)
    rw [Nat.zero_add, List.nil_append] at own
    have hg0 : W.grownBy W2 none := hg
    obtain ⟨gr, cr, rfl⟩ := Go.Joins.ownsRow_form own (by omega)
    have OR := Lib.hid own
    have B2 := Lib.hid (HI.out.below.grown hg0 hzW (by intro k hk; cases hk))
    have BB2 := Lib.hid (BB.out.grown hg0 (by simp))
    have OO2 := Lib.hid (World.ownsRow.kept OO.out hg0 (.inr (by intro h; cases h)))
    have HK2 : Hid (W2.heap[D]? = some (.deferred (some []))) := (hg0.block D (Array.getElem?_eq_some_iff.1 HK.out).1 (by simp)).trans HK.out
    have hgr : w.heap.size ≤ gr := (own.lt gr rfl).1
    clear own hg hg0 hv BB OO HK HC H1 HM HY J0 R0
    obtain ⟨st, hst⟩ : ∃ st : ByteArray, (⟨(fbytes l allF).toArray⟩ : ByteArray) = st := ⟨_, rfl⟩
    have hstz : st.size = 24 := by rw [← hst]; show (fbytes l allF).toArray.size = 24; rw [List.size_toArray, HFL.out]
    have hcv : ∀ u : Ext W2, (convert 58 9 (.slice (some ⟨g, 0, none⟩) 24 cap)).run Tryz.prog u.val = .ok (.string st) u.val := fun u => by
      have hlen : (fbytes l allF).length = 24 := HFL.out
      have := run_convert_bytes_arg (P := Tryz.prog) u.val 58 5 Tryz.underlying58 Tryz.underlying5 g 0 24 cap ((fbytes l allF).map fun x => (x.toNat : Int)) (by simpa using hlen) (fun i hi => by
        rw [Nat.zero_add]
        refine u.cell ?_
        rw [OO2.out.cellAt i (by omega)]
        unfold byteL
        simp only [List.getElem?_map, List.getD]
        rw [List.getElem?_eq_getElem (by omega)]; rfl) 9 Tryz.underlying9
      rw [this, ← hst]
      congr 2
      unfold strOfNums
      apply WideShapes.bytes_inj
      rw [List.map_map, List.toList_toArray]
      have e : ((fun n : Int => UInt8.ofNat n.toNat) ∘ fun x : UInt8 => (x.toNat : Int)) = id := by funext x; simp
      rw [e, List.map_id]
    have HST := Lib.hid hst
    clear hst
    have ze : ∀ a b, a ≤ b → b ≤ 128 → (s.extract a b).size = b - a := fun a b h1 h2 => by rw [ByteArray.size_extract]; omega
    have ad1 := fun (w : World) => run_string_add_sum (P := Tryz.prog) (w := w) (s.extract 0 p) st (by rw [ze 0 p (by omega) (by omega)]; omega)
    have ad2 := fun (w : World) => run_string_add_sum (P := Tryz.prog) (w := w) (s.extract 0 p ++ st) (s.extract (p + 24) s.size) (by rw [ByteArray.size_append, ze 0 p (by omega) (by omega), ze (p + 24) s.size (by omega) (by omega)]; omega)
    clear ze
    have u1 : ∀ u : Ext W2, u.val.cell? ⟨bb, oo + k, none⟩ = some (.string s) := fun u => u.cell ((B2.out.cell (p := ⟨bb, oo + k, none⟩) hbb).trans hc)
    have u2 : ∀ u : Ext W2, u.val.cell? ⟨z2, 0, none⟩ = some (.slice (some ⟨g, 0, none⟩) 24 cap) := fun u => u.cell (BB2.out.cell 0 rfl)
    have s1 : IntKind.i64.wrap ((p : Int) + 24) = (p : Int) + 24 := IntWalk.i64_in _ (by omega)
    have s2 : (0 : Int) ≤ (p : Int) + 24 := by omega
    have s3 : ((p : Int) + 24).toNat = p + 24 := by omega
    have s4 : (p : Int) ≤ (s.size : Int) := by omega
    have s5 : (p : Int) + 24 ≤ (s.size : Int) := by omega
    have s6 : (0 : Int) ≤ (k : Int) := by omega
    have s7 : (k : Int) < (xs.length : Int) := by omega
    have s8 : (0 : Int) ≤ (p : Int) := by omega
    have HSX := Lib.hid hsx
    clear hsx hs
    go_wp2_with fail
    refine wp_region_ext_tail 20 (by kernel_rfl) (by kernel_rfl) ?_
    simp only [List.take_succ_cons, List.take_zero, List.drop_succ_cons, List.drop_zero]
    repeat (go_big_quiet_step (fail))
    refine wpQuiet_nil ?_
    rintro _ ⟨u, rfl⟩
    have OR3 := Lib.hid (own_below OR.out u.below)
    have B3 := Lib.hid (B2.out.trans (u.below.mono B2.out.size))
    have HK3 : Hid (u.val.heap[D]? = some (.deferred (some []))) := (u.below.block D (Array.getElem?_eq_some_iff.1 HK2.out).1).trans HK2.out
    generalize u.val = W3 at *
    clear hcv u1 u2 ad1 ad2 s1 s2 s3 s4 s5 s8
    have c1 : W3.cell? ⟨gr, k, none⟩ = some (.string xs[k]) := by
      rw [OR3.out.cellAt k (by omega)]; simp [h2]
    have c2 : W3.frozen? ⟨gr, k, none⟩ = false := OR3.out.frozenAt k
    generalize hnb : s.extract 0 p ++ st ++ s.extract (p + 24) s.size = nb at *
    have hnb2 : putInoB s p l = nb := by
      rw [← hnb, ← HST.out]
      unfold putInoB
      apply WideShapes.bytes_inj
      have e1 := Lib.extract_data s 0 p
      have e2 : (s.extract (p + 24) s.size).data.toList = s.data.toList.drop (p + 24) := by
        rw [Lib.extract_data, List.take_of_length_le]
        rw [List.length_drop, Array.length_toList]; exact Nat.le_refl _
      simp only [ByteArray.data_append, Array.toList_append, e1, e2, List.drop_zero, Nat.sub_zero]
    have HNB := Lib.hid hnb2
    obtain ⟨o1, o2⟩ := World.ownsRow.stored OR3.out k (.string nb)
    have OR4 := Lib.hid o1
    have hK4 : (W3.setCell ⟨gr, k, none⟩ (.string nb)).heap[D]? = some (.deferred (some [])) := (o2.block D (Array.getElem?_eq_some_iff.1 HK3.out).1 (by
      intro e
      have e' : D = gr := Option.some.inj e
      obtain ⟨cur, hcur⟩ := own_blkT OR3.out
      have := HK3.out
      rw [e'] at this
      unfold Blk at hcur
      rw [this] at hcur; cases hcur)).trans HK3.out
    have HK4 := Lib.hid hK4
    have B4 : Hid (Below w.heap.size w (W3.setCell ⟨gr, k, none⟩ (.string nb))) := B3.out.setCell hgr _
    clear o1 o2 hK4 hnb hnb2
    go_wp2
    refine ⟨by simp, .inl ⟨_, _, rfl, run_takeDeferred HK4.out, ?_⟩⟩
    refine ⟨_, results_tmp rfl _ _ _, ⟨_, rfl, ?_⟩, B4.out.trans (belowK_b (w := W0) (by omega) _ D _ _ (by omega) HK4.out rfl rfl)⟩
    unfold OwnRow
    rw [HNB.out, List.length_set, List.map_set]
    exact own_own () OR4.out (grownBy_putObj' _ D _) (fun r e => by cases e; exact ⟨_, HK4.out, rfl⟩)
  case stop =>
    rintro D c pre W _ _ h _
    exact h.elim
end Go.Proofs.YtoanladhikdcaaaGreat
