/-
  What the document's Lay and Store do.
-/
import Derived.Test.YtcjakmnplkeldaaDoorRStore
import Derived.Test.YtcjakmnplkeldaaDoorWaist
import Derived.Test.YtcjakmnplkeldaaDoorCpuSpec
import Derived.Laws.AppendOwnNone
namespace Go.Proofs.YtcjakmnplkeldaaDoor
open Go.RowKit
set_option linter.unusedVariables false
set_option linter.unusedSimpArgs false
set_option maxRecDepth 100000
/-- append of a whole row of strings to what is empty -/
theorem append_rows {ops : Array Oper} {rest : List Oper} {o : Oper} {a : Act} {w : World} {Q : Exit → Act → World → Prop} (hgd : o.guard = none) (s x : Operand) (ho : o.op = .call { callee := .builtin .append, args := #[s, x], argTypes := #[30, 30] })
    (base : Nat) (v : Value) (hs : a.eval s = v) (hown : w.ownsRow base 9 1 v 0 []) (A : Option Addr) (n c : Nat) (xs : List ByteArray) (hx : a.eval x = .slice A n c) (hn : xs.length = n) (hr : RowAt w w.heap.size A (xs.map .string)) (h0 : A = none → n = 0 ∧ c = 0) (hmax : n ≤ 1000000) (hbase : base ≤ w.heap.size)
    (h : ∀ v' w', w'.ownsRow base 9 1 v' n (xs.map .string) → w.grownBy w' v.ownBlock → wpList Tryd.prog ops Q rest (a.put o.dst v') w') : wpList Tryd.prog ops Q (o :: rest) a w := by
  obtain ⟨i0, hi, hz0, hz1, hz2⟩ := info_parts str_info
  cases A with
  | none =>
    obtain ⟨rfl, rfl⟩ := h0 rfl
    obtain rfl : xs = [] := List.length_eq_zero_iff.1 hn
    exact wpList_append_own_none hgd s x 30 ho base 9 i0 1 Tryd.underlying30 hi v 0 [] hs hown hx (h v w hown (World.grownBy.refl w _))
  | some ad =>
    refine wpList_append_own w hgd s x 30 ho base 9 i0 (.string ⟨#[]⟩) 1 16 Tryd.underlying30 hi hz0 hz1 hz2 rfl (by decide) v 0 [] hs hown ad n c (xs.map .string) hx (by simp [hn]) (fun j u hu => ?_) (fun u hu => ?_) (by unfold maxLen; omega) (by omega) hbase (fun v' w' h1 h2 _ => h v' w' (by simpa using h1) h2)
    · rcases hr with hr | ⟨b, o, hA, hb, hc⟩
      · rw [hr] at hu; simp at hu
      · cases hA; rw [add_addr]; exact hc j u hu
    · simp at hu; obtain ⟨y, _, rfl⟩ := hu; rfl
theorem set_eq (A : Option Addr) (c n : Nat) (xs : List ByteArray) (l : List Pte) (a b : Nat) (za zb : Int) (r : Option (List ByteArray)) (w : World) (hn : xs.length = n) (hza : za = (a : Int)) (hzb : zb = (b : Int)) (hr : setR xs l a b = r) (hx : n ≤ 1000000) (h : RowAt w w.heap.size A (xs.map .string)) (hl : l.length = 16) (ha : a < 4294967296) (hb : b < 256) :
    Calls Tryd.prog 70 #[.slice A n c, .agg (pteL l).toArray, .int .u32 za, .int .u8 zb] w (StorePost r w) := by
  subst hza hzb hr hn; exact set_any A c xs l a b w hx h hl ha hb
def LayH (w : World) (gs n : Nat) (l : List Pte) (R : Nat → List ByteArray) (ok : Bool) (m : Nat) (o j : Value) (wr : World) : Prop := ∃ i : Nat, i ≤ m ∧ j = .int .i64 i ∧ (ok = false → i = 0) ∧ Hid (0 < i → ∃ g cap, o = .slice (some ⟨g, 0, none⟩) n cap) ∧ Hid (wr.ownsRow w.heap.size 9 1 o n ((R i).map .string)) ∧ Hid (Blk wr gs 29 (pteL l).toArray) ∧ Hid (Below w.heap.size w wr)
def LayPost (ok : Bool) (ys : List ByteArray) (w : World) (e : Ending) (w' : World) : Prop := StorePost (if ok then some ys else none) w e w'
set_option maxHeartbeats 2000000 in
theorem rlay_core (A : Option Addr) (c : Nat) (xs : List ByteArray) (l : List Pte) (a : Nat) (d : ByteArray) (ok : Bool) (R : Nat → List ByteArray) (w : World) (hx : xs.length ≤ 1000000) (h : RowAt w w.heap.size A (xs.map .string)) (h0 : A = none → xs.length = 0 ∧ c = 0) (hl : l.length = 16)
    (hRl : ∀ i, (R i).length = xs.length) (hR0 : R 0 = xs) (hS : ∀ i (hi : i < d.size), setR (R i) l (a + i) d[i].toNat = if ok then some (R (i + 1)) else none) (hd1 : 1 ≤ d.size) (hd4 : d.size ≤ 4) (hal : a + d.size ≤ 2048) :
    Calls Tryd.prog 69 #[.slice A xs.length c, .agg (pteL l).toArray, .int .u32 a, .string d] w (LayPost ok (R d.size) w) := by
  have HR := Lib.hid h
  have HL := Lib.hid hl
  have H0 := Lib.hid h0
  have HRL := Lib.hid hRl
  have HR0 := Lib.hid hR0
  have HSS := Lib.hid hS
  obtain ⟨n, hn⟩ : ∃ n, xs.length = n := ⟨_, rfl⟩
  rw [hn] at hx H0 HRL ⊢
  have HN := Lib.hid hn
  have t1 : decide ((2048 : Int) < (d.size : Int)) = false := by simp; omega
  have t2 : decide ((2048 : Int) < (a : Int)) = false := by simp; omega
  have t3 : decide ((2048 : Int) < (a : Int) + (d.size : Int)) = false := by simp; omega
  clear h hl h0 hRl hR0 hS hn
  have G0 : Hid (Blk ((w.alloc (.cells (pteL l).toArray 29)).alloc (.cells #[] 9)) w.heap.size 29 (pteL l).toArray) := (Blk.new w _ _).alloc _
  have B0 : Hid (Below w.heap.size w ((w.alloc (.cells (pteL l).toArray 29)).alloc (.cells #[] 9))) := ((Below.refl _ _).alloc (Nat.le_refl _) _).alloc (by simp) _
  have E0 : Hid (((w.alloc (.cells (pteL l).toArray 29)).alloc (.cells #[] 9)).ownsRow (w.heap.size + 1) 9 1 (.slice (some ⟨w.heap.size + 1, 0, none⟩) 0 0) 0 []) := by
    refine ⟨by simp, .inr ⟨w.heap.size + 1, 0, #[], rfl, Nat.le_refl _, ?_, Nat.le_refl _, by unfold maxLen; omega, rfl, rfl⟩⟩
    have := heap_alloc_new (w.alloc (.cells (pteL l).toArray 29)) (.cells #[] 9)
    rwa [World.size_alloc] at this
  have HB : Hid (w.heap.size + 1 ≤ ((w.alloc (.cells (pteL l).toArray 29)).alloc (.cells #[] 9)).heap.size) := by show _ ≤ _; simp
  go_enter Tryd.func69, Tryd.ntmps69
  go_wp2_with (first | (at_builtin; refine append_rows rfl (.tmp 29) (.tmp 30) rfl (w.heap.size + 1) _ rfl E0.out A n c xs rfl HN.out ((HR.out.below B0.out).mono B0.out.size) H0.out hx HB.out ?_; intro v' w3 hown hgrow))
  have OW := Lib.hid hown
  have hgr : ((w.alloc (.cells (pteL l).toArray 29)).alloc (.cells #[] 9)).grownBy w3 (some (w.heap.size + 1)) := hgrow
  have G1 := Lib.hid (G0.out.grown hgr (ne_blk (by omega)))
  have B1 := Lib.hid (B0.out.grown hgr B0.out.size (fun k hk => by cases hk; omega))
  clear hown hgrow hgr E0 HB G0 B0
  go_loopw [10, 11] (fun o j wr => LayH w w.heap.size n l R ok d.size o j wr) (fun _ j _ => d.size - (intOf j).toNat)
  case atStart => exact ⟨0, Nat.zero_le _, rfl, fun _ => rfl, fun h => absurd h (by omega), by rw [HR0.out]; exact own_base OW.out (by omega), G1.out, B1.out⟩
  case round =>
    obtain ⟨i, hi, rfl, hok, HG, OWI, GI, BI⟩ := hrel
    have HOK := Lib.hid hok
    obtain ⟨A2, c2, rfl, hr2, h02⟩ := own_read OWI.out
    have RI := Lib.hid hr2
    clear hok hr2 h02
    by_cases hlt : i < d.size
    · have HSI := Lib.hid (HSS.out i hlt)
      obtain ⟨b, hb⟩ : ∃ b, d[i].toNat = b := ⟨_, rfl⟩
      have hb2 : b < 256 := by rw [← hb]; exact UInt8.toNat_lt _
      rw [hb] at HSI
      have k1 : IntKind.u32.wrap (i : Int) = (i : Int) := IntWalk.u32_in _ (by omega)
      have k2 : IntKind.u32.wrap ((a : Int) + (i : Int)) = (a : Int) + (i : Int) := IntWalk.u32_in _ (by omega)
      have k3 : (i : Int) < (d.size : Int) := by omega
      have k4 : (0 : Int) ≤ (i : Int) := by omega
      have CS := Lib.hid (fun w h => set_eq A2 c2 n (R i) l (a + i) b ((a : Int) + (i : Int)) b _ w (HRL.out i) (by omega) rfl HSI.out hx h HL.out (by omega) hb2)
      go_wp2_with fail
      refine wp_region_waist 9 (by kernel_rfl) (by kernel_rfl) ?_
      simp only [List.take_succ_cons, List.take_zero, List.drop_succ_cons, List.drop_zero]
      repeat (first
        | go_big_quiet_step (fail)
        | (go_big_quiet_want; refine quiet_load_blk 29 (.tmp 5) w.heap.size 29 (pteL l).toArray _ rfl rfl (by rintro _ ⟨u, rfl⟩; exact GI.out.below u.below GI.out.lt) Tryd.underlying29 rfl (space_size HL.out) ?_; go_frame; go_big_quiet_on))
      refine wpQuiet_nil ?_
      rintro _ ⟨u, rfl⟩
      have ub := Lib.hid u.below
      replace RI := Lib.hid (RI.out.ext u)
      replace GI := Lib.hid (GI.out.below ub.out GI.out.lt)
      replace BI := Lib.hid (BI.out.trans (ub.out.mono BI.out.size))
      clear ub OWI
      generalize u.val = w5 at *
      clear u
      go_wp2_with fail
      cases ok with
      | false =>
        refine (CS.out _ RI.out).mono ?_
        rintro e w6 hp
        obtain ⟨rfl, hb6⟩ : e = .returned (.tuple #[.slice none 0 0, .bool false]) ∧ Below w5.heap.size w5 w6 := hp
        replace BI := Lib.hid (BI.out.trans (hb6.mono BI.out.size))
        clear hb6 CS HSI HSS HOK HG
        go_wp2
        repeat (go_big_quiet_step (fail))
        refine wpQuiet_nil ?_
        rintro _ ⟨u, rfl⟩
        have ub := Lib.hid u.below
        replace BI := Lib.hid (BI.out.trans (ub.out.mono BI.out.size))
        clear ub
        generalize u.val = w7 at *
        clear u
        go_wp2
        go_ret2
        exact ⟨rfl, BI.out⟩
      | true =>
        refine (CS.out _ RI.out).mono ?_
        rintro e w6 hp
        obtain ⟨g, cap, he, own, hb6⟩ : ∃ g c, e = .returned (.tuple #[.slice (some ⟨g, 0, none⟩) (R (i + 1)).length c, .bool true]) ∧ w6.ownsRow w5.heap.size 9 1 (.slice (some ⟨g, 0, none⟩) (R (i + 1)).length c) (R (i + 1)).length ((R (i + 1)).map .string) ∧ Below w5.heap.size w5 w6 := hp
        rw [HRL.out] at he own
        subst he
        have OWN := Lib.hid (own_base own BI.out.size)
        replace GI := Lib.hid (GI.out.below hb6 GI.out.lt)
        replace BI := Lib.hid (BI.out.trans (hb6.mono BI.out.size))
        clear hb6 own CS HSI HSS HOK HG RI
        go_wp2
        repeat (go_big_quiet_step (fail))
        refine wpQuiet_nil ?_
        rintro _ ⟨u, rfl⟩
        have ub := Lib.hid u.below
        replace OWN := Lib.hid (own_below OWN.out ub.out)
        replace GI := Lib.hid (GI.out.below ub.out GI.out.lt)
        replace BI := Lib.hid (BI.out.trans (ub.out.mono BI.out.size))
        clear ub
        generalize u.val = w7 at *
        clear u
        go_wp2
        go_roundw
        case rel => exact ⟨i + 1, by omega, by go_num, (fun h => absurd h (by decide)), (fun _ => ⟨g, cap, rfl⟩), OWN.out, GI.out, BI.out⟩
        case measure => simp [intOf]; omega
    · have hie : i = d.size := by omega
      obtain rfl : ok = true := by
        cases ok with
        | true => rfl
        | false => have := HOK.out rfl; omega
      obtain ⟨g, cap, hg⟩ := HG.out (by omega)
      have HGG := Lib.hid hg
      have HRD : Hid (wr.ownsRow w.heap.size 9 1 (.slice A2 n c2) n ((R d.size).map .string)) := by rw [← hie]; exact OWI.out
      have kn : ¬ (i : Int) < (d.size : Int) := by omega
      clear hg OWI hie hlt HSS RI
      go_wp2
      go_ret2
      have e := HGG.out
      injection e with e1 e2 e3
      subst e1 e3
      refine ⟨g, c2, by rw [HRL.out]; rfl, by rw [HRL.out]; exact HRD.out, BI.out⟩
theorem lay_bytes {s d : ByteArray} {p : Nat} (h : p + d.size ≤ s.size) : (putB s p d).data.toList = s.data.toList.take p ++ d.data.toList ++ s.data.toList.drop (p + d.size) := by
  unfold putB
  simp only [ByteArray.data_append, Array.toList_append]
  rw [Lib.extract_data, Lib.extract_data, List.drop_zero, Nat.sub_zero]
  congr 1
  rw [List.take_of_length_le]
  simp
theorem lay_size {s d : ByteArray} {p : Nat} (h : p + d.size ≤ s.size) : (putB s p d).size = s.size := by
  unfold putB
  simp [ByteArray.size_append, ByteArray.size_extract]
  omega
theorem lay_step {s d : ByteArray} {p i : Nat} (h : p + d.size ≤ s.size) (hi : i < d.size) : putB (putB s p (d.extract 0 i)) (p + i) (one1 d[i].toNat) = putB s p (d.extract 0 (i + 1)) := by
  have hz : (d.extract 0 i).size = i := by simp; omega
  have hz1 : (d.extract 0 (i + 1)).size = i + 1 := by simp; omega
  have ho : (one1 d[i].toNat).size = 1 := rfl
  have hl : s.data.toList.length = s.size := by simp
  have hdl : d.data.toList.length = d.size := by simp
  have h1 : p + (d.extract 0 i).size ≤ s.size := by omega
  have h2 := lay_size h1
  apply WideShapes.bytes_inj
  show (putB (putB s p (d.extract 0 i)) (p + i) (one1 d[i].toNat)).data.toList = (putB s p (d.extract 0 (i + 1))).data.toList
  rw [lay_bytes (by rw [h2, ho]; omega), lay_bytes h1, lay_bytes (by rw [hz1]; omega), hz, hz1, ho]
  have e1 : (d.extract 0 i).data.toList = d.data.toList.take i := by rw [Lib.extract_data]; simp
  have e2 : (d.extract 0 (i + 1)).data.toList = d.data.toList.take (i + 1) := by rw [Lib.extract_data]; simp
  have e3 : (one1 d[i].toNat).data.toList = [d[i]] := by
    show [UInt8.ofNat d[i].toNat] = [d[i]]
    rw [UInt8.ofNat_toNat]
  have lt : (s.data.toList.take p).length = p := by rw [List.length_take]; omega
  have ld : (d.data.toList.take i).length = i := by rw [List.length_take]; omega
  rw [e1, e2, e3, List.take_succ_eq_append_getElem (by omega)]
  have e4 : (List.take p s.data.toList ++ List.take i d.data.toList ++ List.drop (p + i) s.data.toList).take (p + i) = List.take p s.data.toList ++ List.take i d.data.toList := by
    rw [List.take_append_of_le_length (by rw [List.length_append, lt, ld]; omega), List.take_of_length_le (by rw [List.length_append, lt, ld]; omega)]
  have e5 : (List.take p s.data.toList ++ List.take i d.data.toList ++ List.drop (p + i) s.data.toList).drop (p + i + 1) = List.drop (p + (i + 1)) s.data.toList := by
    rw [List.drop_append, List.drop_of_length_le (by rw [List.length_append, lt, ld]; omega), List.nil_append, List.length_append, lt, ld, List.drop_drop]
    congr 1
    omega
  rw [e4, e5]
  simp
  rfl
/-- the rows of Lay, byte by byte -/
def layRow (xs : List ByteArray) (f : Int) (p : Nat) (d : ByteArray) (i : Nat) : List ByteArray := match frame xs f with
  | some s => xs.set f.toNat (putB s p (d.extract 0 i))
  | none => xs
theorem layRow_len (xs : List ByteArray) (f : Int) (p : Nat) (d : ByteArray) (i : Nat) : (layRow xs f p d i).length = xs.length := by unfold layRow; split <;> simp
theorem putB_none (s d : ByteArray) (p : Nat) (h : p ≤ s.size) : putB s p (d.extract 0 0) = s := by
  apply WideShapes.bytes_inj
  show (putB s p (d.extract 0 0)).data.toList = s.data.toList
  have hz : (d.extract 0 0).size = 0 := by simp
  rw [lay_bytes (by omega), hz]
  have : (d.extract 0 0).data.toList = [] := by rw [Lib.extract_data]; simp
  rw [this]; simp
theorem layRow_zero {xs : List ByteArray} {f : Int} {p : Nat} {d : ByteArray} (hp : p ≤ 128) : layRow xs f p d 0 = xs := by
  unfold layRow
  cases hf : frame xs f with
  | none => rfl
  | some s =>
    obtain ⟨k, rfl, hk, hks, hs⟩ := frame_some hf
    show xs.set _ (putB s p (d.extract 0 0)) = xs
    rw [putB_none s d p (by omega), Int.toNat_natCast, ← hks, List.set_getElem_self]
theorem lay_sets {xs : List ByteArray} {l : List Pte} {a p : Nat} {f : Int} {d : ByteArray} (hsz : d.size = 1 ∨ d.size = 4) (h : findR l a d.size true = some (f, p)) (i : Nat) (hi : i < d.size) :
    setR (layRow xs f p d i) l (a + i) d[i].toNat = if (frame xs f).isSome then some (layRow xs f p d (i + 1)) else none := by
  have hp := findR_place hsz h
  unfold setR
  rw [findR_each hsz h i hi]
  dsimp only
  cases hf : frame xs f with
  | none =>
    have e : layRow xs f p d i = xs := by unfold layRow; rw [hf]
    rw [e, hf]; rfl
  | some s =>
    obtain ⟨k, rfl, hk, hks, hs⟩ := frame_some hf
    have e : ∀ j, layRow xs (k : Int) p d j = xs.set k (putB s p (d.extract 0 j)) := fun j => by unfold layRow; rw [hf]; rfl
    have hz : (putB s p (d.extract 0 i)).size = 128 := by rw [lay_size (by simp; omega)]; exact hs
    have hfr : frame (xs.set k (putB s p (d.extract 0 i))) (k : Int) = some (putB s p (d.extract 0 i)) := by
      unfold frame
      rw [if_pos (by omega), Int.toNat_natCast, List.getElem?_set, if_pos rfl, if_pos hk]
      simp only
      rw [if_pos hz]
    rw [e, e, hfr]
    dsimp only
    rw [Int.toNat_natCast, List.set_set, lay_step (by omega) hi]
    rfl
theorem rlay_any (A : Option Addr) (c : Nat) (xs : List ByteArray) (l : List Pte) (a : Nat) (d : ByteArray) (f : Int) (p : Nat) (w : World) (hx : xs.length ≤ 1000000) (h : RowAt w w.heap.size A (xs.map .string)) (h0 : A = none → xs.length = 0 ∧ c = 0) (hl : l.length = 16) (hsz : d.size = 1 ∨ d.size = 4) (hf : findR l a d.size true = some (f, p)) :
    Calls Tryd.prog 69 #[.slice A xs.length c, .agg (pteL l).toArray, .int .u32 a, .string d] w (LayPost (frame xs f).isSome (layRow xs f p d d.size) w) := by
  have hal : a + d.size ≤ 2048 := by
    unfold findR at hf
    split at hf
    · split at hf
      · rename_i hh
        obtain ⟨h1, h2, _⟩ := hh
        rcases hsz with h | h <;> rw [h] at h2 ⊢ <;> omega
      · cases hf
    · cases hf
  exact rlay_core A c xs l a d (frame xs f).isSome (layRow xs f p d) w hx h h0 hl (layRow_len xs f p d) (layRow_zero (by have := findR_place hsz hf; omega)) (lay_sets hsz hf) (by rcases hsz with h | h <;> omega) (by rcases hsz with h | h <;> omega) hal
theorem putL_snoc14 (n k : Nat) : putL n (k + 1) = putL n k ++ [UInt8.ofNat (bt n k)] := by
  unfold putL; rw [List.range_succ, List.map_append]; rfl
theorem extract_all (d : ByteArray) : d.extract 0 d.size = d := by
  apply WideShapes.bytes_inj
  show (d.extract 0 d.size).data.toList = d.data.toList
  rw [Lib.extract_data, List.drop_zero, Nat.sub_zero, List.take_of_length_le]
  simp
def StoH (w : World) (gs sz v : Nat) (l : List Pte) (vv dd j : Value) (wr : World) : Prop := ∃ i : Nat, i ≤ sz ∧ j = .int .i64 i ∧ (∃ q : Nat, vv = .int .u32 q ∧ q < 4294967296 ∧ Hid (q = v / 256 ^ i)) ∧ (∃ st : ByteArray, dd = .string st ∧ st.size ≤ i ∧ Hid (st = ⟨(putL v i).toArray⟩)) ∧ Hid (Blk wr gs 29 (pteL l).toArray) ∧ Hid (Below w.heap.size w wr)
set_option maxHeartbeats 2000000 in
theorem rstore_any (A : Option Addr) (c : Nat) (xs : List ByteArray) (l : List Pte) (a sz v : Nat) (w : World) (hx : xs.length ≤ 1000000) (h : RowAt w w.heap.size A (xs.map .string)) (h0 : A = none → xs.length = 0 ∧ c = 0) (hl : l.length = 16) (hsz : sz = 1 ∨ sz = 4) (ha : a < 4294967296) (hv : v < 4294967296) :
    Calls Tryd.prog 65 #[.slice A xs.length c, .agg (pteL l).toArray, .int .u32 a, .int .i64 sz, .int .u32 v] w (StorePost (storeR xs l a sz v) w) := by
  have HR := Lib.hid h
  have HS := Lib.hid hsz
  have HL := Lib.hid hl
  have HA := Lib.hid ha
  have H0 := Lib.hid h0
  have hv' : (v : Int) < 4294967296 := by omega
  clear h hsz hl ha h0
  go_enter Tryd.func65, Tryd.ntmps65
  go_wp2_with (refine load_blk 29 (.tmp 6) w.heap.size 29 (pteL l).toArray _ rfl rfl rfl (Blk.new w _ _) Tryd.underlying29 rfl (space_size HL.out) ?_)
  refine (rfind_any l a sz true _ HL.out HS.out HA.out).mono ?_
  rintro e w1 ⟨rfl, hb1⟩
  have B1 : Hid (Below w.heap.size w w1) := ((Below.refl _ _).alloc (Nat.le_refl _) _).trans (hb1.mono (by simp))
  have G1 : Hid (Blk w1 w.heap.size 29 (pteL l).toArray) := (Blk.new w _ _).below hb1 (by simp)
  clear hb1
  cases hf : findR l a sz true with
  | none =>
    have HL0 := Lib.hid (show storeR xs l a sz v = none by unfold storeR; rw [hf])
    clear hf
    unfold findE
    go_wp2
    go_ret2
    rw [HL0.out]
    exact ⟨rfl, B1.out⟩
  | some fp =>
    obtain ⟨f, p⟩ := fp
    have hsz4 : sz ≤ 4 := by rcases HS.out with h | h <;> omega
    have hdz : (⟨(putL v sz).toArray⟩ : ByteArray).size = sz := by show (putL v sz).toArray.size = sz; rw [List.size_toArray, putL_length]
    have CL := fun A c w h h0 => rlay_any A c xs l a ⟨(putL v sz).toArray⟩ f p w hx h h0 HL.out (by rw [hdz]; exact HS.out) (by rw [hdz]; exact hf)
    have HST : Hid (storeR xs l a sz v = if (frame xs f).isSome then some (layRow xs f p ⟨(putL v sz).toArray⟩ sz) else none) := by
      show _ = _
      unfold storeR layRow
      rw [hf]
      dsimp only
      cases hfr : frame xs f with
      | none => rfl
      | some s =>
        have := extract_all (⟨(putL v sz).toArray⟩ : ByteArray)
        rw [hdz] at this
        simp only [Option.isSome_some, if_true]
        rw [this]
    rw [hdz] at CL
    have CLL := Lib.hid CL
    clear hf CL hdz
    unfold findE
    go_wp2
    go_loopw [4, 15, 16] (fun vv dd j wr => StoH w w.heap.size sz v l vv dd j wr) (fun _ _ j _ => sz - (intOf j).toNat)
    case atStart => exact ⟨0, Nat.zero_le _, rfl, ⟨v, rfl, hv, by show _ = _; simp⟩, ⟨⟨#[]⟩, rfl, Nat.le_refl _, rfl⟩, G1.out, B1.out⟩
    case round =>
      obtain ⟨i, hi, rfl, ⟨q, rfl, hq, HQ⟩, ⟨st, rfl, hst, HT⟩, G, B⟩ := hrel
      by_cases hlt : i < sz
      · obtain ⟨bb, hbb⟩ : ∃ bb, q % 256 = bb := ⟨_, rfl⟩
        have he : (q : Int) % 256 = (bb : Int) := by omega
        have hb : bb < 256 := by omega
        have hbt : bb = bt v i := by unfold bt; rw [← HQ.out]; exact hbb.symm
        have HT2 : Hid (st ++ one1 bb = ⟨(putL v (i + 1)).toArray⟩) := by
          show _ = _
          rw [putL_snoc14, HT.out, ← hbt]
          apply WideShapes.bytes_inj
          show ((⟨(putL v i).toArray⟩ : ByteArray) ++ one1 bb).data.toList = (putL v i ++ [UInt8.ofNat bb]).toArray.toList
          rw [ByteArray.data_append, Array.toList_append]
          rfl
        have HQ2 : Hid (q / 256 = v / 256 ^ (i + 1)) := by show _ = _; rw [HQ.out, Nat.div_div_eq_div_mul, Nat.pow_succ]
        have kc := conv_cell bb hb (wr.alloc (.cells #[.int .u8 (bb : Int)] 5)) wr.heap.size ((Blk.new wr 5 #[.int .u8 (bb : Int)]).cell 0 rfl)
        have hz : (st ++ one1 bb).size ≤ i + 1 := by rw [ByteArray.size_append]; show st.size + 1 ≤ _; omega
        have ad := fun (w : World) => run_string_add_sum (P := Tryd.prog) (w := w) st (one1 bb) (by show st.size + 1 ≤ 9223372036854775807; omega)
        have ki : (i : Int) < (sz : Int) := by omega
        have hq' : (q : Int) < 4294967296 := by omega
        generalize one1 bb = ob at *
        replace B := Lib.hid (B.out.alloc B.out.size (.cells #[.int .u8 (bb : Int)] 5))
        replace G := Lib.hid (G.out.alloc (.cells #[.int .u8 (bb : Int)] 5))
        clear hbb hbt HT HQ
        go_wp2
        go_roundw
        case rel => exact ⟨i + 1, by omega, by go_num, ⟨q / 256, by go_num, by omega, HQ2⟩, ⟨_, rfl, hz, HT2⟩, G, B⟩
        case measure => simp [intOf]; omega
      · have HE : Hid (st = ⟨(putL v sz).toArray⟩) := by
          have e : i = sz := by omega
          rw [← e]; exact HT.out
        have ki : ¬ (i : Int) < (sz : Int) := by omega
        have C2 := CLL.out A c wr ((HR.out.below B.out).mono B.out.size) H0.out
        rw [← HE.out] at C2
        have CC := Lib.hid C2
        have HEE := HE
        clear C2 HE HT HQ CLL hlt
        go_wp2_with (refine load_blk 29 (.tmp 6) w.heap.size 29 (pteL l).toArray _ rfl rfl rfl G.out Tryd.underlying29 rfl (space_size HL.out) ?_; go_frame)
        refine CC.out.mono ?_
        rintro e w2 hp
        clear CC
        cases hs : (frame xs f).isSome with
        | false =>
          rw [hs] at hp HST
          obtain ⟨rfl, hb2⟩ : e = .returned (.tuple #[.slice none 0 0, .bool false]) ∧ Below wr.heap.size wr w2 := hp
          have BF := Lib.hid (B.out.trans (hb2.mono B.out.size))
          have HS2 : Hid (storeR xs l a sz v = none) := HST.out
          clear hb2 hs HST
          go_wp2
          go_ret2
          rw [HS2.out]
          exact ⟨rfl, BF.out⟩
        | true =>
          rw [hs] at hp HST
          have HS2 : Hid (storeR xs l a sz v = some (layRow xs f p st sz)) := by show _ = _; rw [HEE.out]; exact HST.out
          generalize layRow xs f p st sz = ys at *
          obtain ⟨g, cap, rfl, own, hb2⟩ : ∃ g c, e = .returned (.tuple #[.slice (some ⟨g, 0, none⟩) ys.length c, .bool true]) ∧ w2.ownsRow wr.heap.size 9 1 (.slice (some ⟨g, 0, none⟩) ys.length c) ys.length (ys.map .string) ∧ Below wr.heap.size wr w2 := hp
          have OWN := Lib.hid (own_base own B.out.size)
          have BF := Lib.hid (B.out.trans (hb2.mono B.out.size))
          clear hb2 hs HST own
          go_wp2
          go_ret2
          rw [HS2.out]
          exact ⟨g, cap, rfl, OWN.out, BF.out⟩
end Go.Proofs.YtcjakmnplkeldaaDoor
