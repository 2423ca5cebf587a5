/-
  What isa.Text computes.
-/
import Derived.Test.YtnaknooefjiahaaDoorIsaPlain
import Derived.Deep.RegionHeld3
import Derived.Test.YtnaknooefjiahaaDoorShelf
namespace Go.Proofs.YtnaknooefjiahaaDoor
open Go.RowKit
set_option linter.unusedVariables false
set_option linter.unusedSimpArgs false

def nmT : List (List UInt8) := [[], [97, 100, 100], [115, 117, 98], [109, 117, 108], [100, 105, 118], [114, 101, 109], [97, 110, 100], [111, 114], [120, 111, 114], [115, 104, 108], [115, 104, 114], [115, 97, 114], [115, 108, 116], [115, 108, 116, 117], [97, 100, 100, 105], [97, 110, 100, 105], [111, 114, 105], [120, 111, 114, 105], [115, 108, 116, 105], [108, 117, 105], [108, 119], [108, 98], [108, 98, 117], [115, 119], [115, 98], [98, 101, 113], [98, 110, 101], [98, 108, 116], [98, 108, 116, 117], [106, 97, 108], [106, 97, 108, 114], [115, 121, 115]]
def nmB (op : Nat) : ByteArray := ⟨(nmT.getD op []).toArray⟩
def regB (n : Nat) : ByteArray := ⟨#[114]⟩ ++ ⟨(Lib.decDigits n).toArray⟩
def numB (n : Int) : ByteArray := ⟨(Lib.itoa n).toArray⟩
def lineB (nm : ByteArray) (xs : List ByteArray) : ByteArray := nm ++ ⟨#[32]⟩ ++ ⟨(Lib.join (xs.map (·.data.toList)) [44, 32]).toArray⟩
def fM (op : Nat) : Bool := decide (20 ≤ op ∧ op ≤ 24 ∨ op = 30)
def txtB (x : Ins) : ByteArray :=
  if (encR x).2 ≠ 0 then ⟨#[]⟩
  else if fC x.op = true then lineB (nmB x.op) [regB x.a, regB x.b, regB x.c]
  else if fM x.op = true then lineB (nmB x.op) [regB x.a, numB x.imm ++ ⟨#[40]⟩ ++ regB x.b ++ ⟨#[41]⟩]
  else if fB x.op = true then lineB (nmB x.op) [regB x.a, regB x.b, numB x.imm]
  else if fA x.op = true then lineB (nmB x.op) [regB x.a, numB x.imm]
  else lineB (nmB x.op) [numB x.imm]

/-- what the variables hold -/
def Laid (w : World) : Prop := w.var? Tryd.prog "hibernacle/isa.names" = some (nmT.map fun l => Value.string ⟨l.toArray⟩).toArray ∧ Lib.TabIs Tryd.prog w "internal/strconv.uint64pow10" .u64 Lib.pow10Tab
theorem var_below {P : Program} {w w' : World} {n : String} {cs : Array Value} (h : w.var? P n = some cs) (hb : Below w.heap.size w w') : w'.var? P n = some cs := by
  unfold World.var? at h ⊢
  cases hg : P.globalNamed n with
  | none => simp [hg] at h
  | some g =>
    simp only [hg, Option.bind_some] at h ⊢
    rcases Nat.lt_or_ge g w.heap.size with hlt | hge
    · rw [hb.block g hlt]; exact h
    · rw [Array.getElem?_eq_none hge] at h; cases h
theorem Laid.later {w w' : World} (h : Laid w) (hb : Below w.heap.size w w') : Laid w' := ⟨var_below h.1 hb, var_below h.2 hb⟩
theorem gNames : Tryd.prog.globalNamed "hibernacle/isa.names" = some 0 := by kernel_rfl
theorem Laid.name {w : World} (h : Laid w) (op : Nat) (ho : op < 32) : w.cell? ⟨0, op, none⟩ = some (.string (nmB op)) := by
  rw [World.var?_cell gNames h.1 op]
  have : nmT.length = 32 := rfl
  simp [nmB, List.getD, this, ho]

theorem below_itoa (w : World) (k : Nat) (os : Array Obj) : Below w.heap.size w (Go.Sort.grow (w.drewN k) os) :=
  ⟨rfl, rfl, rfl, by simp [Go.Sort.grow, World.drewN], fun i hi => by simp only [Go.Sort.grow, World.drewN]; exact Array.getElem?_append_left hi⟩
theorem itoa_any (n : Int) (w : World) (h : Laid w) (h0 : -9223372036854775808 ≤ n) (h1 : n ≤ 9223372036854775807) :
    Calls Tryd.prog 25 #[.int .i64 n] w fun e w' => e = .returned (.string (numB n)) ∧ Below w.heap.size w w' :=
  (Tryd.strconv_Itoa n h0 h1 w h.2).mono fun e w' ⟨he, k, os, hw⟩ => ⟨he, hw ▸ below_itoa w k os⟩

theorem digits_le (u : Nat) : (Lib.decDigits u).length ≤ u + 1 := by
  induction u using Nat.strongRecOn with
  | _ u ih =>
    rw [Lib.decDigits]
    split
    · simp
    · have := ih (u / 10) (by omega)
      simp; omega
theorem reg_any (n : Nat) (w : World) (hn : n ≤ 15) : Calls Tryd.prog 24 #[.int .u8 n] w fun e w' => e = .returned (.string (regB n)) ∧ w = w' := by
  have hn' : (n : Int) ≤ 15 := by omega
  obtain ⟨d, hd, hds⟩ : ∃ d : ByteArray, (⟨(Lib.decDigits n).toArray⟩ : ByteArray) = d ∧ d.size ≤ 17 := ⟨_, rfl, by have := digits_le n; show (Lib.decDigits n).toArray.size ≤ 17; rw [List.size_toArray]; omega⟩
  have HD := Lib.hid hd
  clear hd
  go_enter Tryd.func24, Tryd.ntmps24
  go_wp2_with fail
  refine (Tryd.strconv_Itoa_small n (by omega) _).mono ?_
  rintro e w' ⟨rfl, rfl⟩
  rw [HD.out]
  go_wp2
  go_ret
  unfold regB
  exact ⟨by rw [HD.out]; rfl, rfl⟩

theorem line_any (nm : ByteArray) (bk k : Nat) (xs : List ByteArray) (w : World) (hk : xs.length = k) (hc : ∀ (j : Nat) x, xs[j]? = some x → w.cell? ⟨bk, 0 + j, none⟩ = some (.string x)) (hb : bk < w.heap.size) (hN : k ≤ 1000) (hnm : nm.size ≤ 1000)
    (hlen : (Lib.join (xs.map (·.data.toList)) [44, 32]).length ≤ 1000000) :
    Calls Tryd.prog 26 #[.string nm, .slice (some ⟨bk, 0, none⟩) k k] w fun e w' => e = .returned (.string (lineB nm xs)) ∧ Below w.heap.size w w' := by
  subst hk
  have HC := Lib.hid hc
  obtain ⟨d, hd, hds⟩ : ∃ d : ByteArray, (⟨(Lib.join (xs.map (·.data.toList)) [44, 32]).toArray⟩ : ByteArray) = d ∧ d.size ≤ 1000000 := ⟨_, rfl, by show (Lib.join (xs.map (·.data.toList)) [44, 32]).toArray.size ≤ _; rw [List.size_toArray]; exact hlen⟩
  have HL := Lib.hid hlen
  have HD := Lib.hid hd
  clear hc hlen hd
  go_enter Tryd.func26, Tryd.ntmps26
  go_wp2_with fail
  refine (Tryd.strings_Join bk 0 xs.length xs ⟨#[44, 32]⟩ _ HC.out hb (by omega) (by omega) (by have := HL.out; show (Lib.join (xs.map (·.data.toList)) [44, 32]).length ≤ _; omega)).mono ?_
  rintro e w' ⟨rfl, hbl⟩
  have HB := Lib.hid hbl
  clear hbl
  rw [show (⟨(Lib.join (xs.map (·.data.toList)) (⟨#[44, 32]⟩ : ByteArray).data.toList).toArray⟩ : ByteArray) = d from HD.out]
  go_wp2
  go_ret
  unfold lineB
  exact ⟨by rw [HD.out]; rfl, HB.out⟩

theorem num_le {n : Int} (h0 : -32768 ≤ n) (h1 : n ≤ 65535) : (numB n).data.toList.length ≤ 65537 := by
  unfold numB Lib.itoa
  split
  · have := digits_le n.natAbs; simp; omega
  · have := digits_le n.toNat; simp; omega
theorem reg_le {n : Nat} (h : n ≤ 15) : (regB n).data.toList.length ≤ 17 := by
  have := digits_le n
  unfold regB; simp; omega

theorem nm_le (op : Nat) : (nmB op).size ≤ 10 := by
  have h : ∀ l ∈ nmT, l.length ≤ 10 := by decide
  show (nmT.getD op []).toArray.size ≤ 10
  rw [List.size_toArray]
  by_cases ho : op < nmT.length
  · simp only [List.getD, List.getElem?_eq_getElem ho, Option.getD_some]; exact h _ (List.getElem_mem ho)
  · simp only [List.getD, List.getElem?_eq_none (show nmT.length ≤ op by omega)]; simp
theorem num_size {n : Int} (h0 : -32768 ≤ n) (h1 : n ≤ 65535) : (numB n).size ≤ 65537 := by simpa using num_le h0 h1
theorem reg_size {n : Nat} (h : n ≤ 15) : (regB n).size ≤ 17 := by simpa using reg_le h

def TextPost (x : Ins) (w : World) (e : Ending) (w' : World) : Prop := e = .returned (.string (txtB x)) ∧ Below w.heap.size w w'
set_option maxHeartbeats 1000000 in
theorem text_c (op a b c : Nat) (imm : Int) (w : World) (hl : Laid w) (ho : op < 32) (ha : a ≤ 15) (hb : b ≤ 15) (hc : c ≤ 15) (im1 : -32768 ≤ imm) (im2 : imm ≤ 65535) (hf : fA op = true ∧ fB op = true ∧ fC op = true ∧ fI op = false ∧ fOk op = true)  (v : Nat) (he : encR ⟨op, a, b, c, imm⟩ = (v, 0)) (ht : txtB ⟨op, a, b, c, imm⟩ = lineB (nmB op) [regB a, regB b, regB c]) :
    Calls Tryd.prog 15 #[.agg #[.int .u8 op, .int .u8 a, .int .u8 b, .int .u8 c, .int .i32 imm]] w (TextPost ⟨op, a, b, c, imm⟩ w) := by
  have HF := Lib.hid hf
  have HE := Lib.hid he
  have HT := Lib.hid ht
  have L := Lib.hid hl
  have HO2 := Lib.hid ho
  have HO : Hid (op < 256) := by have := HO2.out; show op < 256; omega
  have ho' : (op : Int) ≤ 31 := by omega
  have ha' : (a : Int) ≤ 15 := by omega
  have hb' : (b : Int) ≤ 15 := by omega
  have hc' : (c : Int) ≤ 15 := by omega
  have s1 := nm_le op
  have s2 := num_size im1 im2
  have s3 := reg_size hb
  have HL : Hid ((Lib.join ([regB a, regB b, regB c].map (·.data.toList)) [44, 32]).length ≤ 1000000) := by
    have r1 := reg_le ha
    have r2 := reg_le hb
    have r3 := reg_le hc
    have r4 := num_le im1 im2
    show (Lib.join ([regB a, regB b, regB c].map (·.data.toList)) [44, 32]).length ≤ 1000000
    simp [Lib.join, List.intercalate, List.intersperse] at r1 r2 r3 r4 ⊢
    omega
  clear hf he ht hl ho
  go_enter Tryd.func15, Tryd.ntmps15
  go_wp2_with fail
  refine (enc_any ⟨op, a, b, c, imm⟩ _ HO.out).mono ?_
  rintro e w1 ⟨rfl, hb1⟩
  rw [HE.out]
  unfold encE
  have G : Hid (Blk w1 w.heap.size 23 #[.int .u8 op, .int .u8 a, .int .u8 b, .int .u8 c, .int .i32 imm]) := (Blk.new w _ _).below hb1 (by simp)
  have q0 : w1.cell? ⟨w.heap.size, 0, none⟩ = some (.int .u8 op) := G.out.cell 0 rfl
  have q1 : w1.cell? ⟨w.heap.size, 1, none⟩ = some (.int .u8 a) := G.out.cell 1 rfl
  have q2 : w1.cell? ⟨w.heap.size, 2, none⟩ = some (.int .u8 b) := G.out.cell 2 rfl
  have q3 : w1.cell? ⟨w.heap.size, 3, none⟩ = some (.int .u8 c) := G.out.cell 3 rfl
  have q4 : w1.cell? ⟨w.heap.size, 4, none⟩ = some (.int .i32 imm) := G.out.cell 4 rfl
  have B : Hid (Below w.heap.size w w1) := ((Below.refl _ _).alloc (Nat.le_refl _) _).trans (hb1.mono (by simp))
  clear hb1
  go_wp2_with fail
  refine (fields_any op _ HO.out).mono ?_
  rintro e w2 ⟨rfl, hb2⟩
  obtain ⟨e1, e2, e3, e4, e5⟩ := HF.out
  rw [e1, e2, e3, e4, e5]
  clear e1 e2 e3 e4 e5
  have G := Lib.hid (G.out.below hb2 G.out.lt)
  have B := Lib.hid (B.out.trans (hb2.mono B.out.size))
  clear hb2 q0 q1 q2 q3 q4
  have q0 : w2.cell? ⟨w.heap.size, 0, none⟩ = some (.int .u8 op) := G.out.cell 0 rfl
  have q1 : w2.cell? ⟨w.heap.size, 1, none⟩ = some (.int .u8 a) := G.out.cell 1 rfl
  have q2 : w2.cell? ⟨w.heap.size, 2, none⟩ = some (.int .u8 b) := G.out.cell 2 rfl
  have q3 : w2.cell? ⟨w.heap.size, 3, none⟩ = some (.int .u8 c) := G.out.cell 3 rfl
  have q4 : w2.cell? ⟨w.heap.size, 4, none⟩ = some (.int .i32 imm) := G.out.cell 4 rfl
  have z0 := B.out.size
  have z1 := G.out.lt
  go_wp2
  generalize hw3 : w2.alloc _ = w3
  have GH : Hid (Blk w3 w2.heap.size 42 #[.bool true, .bool true, .bool true, .bool false]) := hw3 ▸ Blk.new _ _ _
  have G := Lib.hid (show Blk w3 w.heap.size 23 #[.int .u8 op, .int .u8 a, .int .u8 b, .int .u8 c, .int .i32 imm] from hw3 ▸ G.out.alloc _)
  have B : Hid (Below w.heap.size w w3) := hw3 ▸ B.out.alloc z0 _
  have L : Hid (Laid w3) := L.out.later B.out
  clear hw3 q0 q1 q2 q3 q4
  generalize hgh : w2.heap.size = gh at *
  clear hgh
  have q0 : ∀ u : Ext w3, u.val.cell? ⟨w.heap.size, 0, none⟩ = some (.int .u8 op) := fun u => u.cell (G.out.cell 0 rfl)
  have q4 : ∀ u : Ext w3, u.val.cell? ⟨w.heap.size, 4, none⟩ = some (.int .i32 imm) := fun u => u.cell (G.out.cell 4 rfl)
  have qn : ∀ u : Ext w3, u.val.cell? ⟨0, op, none⟩ = some (.string (nmB op)) := fun u => u.cell (L.out.name op HO2.out)
  have i1 : (0 : Int) ≤ (op : Int) := by omega
  have i2 : (op : Int) < 32 := by have := HO2.out; omega
  refine wp_region_ext (by kernel_rfl) (by kernel_rfl) ?_
  repeat (go_big_quiet_step (first
    | (go_at_call 25; exact Ext.call (itoa_any imm _ (L.out.later (Ext.below _)) (by omega) (by omega)))))
  refine wpQuiet_nil ?_
  rintro _ ⟨u, rfl⟩
  obtain ⟨w4, hb4⟩ := u
  dsimp only
  have G := Lib.hid (G.out.below hb4 G.out.lt)
  have GH := Lib.hid (GH.out.below hb4 GH.out.lt)
  have B := Lib.hid (B.out.trans (hb4.mono B.out.size))
  clear hb4 q0 q4 qn L
  have q0 : w4.cell? ⟨w.heap.size, 0, none⟩ = some (.int .u8 op) := G.out.cell 0 rfl
  have q1 : w4.cell? ⟨w.heap.size, 1, none⟩ = some (.int .u8 a) := G.out.cell 1 rfl
  have q2 : w4.cell? ⟨w.heap.size, 2, none⟩ = some (.int .u8 b) := G.out.cell 2 rfl
  have q3 : w4.cell? ⟨w.heap.size, 3, none⟩ = some (.int .u8 c) := G.out.cell 3 rfl
  have q4 : w4.cell? ⟨w.heap.size, 4, none⟩ = some (.int .i32 imm) := G.out.cell 4 rfl
  have h0 : w4.cell? ⟨gh, 0, none⟩ = some (.bool true) := GH.out.cell 0 rfl
  have h1 : w4.cell? ⟨gh, 1, none⟩ = some (.bool true) := GH.out.cell 1 rfl
  have h2 : w4.cell? ⟨gh, 2, none⟩ = some (.bool true) := GH.out.cell 2 rfl
  have h3 : w4.cell? ⟨gh, 3, none⟩ = some (.bool false) := GH.out.cell 3 rfl
  have z4 := G.out.lt
  have LN := Lib.hid (line_any (nmB op) w4.heap.size 3 [regB a, regB b, regB c] ((w4.alloc (.cells #[.string (regB a), .string (regB b), .string (regB c)] 9)).drew) rfl (fun j x hx => by
    rw [Nat.zero_add]
    have hb5 : Blk ((w4.alloc (.cells #[.string (regB a), .string (regB b), .string (regB c)] 9)).drew) w4.heap.size 9 ([regB a, regB b, regB c].map Value.string).toArray := Blk.new w4 _ _
    exact hb5.cell j (by simp only [List.getElem?_toArray, List.getElem?_map, hx, Option.map_some])) (by show w4.heap.size < (w4.alloc _).heap.size; simp) (by omega) (by omega) HL.out)
  have B5 : Hid (Below w.heap.size w ((w4.alloc (.cells #[.string (regB a), .string (regB b), .string (regB c)] 9)).drew)) := (B.out.alloc B.out.size _).drew
  have p1 : ((w4.alloc (.cells #[.string (regB a), .string (regB b), .string (regB c)] 9)).drew).cell? ⟨w.heap.size, 1, none⟩ = some (.int .u8 a) := (G.out.alloc _).cell 1 rfl
  have p2 : ((w4.alloc (.cells #[.string (regB a), .string (regB b), .string (regB c)] 9)).drew).cell? ⟨w.heap.size, 2, none⟩ = some (.int .u8 b) := (G.out.alloc _).cell 2 rfl
  have p3 : ((w4.alloc (.cells #[.string (regB a), .string (regB b), .string (regB c)] 9)).drew).cell? ⟨w.heap.size, 3, none⟩ = some (.int .u8 c) := (G.out.alloc _).cell 3 rfl
  have hS : w.heap.size < ((w4.alloc (.cells #[.string (regB a), .string (regB b), .string (regB c)] 9)).drew).heap.size := by show w.heap.size < (w4.alloc _).heap.size; simp; omega
  go_wp2
  go_region_held3 (fun w' => w'.cell? ⟨w.heap.size, 1, none⟩ = some (.int .u8 a) ∧ w'.cell? ⟨w.heap.size, 2, none⟩ = some (.int .u8 b) ∧ w'.cell? ⟨w.heap.size, 3, none⟩ = some (.int .u8 c)) (first | go_keep | exact ⟨p1, p2, p3⟩ | assumption)
    (first
      | (go_at_call 24; refine (reg_any _ _ ?_).mono ?_; (omega); rintro e w' ⟨rfl, rfl⟩)
      | (go_at_call 26; refine LN.out.mono ?_; rintro e w6 ⟨rfl, hb6⟩; have hS6 : w6.cell? ⟨w.heap.size, 1, none⟩ = some (.int .u8 a) ∧ w6.cell? ⟨w.heap.size, 2, none⟩ = some (.int .u8 b) ∧ w6.cell? ⟨w.heap.size, 3, none⟩ = some (.int .u8 c) := ⟨(hb6.cell (p := ⟨w.heap.size, 1, none⟩) hS).trans p1, (hb6.cell (p := ⟨w.heap.size, 2, none⟩) hS).trans p2, (hb6.cell (p := ⟨w.heap.size, 3, none⟩) hS).trans p3⟩; have HB6 := Lib.hid (B5.out.trans (hb6.mono B5.out.size)); clear hb6))
  go_wp2
  go_ret
  unfold TextPost; rw [HT.out]
  exact ⟨rfl, HB6.out⟩

set_option maxHeartbeats 1000000 in
theorem text_m (op a b c : Nat) (imm : Int) (w : World) (hl : Laid w) (ho : op < 32) (ha : a ≤ 15) (hb : b ≤ 15) (hc : c ≤ 15) (im1 : -32768 ≤ imm) (im2 : imm ≤ 65535) (hf : fA op = true ∧ fB op = true ∧ fC op = false ∧ fI op = true ∧ fOk op = true) (hm : 20 ≤ op ∧ op ≤ 24) (v : Nat) (he : encR ⟨op, a, b, c, imm⟩ = (v, 0)) (ht : txtB ⟨op, a, b, c, imm⟩ = lineB (nmB op) [regB a, numB imm ++ ⟨#[40]⟩ ++ regB b ++ ⟨#[41]⟩]) :
    Calls Tryd.prog 15 #[.agg #[.int .u8 op, .int .u8 a, .int .u8 b, .int .u8 c, .int .i32 imm]] w (TextPost ⟨op, a, b, c, imm⟩ w) := by
  have HF := Lib.hid hf
  have HE := Lib.hid he
  have HT := Lib.hid ht
  have L := Lib.hid hl
  have HO2 := Lib.hid ho
  have HO : Hid (op < 256) := by have := HO2.out; show op < 256; omega
  have ho' : (op : Int) ≤ 31 := by omega
  have ha' : (a : Int) ≤ 15 := by omega
  have hb' : (b : Int) ≤ 15 := by omega
  have hc' : (c : Int) ≤ 15 := by omega
  have s1 := nm_le op
  have s2 := num_size im1 im2
  have s3 := reg_size hb
  have HL : Hid ((Lib.join ([regB a, numB imm ++ ⟨#[40]⟩ ++ regB b ++ ⟨#[41]⟩].map (·.data.toList)) [44, 32]).length ≤ 1000000) := by
    have r1 := reg_le ha
    have r2 := reg_le hb
    have r3 := reg_le hc
    have r4 := num_le im1 im2
    show (Lib.join ([regB a, numB imm ++ ⟨#[40]⟩ ++ regB b ++ ⟨#[41]⟩].map (·.data.toList)) [44, 32]).length ≤ 1000000
    simp [Lib.join, List.intercalate, List.intersperse] at r1 r2 r3 r4 ⊢
    omega
  clear hf he ht hl ho
  have t1 : (20 : Int) ≤ (op : Int) := by omega
  have t2 : (op : Int) ≤ 24 := by omega
  have ad1 := fun (w : World) => run_string_add_sum (P := Tryd.prog) (w := w) (numB imm) ⟨#[40]⟩ (by show (numB imm).size + 1 ≤ _; omega)
  have ad2 := fun (w : World) => run_string_add_sum (P := Tryd.prog) (w := w) (numB imm ++ ⟨#[40]⟩) (regB b) (by rw [ByteArray.size_append]; show (numB imm).size + 1 + _ ≤ _; omega)
  have ad3 := fun (w : World) => run_string_add_sum (P := Tryd.prog) (w := w) (numB imm ++ ⟨#[40]⟩ ++ regB b) ⟨#[41]⟩ (by rw [ByteArray.size_append, ByteArray.size_append]; show (numB imm).size + 1 + _ + 1 ≤ _; omega)
  clear hm
  go_enter Tryd.func15, Tryd.ntmps15
  go_wp2_with fail
  refine (enc_any ⟨op, a, b, c, imm⟩ _ HO.out).mono ?_
  rintro e w1 ⟨rfl, hb1⟩
  rw [HE.out]
  unfold encE
  have G : Hid (Blk w1 w.heap.size 23 #[.int .u8 op, .int .u8 a, .int .u8 b, .int .u8 c, .int .i32 imm]) := (Blk.new w _ _).below hb1 (by simp)
  have q0 : w1.cell? ⟨w.heap.size, 0, none⟩ = some (.int .u8 op) := G.out.cell 0 rfl
  have q1 : w1.cell? ⟨w.heap.size, 1, none⟩ = some (.int .u8 a) := G.out.cell 1 rfl
  have q2 : w1.cell? ⟨w.heap.size, 2, none⟩ = some (.int .u8 b) := G.out.cell 2 rfl
  have q3 : w1.cell? ⟨w.heap.size, 3, none⟩ = some (.int .u8 c) := G.out.cell 3 rfl
  have q4 : w1.cell? ⟨w.heap.size, 4, none⟩ = some (.int .i32 imm) := G.out.cell 4 rfl
  have B : Hid (Below w.heap.size w w1) := ((Below.refl _ _).alloc (Nat.le_refl _) _).trans (hb1.mono (by simp))
  clear hb1
  go_wp2_with fail
  refine (fields_any op _ HO.out).mono ?_
  rintro e w2 ⟨rfl, hb2⟩
  obtain ⟨e1, e2, e3, e4, e5⟩ := HF.out
  rw [e1, e2, e3, e4, e5]
  clear e1 e2 e3 e4 e5
  have G := Lib.hid (G.out.below hb2 G.out.lt)
  have B := Lib.hid (B.out.trans (hb2.mono B.out.size))
  clear hb2 q0 q1 q2 q3 q4
  have q0 : w2.cell? ⟨w.heap.size, 0, none⟩ = some (.int .u8 op) := G.out.cell 0 rfl
  have q1 : w2.cell? ⟨w.heap.size, 1, none⟩ = some (.int .u8 a) := G.out.cell 1 rfl
  have q2 : w2.cell? ⟨w.heap.size, 2, none⟩ = some (.int .u8 b) := G.out.cell 2 rfl
  have q3 : w2.cell? ⟨w.heap.size, 3, none⟩ = some (.int .u8 c) := G.out.cell 3 rfl
  have q4 : w2.cell? ⟨w.heap.size, 4, none⟩ = some (.int .i32 imm) := G.out.cell 4 rfl
  have z0 := B.out.size
  have z1 := G.out.lt
  go_wp2
  generalize hw3 : w2.alloc _ = w3
  have GH : Hid (Blk w3 w2.heap.size 42 #[.bool true, .bool true, .bool false, .bool true]) := hw3 ▸ Blk.new _ _ _
  have G := Lib.hid (show Blk w3 w.heap.size 23 #[.int .u8 op, .int .u8 a, .int .u8 b, .int .u8 c, .int .i32 imm] from hw3 ▸ G.out.alloc _)
  have B : Hid (Below w.heap.size w w3) := hw3 ▸ B.out.alloc z0 _
  have L : Hid (Laid w3) := L.out.later B.out
  clear hw3 q0 q1 q2 q3 q4
  generalize hgh : w2.heap.size = gh at *
  clear hgh
  have q0 : ∀ u : Ext w3, u.val.cell? ⟨w.heap.size, 0, none⟩ = some (.int .u8 op) := fun u => u.cell (G.out.cell 0 rfl)
  have q4 : ∀ u : Ext w3, u.val.cell? ⟨w.heap.size, 4, none⟩ = some (.int .i32 imm) := fun u => u.cell (G.out.cell 4 rfl)
  have qn : ∀ u : Ext w3, u.val.cell? ⟨0, op, none⟩ = some (.string (nmB op)) := fun u => u.cell (L.out.name op HO2.out)
  have i1 : (0 : Int) ≤ (op : Int) := by omega
  have i2 : (op : Int) < 32 := by have := HO2.out; omega
  refine wp_region_ext (by kernel_rfl) (by kernel_rfl) ?_
  repeat (go_big_quiet_step (first
    | (go_at_call 25; exact Ext.call (itoa_any imm _ (L.out.later (Ext.below _)) (by omega) (by omega)))))
  refine wpQuiet_nil ?_
  rintro _ ⟨u, rfl⟩
  obtain ⟨w4, hb4⟩ := u
  dsimp only
  have G := Lib.hid (G.out.below hb4 G.out.lt)
  have GH := Lib.hid (GH.out.below hb4 GH.out.lt)
  have B := Lib.hid (B.out.trans (hb4.mono B.out.size))
  clear hb4 q0 q4 qn L
  have q0 : w4.cell? ⟨w.heap.size, 0, none⟩ = some (.int .u8 op) := G.out.cell 0 rfl
  have q1 : w4.cell? ⟨w.heap.size, 1, none⟩ = some (.int .u8 a) := G.out.cell 1 rfl
  have q2 : w4.cell? ⟨w.heap.size, 2, none⟩ = some (.int .u8 b) := G.out.cell 2 rfl
  have q3 : w4.cell? ⟨w.heap.size, 3, none⟩ = some (.int .u8 c) := G.out.cell 3 rfl
  have q4 : w4.cell? ⟨w.heap.size, 4, none⟩ = some (.int .i32 imm) := G.out.cell 4 rfl
  have h0 : w4.cell? ⟨gh, 0, none⟩ = some (.bool true) := GH.out.cell 0 rfl
  have h1 : w4.cell? ⟨gh, 1, none⟩ = some (.bool true) := GH.out.cell 1 rfl
  have h2 : w4.cell? ⟨gh, 2, none⟩ = some (.bool false) := GH.out.cell 2 rfl
  have h3 : w4.cell? ⟨gh, 3, none⟩ = some (.bool true) := GH.out.cell 3 rfl
  have z4 := G.out.lt
  have LN := Lib.hid (line_any (nmB op) w4.heap.size 2 [regB a, numB imm ++ ⟨#[40]⟩ ++ regB b ++ ⟨#[41]⟩] ((w4.alloc (.cells #[.string (regB a), .string (numB imm ++ ⟨#[40]⟩ ++ regB b ++ ⟨#[41]⟩)] 9)).drew) rfl (fun j x hx => by
    rw [Nat.zero_add]
    have hb5 : Blk ((w4.alloc (.cells #[.string (regB a), .string (numB imm ++ ⟨#[40]⟩ ++ regB b ++ ⟨#[41]⟩)] 9)).drew) w4.heap.size 9 ([regB a, numB imm ++ ⟨#[40]⟩ ++ regB b ++ ⟨#[41]⟩].map Value.string).toArray := Blk.new w4 _ _
    exact hb5.cell j (by simp only [List.getElem?_toArray, List.getElem?_map, hx, Option.map_some])) (by show w4.heap.size < (w4.alloc _).heap.size; simp) (by omega) (by omega) HL.out)
  have B5 : Hid (Below w.heap.size w ((w4.alloc (.cells #[.string (regB a), .string (numB imm ++ ⟨#[40]⟩ ++ regB b ++ ⟨#[41]⟩)] 9)).drew)) := (B.out.alloc B.out.size _).drew
  have p1 : ((w4.alloc (.cells #[.string (regB a), .string (numB imm ++ ⟨#[40]⟩ ++ regB b ++ ⟨#[41]⟩)] 9)).drew).cell? ⟨w.heap.size, 1, none⟩ = some (.int .u8 a) := (G.out.alloc _).cell 1 rfl
  have p2 : ((w4.alloc (.cells #[.string (regB a), .string (numB imm ++ ⟨#[40]⟩ ++ regB b ++ ⟨#[41]⟩)] 9)).drew).cell? ⟨w.heap.size, 2, none⟩ = some (.int .u8 b) := (G.out.alloc _).cell 2 rfl
  have p3 : ((w4.alloc (.cells #[.string (regB a), .string (numB imm ++ ⟨#[40]⟩ ++ regB b ++ ⟨#[41]⟩)] 9)).drew).cell? ⟨w.heap.size, 3, none⟩ = some (.int .u8 c) := (G.out.alloc _).cell 3 rfl
  have hS : w.heap.size < ((w4.alloc (.cells #[.string (regB a), .string (numB imm ++ ⟨#[40]⟩ ++ regB b ++ ⟨#[41]⟩)] 9)).drew).heap.size := by show w.heap.size < (w4.alloc _).heap.size; simp; omega
  go_wp2
  go_region_held3 (fun w' => w'.cell? ⟨w.heap.size, 1, none⟩ = some (.int .u8 a) ∧ w'.cell? ⟨w.heap.size, 2, none⟩ = some (.int .u8 b) ∧ w'.cell? ⟨w.heap.size, 3, none⟩ = some (.int .u8 c)) (first | go_keep | exact ⟨p1, p2, p3⟩ | assumption)
    (first
      | (go_at_call 24; refine (reg_any _ _ ?_).mono ?_; (omega); rintro e w' ⟨rfl, rfl⟩)
      | (go_at_call 26; refine LN.out.mono ?_; rintro e w6 ⟨rfl, hb6⟩; have hS6 : w6.cell? ⟨w.heap.size, 1, none⟩ = some (.int .u8 a) ∧ w6.cell? ⟨w.heap.size, 2, none⟩ = some (.int .u8 b) ∧ w6.cell? ⟨w.heap.size, 3, none⟩ = some (.int .u8 c) := ⟨(hb6.cell (p := ⟨w.heap.size, 1, none⟩) hS).trans p1, (hb6.cell (p := ⟨w.heap.size, 2, none⟩) hS).trans p2, (hb6.cell (p := ⟨w.heap.size, 3, none⟩) hS).trans p3⟩; have HB6 := Lib.hid (B5.out.trans (hb6.mono B5.out.size)); clear hb6))
  go_wp2
  go_ret
  unfold TextPost; rw [HT.out]
  exact ⟨rfl, HB6.out⟩

set_option maxHeartbeats 1000000 in
theorem text_j (op a b c : Nat) (imm : Int) (w : World) (hl : Laid w) (ho : op < 32) (ha : a ≤ 15) (hb : b ≤ 15) (hc : c ≤ 15) (im1 : -32768 ≤ imm) (im2 : imm ≤ 65535) (hf : fA op = true ∧ fB op = true ∧ fC op = false ∧ fI op = true ∧ fOk op = true) (hm : op = 30) (v : Nat) (he : encR ⟨op, a, b, c, imm⟩ = (v, 0)) (ht : txtB ⟨op, a, b, c, imm⟩ = lineB (nmB op) [regB a, numB imm ++ ⟨#[40]⟩ ++ regB b ++ ⟨#[41]⟩]) :
    Calls Tryd.prog 15 #[.agg #[.int .u8 op, .int .u8 a, .int .u8 b, .int .u8 c, .int .i32 imm]] w (TextPost ⟨op, a, b, c, imm⟩ w) := by
  have HF := Lib.hid hf
  have HE := Lib.hid he
  have HT := Lib.hid ht
  have L := Lib.hid hl
  have HO2 := Lib.hid ho
  have HO : Hid (op < 256) := by have := HO2.out; show op < 256; omega
  have ho' : (op : Int) ≤ 31 := by omega
  have ha' : (a : Int) ≤ 15 := by omega
  have hb' : (b : Int) ≤ 15 := by omega
  have hc' : (c : Int) ≤ 15 := by omega
  have s1 := nm_le op
  have s2 := num_size im1 im2
  have s3 := reg_size hb
  have HL : Hid ((Lib.join ([regB a, numB imm ++ ⟨#[40]⟩ ++ regB b ++ ⟨#[41]⟩].map (·.data.toList)) [44, 32]).length ≤ 1000000) := by
    have r1 := reg_le ha
    have r2 := reg_le hb
    have r3 := reg_le hc
    have r4 := num_le im1 im2
    show (Lib.join ([regB a, numB imm ++ ⟨#[40]⟩ ++ regB b ++ ⟨#[41]⟩].map (·.data.toList)) [44, 32]).length ≤ 1000000
    simp [Lib.join, List.intercalate, List.intersperse] at r1 r2 r3 r4 ⊢
    omega
  clear hf he ht hl ho
  have t1 : (20 : Int) ≤ (op : Int) := by omega
  have t2 : ¬ (op : Int) ≤ 24 := by omega
  have t2b : decide ((op : Int) ≤ 24) = false := by simpa using t2
  have t3 : ((op : Int) == 30) = true := by simp; omega
  have ad1 := fun (w : World) => run_string_add_sum (P := Tryd.prog) (w := w) (numB imm) ⟨#[40]⟩ (by show (numB imm).size + 1 ≤ _; omega)
  have ad2 := fun (w : World) => run_string_add_sum (P := Tryd.prog) (w := w) (numB imm ++ ⟨#[40]⟩) (regB b) (by rw [ByteArray.size_append]; show (numB imm).size + 1 + _ ≤ _; omega)
  have ad3 := fun (w : World) => run_string_add_sum (P := Tryd.prog) (w := w) (numB imm ++ ⟨#[40]⟩ ++ regB b) ⟨#[41]⟩ (by rw [ByteArray.size_append, ByteArray.size_append]; show (numB imm).size + 1 + _ + 1 ≤ _; omega)
  clear hm
  go_enter Tryd.func15, Tryd.ntmps15
  go_wp2_with fail
  refine (enc_any ⟨op, a, b, c, imm⟩ _ HO.out).mono ?_
  rintro e w1 ⟨rfl, hb1⟩
  rw [HE.out]
  unfold encE
  have G : Hid (Blk w1 w.heap.size 23 #[.int .u8 op, .int .u8 a, .int .u8 b, .int .u8 c, .int .i32 imm]) := (Blk.new w _ _).below hb1 (by simp)
  have q0 : w1.cell? ⟨w.heap.size, 0, none⟩ = some (.int .u8 op) := G.out.cell 0 rfl
  have q1 : w1.cell? ⟨w.heap.size, 1, none⟩ = some (.int .u8 a) := G.out.cell 1 rfl
  have q2 : w1.cell? ⟨w.heap.size, 2, none⟩ = some (.int .u8 b) := G.out.cell 2 rfl
  have q3 : w1.cell? ⟨w.heap.size, 3, none⟩ = some (.int .u8 c) := G.out.cell 3 rfl
  have q4 : w1.cell? ⟨w.heap.size, 4, none⟩ = some (.int .i32 imm) := G.out.cell 4 rfl
  have B : Hid (Below w.heap.size w w1) := ((Below.refl _ _).alloc (Nat.le_refl _) _).trans (hb1.mono (by simp))
  clear hb1
  go_wp2_with fail
  refine (fields_any op _ HO.out).mono ?_
  rintro e w2 ⟨rfl, hb2⟩
  obtain ⟨e1, e2, e3, e4, e5⟩ := HF.out
  rw [e1, e2, e3, e4, e5]
  clear e1 e2 e3 e4 e5
  have G := Lib.hid (G.out.below hb2 G.out.lt)
  have B := Lib.hid (B.out.trans (hb2.mono B.out.size))
  clear hb2 q0 q1 q2 q3 q4
  have q0 : w2.cell? ⟨w.heap.size, 0, none⟩ = some (.int .u8 op) := G.out.cell 0 rfl
  have q1 : w2.cell? ⟨w.heap.size, 1, none⟩ = some (.int .u8 a) := G.out.cell 1 rfl
  have q2 : w2.cell? ⟨w.heap.size, 2, none⟩ = some (.int .u8 b) := G.out.cell 2 rfl
  have q3 : w2.cell? ⟨w.heap.size, 3, none⟩ = some (.int .u8 c) := G.out.cell 3 rfl
  have q4 : w2.cell? ⟨w.heap.size, 4, none⟩ = some (.int .i32 imm) := G.out.cell 4 rfl
  have z0 := B.out.size
  have z1 := G.out.lt
  go_wp2
  generalize hw3 : w2.alloc _ = w3
  have GH : Hid (Blk w3 w2.heap.size 42 #[.bool true, .bool true, .bool false, .bool true]) := hw3 ▸ Blk.new _ _ _
  have G := Lib.hid (show Blk w3 w.heap.size 23 #[.int .u8 op, .int .u8 a, .int .u8 b, .int .u8 c, .int .i32 imm] from hw3 ▸ G.out.alloc _)
  have B : Hid (Below w.heap.size w w3) := hw3 ▸ B.out.alloc z0 _
  have L : Hid (Laid w3) := L.out.later B.out
  clear hw3 q0 q1 q2 q3 q4
  generalize hgh : w2.heap.size = gh at *
  clear hgh
  have q0 : ∀ u : Ext w3, u.val.cell? ⟨w.heap.size, 0, none⟩ = some (.int .u8 op) := fun u => u.cell (G.out.cell 0 rfl)
  have q4 : ∀ u : Ext w3, u.val.cell? ⟨w.heap.size, 4, none⟩ = some (.int .i32 imm) := fun u => u.cell (G.out.cell 4 rfl)
  have qn : ∀ u : Ext w3, u.val.cell? ⟨0, op, none⟩ = some (.string (nmB op)) := fun u => u.cell (L.out.name op HO2.out)
  have i1 : (0 : Int) ≤ (op : Int) := by omega
  have i2 : (op : Int) < 32 := by have := HO2.out; omega
  refine wp_region_ext (by kernel_rfl) (by kernel_rfl) ?_
  repeat (go_big_quiet_step (first
    | (go_at_call 25; exact Ext.call (itoa_any imm _ (L.out.later (Ext.below _)) (by omega) (by omega)))))
  refine wpQuiet_nil ?_
  rintro _ ⟨u, rfl⟩
  obtain ⟨w4, hb4⟩ := u
  dsimp only
  have G := Lib.hid (G.out.below hb4 G.out.lt)
  have GH := Lib.hid (GH.out.below hb4 GH.out.lt)
  have B := Lib.hid (B.out.trans (hb4.mono B.out.size))
  clear hb4 q0 q4 qn L
  have q0 : w4.cell? ⟨w.heap.size, 0, none⟩ = some (.int .u8 op) := G.out.cell 0 rfl
  have q1 : w4.cell? ⟨w.heap.size, 1, none⟩ = some (.int .u8 a) := G.out.cell 1 rfl
  have q2 : w4.cell? ⟨w.heap.size, 2, none⟩ = some (.int .u8 b) := G.out.cell 2 rfl
  have q3 : w4.cell? ⟨w.heap.size, 3, none⟩ = some (.int .u8 c) := G.out.cell 3 rfl
  have q4 : w4.cell? ⟨w.heap.size, 4, none⟩ = some (.int .i32 imm) := G.out.cell 4 rfl
  have h0 : w4.cell? ⟨gh, 0, none⟩ = some (.bool true) := GH.out.cell 0 rfl
  have h1 : w4.cell? ⟨gh, 1, none⟩ = some (.bool true) := GH.out.cell 1 rfl
  have h2 : w4.cell? ⟨gh, 2, none⟩ = some (.bool false) := GH.out.cell 2 rfl
  have h3 : w4.cell? ⟨gh, 3, none⟩ = some (.bool true) := GH.out.cell 3 rfl
  have z4 := G.out.lt
  have LN := Lib.hid (line_any (nmB op) w4.heap.size 2 [regB a, numB imm ++ ⟨#[40]⟩ ++ regB b ++ ⟨#[41]⟩] ((w4.alloc (.cells #[.string (regB a), .string (numB imm ++ ⟨#[40]⟩ ++ regB b ++ ⟨#[41]⟩)] 9)).drew) rfl (fun j x hx => by
    rw [Nat.zero_add]
    have hb5 : Blk ((w4.alloc (.cells #[.string (regB a), .string (numB imm ++ ⟨#[40]⟩ ++ regB b ++ ⟨#[41]⟩)] 9)).drew) w4.heap.size 9 ([regB a, numB imm ++ ⟨#[40]⟩ ++ regB b ++ ⟨#[41]⟩].map Value.string).toArray := Blk.new w4 _ _
    exact hb5.cell j (by simp only [List.getElem?_toArray, List.getElem?_map, hx, Option.map_some])) (by show w4.heap.size < (w4.alloc _).heap.size; simp) (by omega) (by omega) HL.out)
  have B5 : Hid (Below w.heap.size w ((w4.alloc (.cells #[.string (regB a), .string (numB imm ++ ⟨#[40]⟩ ++ regB b ++ ⟨#[41]⟩)] 9)).drew)) := (B.out.alloc B.out.size _).drew
  have p1 : ((w4.alloc (.cells #[.string (regB a), .string (numB imm ++ ⟨#[40]⟩ ++ regB b ++ ⟨#[41]⟩)] 9)).drew).cell? ⟨w.heap.size, 1, none⟩ = some (.int .u8 a) := (G.out.alloc _).cell 1 rfl
  have p2 : ((w4.alloc (.cells #[.string (regB a), .string (numB imm ++ ⟨#[40]⟩ ++ regB b ++ ⟨#[41]⟩)] 9)).drew).cell? ⟨w.heap.size, 2, none⟩ = some (.int .u8 b) := (G.out.alloc _).cell 2 rfl
  have p3 : ((w4.alloc (.cells #[.string (regB a), .string (numB imm ++ ⟨#[40]⟩ ++ regB b ++ ⟨#[41]⟩)] 9)).drew).cell? ⟨w.heap.size, 3, none⟩ = some (.int .u8 c) := (G.out.alloc _).cell 3 rfl
  have hS : w.heap.size < ((w4.alloc (.cells #[.string (regB a), .string (numB imm ++ ⟨#[40]⟩ ++ regB b ++ ⟨#[41]⟩)] 9)).drew).heap.size := by show w.heap.size < (w4.alloc _).heap.size; simp; omega
  go_wp2
  go_region_held3 (fun w' => w'.cell? ⟨w.heap.size, 1, none⟩ = some (.int .u8 a) ∧ w'.cell? ⟨w.heap.size, 2, none⟩ = some (.int .u8 b) ∧ w'.cell? ⟨w.heap.size, 3, none⟩ = some (.int .u8 c)) (first | go_keep | exact ⟨p1, p2, p3⟩ | assumption)
    (first
      | (go_at_call 24; refine (reg_any _ _ ?_).mono ?_; (omega); rintro e w' ⟨rfl, rfl⟩)
      | (go_at_call 26; refine LN.out.mono ?_; rintro e w6 ⟨rfl, hb6⟩; have hS6 : w6.cell? ⟨w.heap.size, 1, none⟩ = some (.int .u8 a) ∧ w6.cell? ⟨w.heap.size, 2, none⟩ = some (.int .u8 b) ∧ w6.cell? ⟨w.heap.size, 3, none⟩ = some (.int .u8 c) := ⟨(hb6.cell (p := ⟨w.heap.size, 1, none⟩) hS).trans p1, (hb6.cell (p := ⟨w.heap.size, 2, none⟩) hS).trans p2, (hb6.cell (p := ⟨w.heap.size, 3, none⟩) hS).trans p3⟩; have HB6 := Lib.hid (B5.out.trans (hb6.mono B5.out.size)); clear hb6))
  go_wp2
  go_ret
  unfold TextPost; rw [HT.out]
  exact ⟨rfl, HB6.out⟩

set_option maxHeartbeats 1000000 in
theorem text_b (op a b c : Nat) (imm : Int) (w : World) (hl : Laid w) (ho : op < 32) (ha : a ≤ 15) (hb : b ≤ 15) (hc : c ≤ 15) (im1 : -32768 ≤ imm) (im2 : imm ≤ 65535) (hf : fA op = true ∧ fB op = true ∧ fC op = false ∧ fI op = true ∧ fOk op = true) (hm : op < 20) (v : Nat) (he : encR ⟨op, a, b, c, imm⟩ = (v, 0)) (ht : txtB ⟨op, a, b, c, imm⟩ = lineB (nmB op) [regB a, regB b, numB imm]) :
    Calls Tryd.prog 15 #[.agg #[.int .u8 op, .int .u8 a, .int .u8 b, .int .u8 c, .int .i32 imm]] w (TextPost ⟨op, a, b, c, imm⟩ w) := by
  have HF := Lib.hid hf
  have HE := Lib.hid he
  have HT := Lib.hid ht
  have L := Lib.hid hl
  have HO2 := Lib.hid ho
  have HO : Hid (op < 256) := by have := HO2.out; show op < 256; omega
  have ho' : (op : Int) ≤ 31 := by omega
  have ha' : (a : Int) ≤ 15 := by omega
  have hb' : (b : Int) ≤ 15 := by omega
  have hc' : (c : Int) ≤ 15 := by omega
  have s1 := nm_le op
  have s2 := num_size im1 im2
  have s3 := reg_size hb
  have HL : Hid ((Lib.join ([regB a, regB b, numB imm].map (·.data.toList)) [44, 32]).length ≤ 1000000) := by
    have r1 := reg_le ha
    have r2 := reg_le hb
    have r3 := reg_le hc
    have r4 := num_le im1 im2
    show (Lib.join ([regB a, regB b, numB imm].map (·.data.toList)) [44, 32]).length ≤ 1000000
    simp [Lib.join, List.intercalate, List.intersperse] at r1 r2 r3 r4 ⊢
    omega
  clear hf he ht hl ho
  have t1 : ¬ (20 : Int) ≤ (op : Int) := by omega
  have t1b : decide ((20 : Int) ≤ (op : Int)) = false := by simpa using t1
  have t3 : ((op : Int) == 30) = false := by simp; omega
  clear hm
  go_enter Tryd.func15, Tryd.ntmps15
  go_wp2_with fail
  refine (enc_any ⟨op, a, b, c, imm⟩ _ HO.out).mono ?_
  rintro e w1 ⟨rfl, hb1⟩
  rw [HE.out]
  unfold encE
  have G : Hid (Blk w1 w.heap.size 23 #[.int .u8 op, .int .u8 a, .int .u8 b, .int .u8 c, .int .i32 imm]) := (Blk.new w _ _).below hb1 (by simp)
  have q0 : w1.cell? ⟨w.heap.size, 0, none⟩ = some (.int .u8 op) := G.out.cell 0 rfl
  have q1 : w1.cell? ⟨w.heap.size, 1, none⟩ = some (.int .u8 a) := G.out.cell 1 rfl
  have q2 : w1.cell? ⟨w.heap.size, 2, none⟩ = some (.int .u8 b) := G.out.cell 2 rfl
  have q3 : w1.cell? ⟨w.heap.size, 3, none⟩ = some (.int .u8 c) := G.out.cell 3 rfl
  have q4 : w1.cell? ⟨w.heap.size, 4, none⟩ = some (.int .i32 imm) := G.out.cell 4 rfl
  have B : Hid (Below w.heap.size w w1) := ((Below.refl _ _).alloc (Nat.le_refl _) _).trans (hb1.mono (by simp))
  clear hb1
  go_wp2_with fail
  refine (fields_any op _ HO.out).mono ?_
  rintro e w2 ⟨rfl, hb2⟩
  obtain ⟨e1, e2, e3, e4, e5⟩ := HF.out
  rw [e1, e2, e3, e4, e5]
  clear e1 e2 e3 e4 e5
  have G := Lib.hid (G.out.below hb2 G.out.lt)
  have B := Lib.hid (B.out.trans (hb2.mono B.out.size))
  clear hb2 q0 q1 q2 q3 q4
  have q0 : w2.cell? ⟨w.heap.size, 0, none⟩ = some (.int .u8 op) := G.out.cell 0 rfl
  have q1 : w2.cell? ⟨w.heap.size, 1, none⟩ = some (.int .u8 a) := G.out.cell 1 rfl
  have q2 : w2.cell? ⟨w.heap.size, 2, none⟩ = some (.int .u8 b) := G.out.cell 2 rfl
  have q3 : w2.cell? ⟨w.heap.size, 3, none⟩ = some (.int .u8 c) := G.out.cell 3 rfl
  have q4 : w2.cell? ⟨w.heap.size, 4, none⟩ = some (.int .i32 imm) := G.out.cell 4 rfl
  have z0 := B.out.size
  have z1 := G.out.lt
  go_wp2
  generalize hw3 : w2.alloc _ = w3
  have GH : Hid (Blk w3 w2.heap.size 42 #[.bool true, .bool true, .bool false, .bool true]) := hw3 ▸ Blk.new _ _ _
  have G := Lib.hid (show Blk w3 w.heap.size 23 #[.int .u8 op, .int .u8 a, .int .u8 b, .int .u8 c, .int .i32 imm] from hw3 ▸ G.out.alloc _)
  have B : Hid (Below w.heap.size w w3) := hw3 ▸ B.out.alloc z0 _
  have L : Hid (Laid w3) := L.out.later B.out
  clear hw3 q0 q1 q2 q3 q4
  generalize hgh : w2.heap.size = gh at *
  clear hgh
  have q0 : ∀ u : Ext w3, u.val.cell? ⟨w.heap.size, 0, none⟩ = some (.int .u8 op) := fun u => u.cell (G.out.cell 0 rfl)
  have q4 : ∀ u : Ext w3, u.val.cell? ⟨w.heap.size, 4, none⟩ = some (.int .i32 imm) := fun u => u.cell (G.out.cell 4 rfl)
  have qn : ∀ u : Ext w3, u.val.cell? ⟨0, op, none⟩ = some (.string (nmB op)) := fun u => u.cell (L.out.name op HO2.out)
  have i1 : (0 : Int) ≤ (op : Int) := by omega
  have i2 : (op : Int) < 32 := by have := HO2.out; omega
  refine wp_region_ext (by kernel_rfl) (by kernel_rfl) ?_
  repeat (go_big_quiet_step (first
    | (go_at_call 25; exact Ext.call (itoa_any imm _ (L.out.later (Ext.below _)) (by omega) (by omega)))))
  refine wpQuiet_nil ?_
  rintro _ ⟨u, rfl⟩
  obtain ⟨w4, hb4⟩ := u
  dsimp only
  have G := Lib.hid (G.out.below hb4 G.out.lt)
  have GH := Lib.hid (GH.out.below hb4 GH.out.lt)
  have B := Lib.hid (B.out.trans (hb4.mono B.out.size))
  clear hb4 q0 q4 qn L
  have q0 : w4.cell? ⟨w.heap.size, 0, none⟩ = some (.int .u8 op) := G.out.cell 0 rfl
  have q1 : w4.cell? ⟨w.heap.size, 1, none⟩ = some (.int .u8 a) := G.out.cell 1 rfl
  have q2 : w4.cell? ⟨w.heap.size, 2, none⟩ = some (.int .u8 b) := G.out.cell 2 rfl
  have q3 : w4.cell? ⟨w.heap.size, 3, none⟩ = some (.int .u8 c) := G.out.cell 3 rfl
  have q4 : w4.cell? ⟨w.heap.size, 4, none⟩ = some (.int .i32 imm) := G.out.cell 4 rfl
  have h0 : w4.cell? ⟨gh, 0, none⟩ = some (.bool true) := GH.out.cell 0 rfl
  have h1 : w4.cell? ⟨gh, 1, none⟩ = some (.bool true) := GH.out.cell 1 rfl
  have h2 : w4.cell? ⟨gh, 2, none⟩ = some (.bool false) := GH.out.cell 2 rfl
  have h3 : w4.cell? ⟨gh, 3, none⟩ = some (.bool true) := GH.out.cell 3 rfl
  have z4 := G.out.lt
  have LN := Lib.hid (line_any (nmB op) w4.heap.size 3 [regB a, regB b, numB imm] ((w4.alloc (.cells #[.string (regB a), .string (regB b), .string (numB imm)] 9)).drew) rfl (fun j x hx => by
    rw [Nat.zero_add]
    have hb5 : Blk ((w4.alloc (.cells #[.string (regB a), .string (regB b), .string (numB imm)] 9)).drew) w4.heap.size 9 ([regB a, regB b, numB imm].map Value.string).toArray := Blk.new w4 _ _
    exact hb5.cell j (by simp only [List.getElem?_toArray, List.getElem?_map, hx, Option.map_some])) (by show w4.heap.size < (w4.alloc _).heap.size; simp) (by omega) (by omega) HL.out)
  have B5 : Hid (Below w.heap.size w ((w4.alloc (.cells #[.string (regB a), .string (regB b), .string (numB imm)] 9)).drew)) := (B.out.alloc B.out.size _).drew
  have p1 : ((w4.alloc (.cells #[.string (regB a), .string (regB b), .string (numB imm)] 9)).drew).cell? ⟨w.heap.size, 1, none⟩ = some (.int .u8 a) := (G.out.alloc _).cell 1 rfl
  have p2 : ((w4.alloc (.cells #[.string (regB a), .string (regB b), .string (numB imm)] 9)).drew).cell? ⟨w.heap.size, 2, none⟩ = some (.int .u8 b) := (G.out.alloc _).cell 2 rfl
  have p3 : ((w4.alloc (.cells #[.string (regB a), .string (regB b), .string (numB imm)] 9)).drew).cell? ⟨w.heap.size, 3, none⟩ = some (.int .u8 c) := (G.out.alloc _).cell 3 rfl
  have hS : w.heap.size < ((w4.alloc (.cells #[.string (regB a), .string (regB b), .string (numB imm)] 9)).drew).heap.size := by show w.heap.size < (w4.alloc _).heap.size; simp; omega
  go_wp2
  go_region_held3 (fun w' => w'.cell? ⟨w.heap.size, 1, none⟩ = some (.int .u8 a) ∧ w'.cell? ⟨w.heap.size, 2, none⟩ = some (.int .u8 b) ∧ w'.cell? ⟨w.heap.size, 3, none⟩ = some (.int .u8 c)) (first | go_keep | exact ⟨p1, p2, p3⟩ | assumption)
    (first
      | (go_at_call 24; refine (reg_any _ _ ?_).mono ?_; (omega); rintro e w' ⟨rfl, rfl⟩)
      | (go_at_call 26; refine LN.out.mono ?_; rintro e w6 ⟨rfl, hb6⟩; have hS6 : w6.cell? ⟨w.heap.size, 1, none⟩ = some (.int .u8 a) ∧ w6.cell? ⟨w.heap.size, 2, none⟩ = some (.int .u8 b) ∧ w6.cell? ⟨w.heap.size, 3, none⟩ = some (.int .u8 c) := ⟨(hb6.cell (p := ⟨w.heap.size, 1, none⟩) hS).trans p1, (hb6.cell (p := ⟨w.heap.size, 2, none⟩) hS).trans p2, (hb6.cell (p := ⟨w.heap.size, 3, none⟩) hS).trans p3⟩; have HB6 := Lib.hid (B5.out.trans (hb6.mono B5.out.size)); clear hb6))
  go_wp2
  go_ret
  unfold TextPost; rw [HT.out]
  exact ⟨rfl, HB6.out⟩

set_option maxHeartbeats 1000000 in
theorem text_b2 (op a b c : Nat) (imm : Int) (w : World) (hl : Laid w) (ho : op < 32) (ha : a ≤ 15) (hb : b ≤ 15) (hc : c ≤ 15) (im1 : -32768 ≤ imm) (im2 : imm ≤ 65535) (hf : fA op = true ∧ fB op = true ∧ fC op = false ∧ fI op = true ∧ fOk op = true) (hm : 24 < op ∧ op < 30) (v : Nat) (he : encR ⟨op, a, b, c, imm⟩ = (v, 0)) (ht : txtB ⟨op, a, b, c, imm⟩ = lineB (nmB op) [regB a, regB b, numB imm]) :
    Calls Tryd.prog 15 #[.agg #[.int .u8 op, .int .u8 a, .int .u8 b, .int .u8 c, .int .i32 imm]] w (TextPost ⟨op, a, b, c, imm⟩ w) := by
  have HF := Lib.hid hf
  have HE := Lib.hid he
  have HT := Lib.hid ht
  have L := Lib.hid hl
  have HO2 := Lib.hid ho
  have HO : Hid (op < 256) := by have := HO2.out; show op < 256; omega
  have ho' : (op : Int) ≤ 31 := by omega
  have ha' : (a : Int) ≤ 15 := by omega
  have hb' : (b : Int) ≤ 15 := by omega
  have hc' : (c : Int) ≤ 15 := by omega
  have s1 := nm_le op
  have s2 := num_size im1 im2
  have s3 := reg_size hb
  have HL : Hid ((Lib.join ([regB a, regB b, numB imm].map (·.data.toList)) [44, 32]).length ≤ 1000000) := by
    have r1 := reg_le ha
    have r2 := reg_le hb
    have r3 := reg_le hc
    have r4 := num_le im1 im2
    show (Lib.join ([regB a, regB b, numB imm].map (·.data.toList)) [44, 32]).length ≤ 1000000
    simp [Lib.join, List.intercalate, List.intersperse] at r1 r2 r3 r4 ⊢
    omega
  clear hf he ht hl ho
  have t1 : (20 : Int) ≤ (op : Int) := by omega
  have t2 : ¬ (op : Int) ≤ 24 := by omega
  have t2b : decide ((op : Int) ≤ 24) = false := by simpa using t2
  have t3 : ((op : Int) == 30) = false := by simp; omega
  clear hm
  go_enter Tryd.func15, Tryd.ntmps15
  go_wp2_with fail
  refine (enc_any ⟨op, a, b, c, imm⟩ _ HO.out).mono ?_
  rintro e w1 ⟨rfl, hb1⟩
  rw [HE.out]
  unfold encE
  have G : Hid (Blk w1 w.heap.size 23 #[.int .u8 op, .int .u8 a, .int .u8 b, .int .u8 c, .int .i32 imm]) := (Blk.new w _ _).below hb1 (by simp)
  have q0 : w1.cell? ⟨w.heap.size, 0, none⟩ = some (.int .u8 op) := G.out.cell 0 rfl
  have q1 : w1.cell? ⟨w.heap.size, 1, none⟩ = some (.int .u8 a) := G.out.cell 1 rfl
  have q2 : w1.cell? ⟨w.heap.size, 2, none⟩ = some (.int .u8 b) := G.out.cell 2 rfl
  have q3 : w1.cell? ⟨w.heap.size, 3, none⟩ = some (.int .u8 c) := G.out.cell 3 rfl
  have q4 : w1.cell? ⟨w.heap.size, 4, none⟩ = some (.int .i32 imm) := G.out.cell 4 rfl
  have B : Hid (Below w.heap.size w w1) := ((Below.refl _ _).alloc (Nat.le_refl _) _).trans (hb1.mono (by simp))
  clear hb1
  go_wp2_with fail
  refine (fields_any op _ HO.out).mono ?_
  rintro e w2 ⟨rfl, hb2⟩
  obtain ⟨e1, e2, e3, e4, e5⟩ := HF.out
  rw [e1, e2, e3, e4, e5]
  clear e1 e2 e3 e4 e5
  have G := Lib.hid (G.out.below hb2 G.out.lt)
  have B := Lib.hid (B.out.trans (hb2.mono B.out.size))
  clear hb2 q0 q1 q2 q3 q4
  have q0 : w2.cell? ⟨w.heap.size, 0, none⟩ = some (.int .u8 op) := G.out.cell 0 rfl
  have q1 : w2.cell? ⟨w.heap.size, 1, none⟩ = some (.int .u8 a) := G.out.cell 1 rfl
  have q2 : w2.cell? ⟨w.heap.size, 2, none⟩ = some (.int .u8 b) := G.out.cell 2 rfl
  have q3 : w2.cell? ⟨w.heap.size, 3, none⟩ = some (.int .u8 c) := G.out.cell 3 rfl
  have q4 : w2.cell? ⟨w.heap.size, 4, none⟩ = some (.int .i32 imm) := G.out.cell 4 rfl
  have z0 := B.out.size
  have z1 := G.out.lt
  go_wp2
  generalize hw3 : w2.alloc _ = w3
  have GH : Hid (Blk w3 w2.heap.size 42 #[.bool true, .bool true, .bool false, .bool true]) := hw3 ▸ Blk.new _ _ _
  have G := Lib.hid (show Blk w3 w.heap.size 23 #[.int .u8 op, .int .u8 a, .int .u8 b, .int .u8 c, .int .i32 imm] from hw3 ▸ G.out.alloc _)
  have B : Hid (Below w.heap.size w w3) := hw3 ▸ B.out.alloc z0 _
  have L : Hid (Laid w3) := L.out.later B.out
  clear hw3 q0 q1 q2 q3 q4
  generalize hgh : w2.heap.size = gh at *
  clear hgh
  have q0 : ∀ u : Ext w3, u.val.cell? ⟨w.heap.size, 0, none⟩ = some (.int .u8 op) := fun u => u.cell (G.out.cell 0 rfl)
  have q4 : ∀ u : Ext w3, u.val.cell? ⟨w.heap.size, 4, none⟩ = some (.int .i32 imm) := fun u => u.cell (G.out.cell 4 rfl)
  have qn : ∀ u : Ext w3, u.val.cell? ⟨0, op, none⟩ = some (.string (nmB op)) := fun u => u.cell (L.out.name op HO2.out)
  have i1 : (0 : Int) ≤ (op : Int) := by omega
  have i2 : (op : Int) < 32 := by have := HO2.out; omega
  refine wp_region_ext (by kernel_rfl) (by kernel_rfl) ?_
  repeat (go_big_quiet_step (first
    | (go_at_call 25; exact Ext.call (itoa_any imm _ (L.out.later (Ext.below _)) (by omega) (by omega)))))
  refine wpQuiet_nil ?_
  rintro _ ⟨u, rfl⟩
  obtain ⟨w4, hb4⟩ := u
  dsimp only
  have G := Lib.hid (G.out.below hb4 G.out.lt)
  have GH := Lib.hid (GH.out.below hb4 GH.out.lt)
  have B := Lib.hid (B.out.trans (hb4.mono B.out.size))
  clear hb4 q0 q4 qn L
  have q0 : w4.cell? ⟨w.heap.size, 0, none⟩ = some (.int .u8 op) := G.out.cell 0 rfl
  have q1 : w4.cell? ⟨w.heap.size, 1, none⟩ = some (.int .u8 a) := G.out.cell 1 rfl
  have q2 : w4.cell? ⟨w.heap.size, 2, none⟩ = some (.int .u8 b) := G.out.cell 2 rfl
  have q3 : w4.cell? ⟨w.heap.size, 3, none⟩ = some (.int .u8 c) := G.out.cell 3 rfl
  have q4 : w4.cell? ⟨w.heap.size, 4, none⟩ = some (.int .i32 imm) := G.out.cell 4 rfl
  have h0 : w4.cell? ⟨gh, 0, none⟩ = some (.bool true) := GH.out.cell 0 rfl
  have h1 : w4.cell? ⟨gh, 1, none⟩ = some (.bool true) := GH.out.cell 1 rfl
  have h2 : w4.cell? ⟨gh, 2, none⟩ = some (.bool false) := GH.out.cell 2 rfl
  have h3 : w4.cell? ⟨gh, 3, none⟩ = some (.bool true) := GH.out.cell 3 rfl
  have z4 := G.out.lt
  have LN := Lib.hid (line_any (nmB op) w4.heap.size 3 [regB a, regB b, numB imm] ((w4.alloc (.cells #[.string (regB a), .string (regB b), .string (numB imm)] 9)).drew) rfl (fun j x hx => by
    rw [Nat.zero_add]
    have hb5 : Blk ((w4.alloc (.cells #[.string (regB a), .string (regB b), .string (numB imm)] 9)).drew) w4.heap.size 9 ([regB a, regB b, numB imm].map Value.string).toArray := Blk.new w4 _ _
    exact hb5.cell j (by simp only [List.getElem?_toArray, List.getElem?_map, hx, Option.map_some])) (by show w4.heap.size < (w4.alloc _).heap.size; simp) (by omega) (by omega) HL.out)
  have B5 : Hid (Below w.heap.size w ((w4.alloc (.cells #[.string (regB a), .string (regB b), .string (numB imm)] 9)).drew)) := (B.out.alloc B.out.size _).drew
  have p1 : ((w4.alloc (.cells #[.string (regB a), .string (regB b), .string (numB imm)] 9)).drew).cell? ⟨w.heap.size, 1, none⟩ = some (.int .u8 a) := (G.out.alloc _).cell 1 rfl
  have p2 : ((w4.alloc (.cells #[.string (regB a), .string (regB b), .string (numB imm)] 9)).drew).cell? ⟨w.heap.size, 2, none⟩ = some (.int .u8 b) := (G.out.alloc _).cell 2 rfl
  have p3 : ((w4.alloc (.cells #[.string (regB a), .string (regB b), .string (numB imm)] 9)).drew).cell? ⟨w.heap.size, 3, none⟩ = some (.int .u8 c) := (G.out.alloc _).cell 3 rfl
  have hS : w.heap.size < ((w4.alloc (.cells #[.string (regB a), .string (regB b), .string (numB imm)] 9)).drew).heap.size := by show w.heap.size < (w4.alloc _).heap.size; simp; omega
  go_wp2
  go_region_held3 (fun w' => w'.cell? ⟨w.heap.size, 1, none⟩ = some (.int .u8 a) ∧ w'.cell? ⟨w.heap.size, 2, none⟩ = some (.int .u8 b) ∧ w'.cell? ⟨w.heap.size, 3, none⟩ = some (.int .u8 c)) (first | go_keep | exact ⟨p1, p2, p3⟩ | assumption)
    (first
      | (go_at_call 24; refine (reg_any _ _ ?_).mono ?_; (omega); rintro e w' ⟨rfl, rfl⟩)
      | (go_at_call 26; refine LN.out.mono ?_; rintro e w6 ⟨rfl, hb6⟩; have hS6 : w6.cell? ⟨w.heap.size, 1, none⟩ = some (.int .u8 a) ∧ w6.cell? ⟨w.heap.size, 2, none⟩ = some (.int .u8 b) ∧ w6.cell? ⟨w.heap.size, 3, none⟩ = some (.int .u8 c) := ⟨(hb6.cell (p := ⟨w.heap.size, 1, none⟩) hS).trans p1, (hb6.cell (p := ⟨w.heap.size, 2, none⟩) hS).trans p2, (hb6.cell (p := ⟨w.heap.size, 3, none⟩) hS).trans p3⟩; have HB6 := Lib.hid (B5.out.trans (hb6.mono B5.out.size)); clear hb6))
  go_wp2
  go_ret
  unfold TextPost; rw [HT.out]
  exact ⟨rfl, HB6.out⟩

set_option maxHeartbeats 1000000 in
theorem text_a (op a b c : Nat) (imm : Int) (w : World) (hl : Laid w) (ho : op < 32) (ha : a ≤ 15) (hb : b ≤ 15) (hc : c ≤ 15) (im1 : -32768 ≤ imm) (im2 : imm ≤ 65535) (hf : fA op = true ∧ fB op = false ∧ fC op = false ∧ fI op = true ∧ fOk op = true) (hm : op = 19) (v : Nat) (he : encR ⟨op, a, b, c, imm⟩ = (v, 0)) (ht : txtB ⟨op, a, b, c, imm⟩ = lineB (nmB op) [regB a, numB imm]) :
    Calls Tryd.prog 15 #[.agg #[.int .u8 op, .int .u8 a, .int .u8 b, .int .u8 c, .int .i32 imm]] w (TextPost ⟨op, a, b, c, imm⟩ w) := by
  have HF := Lib.hid hf
  have HE := Lib.hid he
  have HT := Lib.hid ht
  have L := Lib.hid hl
  have HO2 := Lib.hid ho
  have HO : Hid (op < 256) := by have := HO2.out; show op < 256; omega
  have ho' : (op : Int) ≤ 31 := by omega
  have ha' : (a : Int) ≤ 15 := by omega
  have hb' : (b : Int) ≤ 15 := by omega
  have hc' : (c : Int) ≤ 15 := by omega
  have s1 := nm_le op
  have s2 := num_size im1 im2
  have s3 := reg_size hb
  have HL : Hid ((Lib.join ([regB a, numB imm].map (·.data.toList)) [44, 32]).length ≤ 1000000) := by
    have r1 := reg_le ha
    have r2 := reg_le hb
    have r3 := reg_le hc
    have r4 := num_le im1 im2
    show (Lib.join ([regB a, numB imm].map (·.data.toList)) [44, 32]).length ≤ 1000000
    simp [Lib.join, List.intercalate, List.intersperse] at r1 r2 r3 r4 ⊢
    omega
  clear hf he ht hl ho
  have t1 : ¬ (20 : Int) ≤ (op : Int) := by omega
  have t1b : decide ((20 : Int) ≤ (op : Int)) = false := by simpa using t1
  have t3 : ((op : Int) == 30) = false := by simp; omega
  clear hm
  go_enter Tryd.func15, Tryd.ntmps15
  go_wp2_with fail
  refine (enc_any ⟨op, a, b, c, imm⟩ _ HO.out).mono ?_
  rintro e w1 ⟨rfl, hb1⟩
  rw [HE.out]
  unfold encE
  have G : Hid (Blk w1 w.heap.size 23 #[.int .u8 op, .int .u8 a, .int .u8 b, .int .u8 c, .int .i32 imm]) := (Blk.new w _ _).below hb1 (by simp)
  have q0 : w1.cell? ⟨w.heap.size, 0, none⟩ = some (.int .u8 op) := G.out.cell 0 rfl
  have q1 : w1.cell? ⟨w.heap.size, 1, none⟩ = some (.int .u8 a) := G.out.cell 1 rfl
  have q2 : w1.cell? ⟨w.heap.size, 2, none⟩ = some (.int .u8 b) := G.out.cell 2 rfl
  have q3 : w1.cell? ⟨w.heap.size, 3, none⟩ = some (.int .u8 c) := G.out.cell 3 rfl
  have q4 : w1.cell? ⟨w.heap.size, 4, none⟩ = some (.int .i32 imm) := G.out.cell 4 rfl
  have B : Hid (Below w.heap.size w w1) := ((Below.refl _ _).alloc (Nat.le_refl _) _).trans (hb1.mono (by simp))
  clear hb1
  go_wp2_with fail
  refine (fields_any op _ HO.out).mono ?_
  rintro e w2 ⟨rfl, hb2⟩
  obtain ⟨e1, e2, e3, e4, e5⟩ := HF.out
  rw [e1, e2, e3, e4, e5]
  clear e1 e2 e3 e4 e5
  have G := Lib.hid (G.out.below hb2 G.out.lt)
  have B := Lib.hid (B.out.trans (hb2.mono B.out.size))
  clear hb2 q0 q1 q2 q3 q4
  have q0 : w2.cell? ⟨w.heap.size, 0, none⟩ = some (.int .u8 op) := G.out.cell 0 rfl
  have q1 : w2.cell? ⟨w.heap.size, 1, none⟩ = some (.int .u8 a) := G.out.cell 1 rfl
  have q2 : w2.cell? ⟨w.heap.size, 2, none⟩ = some (.int .u8 b) := G.out.cell 2 rfl
  have q3 : w2.cell? ⟨w.heap.size, 3, none⟩ = some (.int .u8 c) := G.out.cell 3 rfl
  have q4 : w2.cell? ⟨w.heap.size, 4, none⟩ = some (.int .i32 imm) := G.out.cell 4 rfl
  have z0 := B.out.size
  have z1 := G.out.lt
  go_wp2
  generalize hw3 : w2.alloc _ = w3
  have GH : Hid (Blk w3 w2.heap.size 42 #[.bool true, .bool false, .bool false, .bool true]) := hw3 ▸ Blk.new _ _ _
  have G := Lib.hid (show Blk w3 w.heap.size 23 #[.int .u8 op, .int .u8 a, .int .u8 b, .int .u8 c, .int .i32 imm] from hw3 ▸ G.out.alloc _)
  have B : Hid (Below w.heap.size w w3) := hw3 ▸ B.out.alloc z0 _
  have L : Hid (Laid w3) := L.out.later B.out
  clear hw3 q0 q1 q2 q3 q4
  generalize hgh : w2.heap.size = gh at *
  clear hgh
  have q0 : ∀ u : Ext w3, u.val.cell? ⟨w.heap.size, 0, none⟩ = some (.int .u8 op) := fun u => u.cell (G.out.cell 0 rfl)
  have q4 : ∀ u : Ext w3, u.val.cell? ⟨w.heap.size, 4, none⟩ = some (.int .i32 imm) := fun u => u.cell (G.out.cell 4 rfl)
  have qn : ∀ u : Ext w3, u.val.cell? ⟨0, op, none⟩ = some (.string (nmB op)) := fun u => u.cell (L.out.name op HO2.out)
  have i1 : (0 : Int) ≤ (op : Int) := by omega
  have i2 : (op : Int) < 32 := by have := HO2.out; omega
  refine wp_region_ext (by kernel_rfl) (by kernel_rfl) ?_
  repeat (go_big_quiet_step (first
    | (go_at_call 25; exact Ext.call (itoa_any imm _ (L.out.later (Ext.below _)) (by omega) (by omega)))))
  refine wpQuiet_nil ?_
  rintro _ ⟨u, rfl⟩
  obtain ⟨w4, hb4⟩ := u
  dsimp only
  have G := Lib.hid (G.out.below hb4 G.out.lt)
  have GH := Lib.hid (GH.out.below hb4 GH.out.lt)
  have B := Lib.hid (B.out.trans (hb4.mono B.out.size))
  clear hb4 q0 q4 qn L
  have q0 : w4.cell? ⟨w.heap.size, 0, none⟩ = some (.int .u8 op) := G.out.cell 0 rfl
  have q1 : w4.cell? ⟨w.heap.size, 1, none⟩ = some (.int .u8 a) := G.out.cell 1 rfl
  have q2 : w4.cell? ⟨w.heap.size, 2, none⟩ = some (.int .u8 b) := G.out.cell 2 rfl
  have q3 : w4.cell? ⟨w.heap.size, 3, none⟩ = some (.int .u8 c) := G.out.cell 3 rfl
  have q4 : w4.cell? ⟨w.heap.size, 4, none⟩ = some (.int .i32 imm) := G.out.cell 4 rfl
  have h0 : w4.cell? ⟨gh, 0, none⟩ = some (.bool true) := GH.out.cell 0 rfl
  have h1 : w4.cell? ⟨gh, 1, none⟩ = some (.bool false) := GH.out.cell 1 rfl
  have h2 : w4.cell? ⟨gh, 2, none⟩ = some (.bool false) := GH.out.cell 2 rfl
  have h3 : w4.cell? ⟨gh, 3, none⟩ = some (.bool true) := GH.out.cell 3 rfl
  go_wp2_with fail
  refine (reg_any a _ (by omega)).mono ?_
  rintro e w' ⟨rfl, rfl⟩
  go_wp2_with fail
  have B5 : Hid (Below w.heap.size w (w4.alloc (.cells #[.string (regB a), .string (numB imm)] 9))) := B.out.alloc B.out.size _
  refine (line_any (nmB op) w4.heap.size 2 [regB a, numB imm] _ rfl (fun j x hx => by
    rw [Nat.zero_add]
    have hb5 : Blk (w4.alloc (.cells #[.string (regB a), .string (numB imm)] 9)) w4.heap.size 9 ([regB a, numB imm].map Value.string).toArray := Blk.new w4 _ _
    exact hb5.cell j (by simp only [List.getElem?_toArray, List.getElem?_map, hx, Option.map_some])) (by simp) (by omega) (by omega) HL.out).mono ?_
  rintro e w6 ⟨rfl, hb6⟩
  have B := Lib.hid (B5.out.trans (hb6.mono B5.out.size))
  clear hb6
  go_wp2
  go_ret
  unfold TextPost; rw [HT.out]
  exact ⟨rfl, B.out⟩

set_option maxHeartbeats 1000000 in
theorem text_a2 (op a b c : Nat) (imm : Int) (w : World) (hl : Laid w) (ho : op < 32) (ha : a ≤ 15) (hb : b ≤ 15) (hc : c ≤ 15) (im1 : -32768 ≤ imm) (im2 : imm ≤ 65535) (hf : fA op = true ∧ fB op = false ∧ fC op = false ∧ fI op = true ∧ fOk op = true) (hm : op = 29) (v : Nat) (he : encR ⟨op, a, b, c, imm⟩ = (v, 0)) (ht : txtB ⟨op, a, b, c, imm⟩ = lineB (nmB op) [regB a, numB imm]) :
    Calls Tryd.prog 15 #[.agg #[.int .u8 op, .int .u8 a, .int .u8 b, .int .u8 c, .int .i32 imm]] w (TextPost ⟨op, a, b, c, imm⟩ w) := by
  have HF := Lib.hid hf
  have HE := Lib.hid he
  have HT := Lib.hid ht
  have L := Lib.hid hl
  have HO2 := Lib.hid ho
  have HO : Hid (op < 256) := by have := HO2.out; show op < 256; omega
  have ho' : (op : Int) ≤ 31 := by omega
  have ha' : (a : Int) ≤ 15 := by omega
  have hb' : (b : Int) ≤ 15 := by omega
  have hc' : (c : Int) ≤ 15 := by omega
  have s1 := nm_le op
  have s2 := num_size im1 im2
  have s3 := reg_size hb
  have HL : Hid ((Lib.join ([regB a, numB imm].map (·.data.toList)) [44, 32]).length ≤ 1000000) := by
    have r1 := reg_le ha
    have r2 := reg_le hb
    have r3 := reg_le hc
    have r4 := num_le im1 im2
    show (Lib.join ([regB a, numB imm].map (·.data.toList)) [44, 32]).length ≤ 1000000
    simp [Lib.join, List.intercalate, List.intersperse] at r1 r2 r3 r4 ⊢
    omega
  clear hf he ht hl ho
  have t1 : (20 : Int) ≤ (op : Int) := by omega
  have t2 : ¬ (op : Int) ≤ 24 := by omega
  have t2b : decide ((op : Int) ≤ 24) = false := by simpa using t2
  have t3 : ((op : Int) == 30) = false := by simp; omega
  clear hm
  go_enter Tryd.func15, Tryd.ntmps15
  go_wp2_with fail
  refine (enc_any ⟨op, a, b, c, imm⟩ _ HO.out).mono ?_
  rintro e w1 ⟨rfl, hb1⟩
  rw [HE.out]
  unfold encE
  have G : Hid (Blk w1 w.heap.size 23 #[.int .u8 op, .int .u8 a, .int .u8 b, .int .u8 c, .int .i32 imm]) := (Blk.new w _ _).below hb1 (by simp)
  have q0 : w1.cell? ⟨w.heap.size, 0, none⟩ = some (.int .u8 op) := G.out.cell 0 rfl
  have q1 : w1.cell? ⟨w.heap.size, 1, none⟩ = some (.int .u8 a) := G.out.cell 1 rfl
  have q2 : w1.cell? ⟨w.heap.size, 2, none⟩ = some (.int .u8 b) := G.out.cell 2 rfl
  have q3 : w1.cell? ⟨w.heap.size, 3, none⟩ = some (.int .u8 c) := G.out.cell 3 rfl
  have q4 : w1.cell? ⟨w.heap.size, 4, none⟩ = some (.int .i32 imm) := G.out.cell 4 rfl
  have B : Hid (Below w.heap.size w w1) := ((Below.refl _ _).alloc (Nat.le_refl _) _).trans (hb1.mono (by simp))
  clear hb1
  go_wp2_with fail
  refine (fields_any op _ HO.out).mono ?_
  rintro e w2 ⟨rfl, hb2⟩
  obtain ⟨e1, e2, e3, e4, e5⟩ := HF.out
  rw [e1, e2, e3, e4, e5]
  clear e1 e2 e3 e4 e5
  have G := Lib.hid (G.out.below hb2 G.out.lt)
  have B := Lib.hid (B.out.trans (hb2.mono B.out.size))
  clear hb2 q0 q1 q2 q3 q4
  have q0 : w2.cell? ⟨w.heap.size, 0, none⟩ = some (.int .u8 op) := G.out.cell 0 rfl
  have q1 : w2.cell? ⟨w.heap.size, 1, none⟩ = some (.int .u8 a) := G.out.cell 1 rfl
  have q2 : w2.cell? ⟨w.heap.size, 2, none⟩ = some (.int .u8 b) := G.out.cell 2 rfl
  have q3 : w2.cell? ⟨w.heap.size, 3, none⟩ = some (.int .u8 c) := G.out.cell 3 rfl
  have q4 : w2.cell? ⟨w.heap.size, 4, none⟩ = some (.int .i32 imm) := G.out.cell 4 rfl
  have z0 := B.out.size
  have z1 := G.out.lt
  go_wp2
  generalize hw3 : w2.alloc _ = w3
  have GH : Hid (Blk w3 w2.heap.size 42 #[.bool true, .bool false, .bool false, .bool true]) := hw3 ▸ Blk.new _ _ _
  have G := Lib.hid (show Blk w3 w.heap.size 23 #[.int .u8 op, .int .u8 a, .int .u8 b, .int .u8 c, .int .i32 imm] from hw3 ▸ G.out.alloc _)
  have B : Hid (Below w.heap.size w w3) := hw3 ▸ B.out.alloc z0 _
  have L : Hid (Laid w3) := L.out.later B.out
  clear hw3 q0 q1 q2 q3 q4
  generalize hgh : w2.heap.size = gh at *
  clear hgh
  have q0 : ∀ u : Ext w3, u.val.cell? ⟨w.heap.size, 0, none⟩ = some (.int .u8 op) := fun u => u.cell (G.out.cell 0 rfl)
  have q4 : ∀ u : Ext w3, u.val.cell? ⟨w.heap.size, 4, none⟩ = some (.int .i32 imm) := fun u => u.cell (G.out.cell 4 rfl)
  have qn : ∀ u : Ext w3, u.val.cell? ⟨0, op, none⟩ = some (.string (nmB op)) := fun u => u.cell (L.out.name op HO2.out)
  have i1 : (0 : Int) ≤ (op : Int) := by omega
  have i2 : (op : Int) < 32 := by have := HO2.out; omega
  refine wp_region_ext (by kernel_rfl) (by kernel_rfl) ?_
  repeat (go_big_quiet_step (first
    | (go_at_call 25; exact Ext.call (itoa_any imm _ (L.out.later (Ext.below _)) (by omega) (by omega)))))
  refine wpQuiet_nil ?_
  rintro _ ⟨u, rfl⟩
  obtain ⟨w4, hb4⟩ := u
  dsimp only
  have G := Lib.hid (G.out.below hb4 G.out.lt)
  have GH := Lib.hid (GH.out.below hb4 GH.out.lt)
  have B := Lib.hid (B.out.trans (hb4.mono B.out.size))
  clear hb4 q0 q4 qn L
  have q0 : w4.cell? ⟨w.heap.size, 0, none⟩ = some (.int .u8 op) := G.out.cell 0 rfl
  have q1 : w4.cell? ⟨w.heap.size, 1, none⟩ = some (.int .u8 a) := G.out.cell 1 rfl
  have q2 : w4.cell? ⟨w.heap.size, 2, none⟩ = some (.int .u8 b) := G.out.cell 2 rfl
  have q3 : w4.cell? ⟨w.heap.size, 3, none⟩ = some (.int .u8 c) := G.out.cell 3 rfl
  have q4 : w4.cell? ⟨w.heap.size, 4, none⟩ = some (.int .i32 imm) := G.out.cell 4 rfl
  have h0 : w4.cell? ⟨gh, 0, none⟩ = some (.bool true) := GH.out.cell 0 rfl
  have h1 : w4.cell? ⟨gh, 1, none⟩ = some (.bool false) := GH.out.cell 1 rfl
  have h2 : w4.cell? ⟨gh, 2, none⟩ = some (.bool false) := GH.out.cell 2 rfl
  have h3 : w4.cell? ⟨gh, 3, none⟩ = some (.bool true) := GH.out.cell 3 rfl
  go_wp2_with fail
  refine (reg_any a _ (by omega)).mono ?_
  rintro e w' ⟨rfl, rfl⟩
  go_wp2_with fail
  have B5 : Hid (Below w.heap.size w (w4.alloc (.cells #[.string (regB a), .string (numB imm)] 9))) := B.out.alloc B.out.size _
  refine (line_any (nmB op) w4.heap.size 2 [regB a, numB imm] _ rfl (fun j x hx => by
    rw [Nat.zero_add]
    have hb5 : Blk (w4.alloc (.cells #[.string (regB a), .string (numB imm)] 9)) w4.heap.size 9 ([regB a, numB imm].map Value.string).toArray := Blk.new w4 _ _
    exact hb5.cell j (by simp only [List.getElem?_toArray, List.getElem?_map, hx, Option.map_some])) (by simp) (by omega) (by omega) HL.out).mono ?_
  rintro e w6 ⟨rfl, hb6⟩
  have B := Lib.hid (B5.out.trans (hb6.mono B5.out.size))
  clear hb6
  go_wp2
  go_ret
  unfold TextPost; rw [HT.out]
  exact ⟨rfl, B.out⟩

set_option maxHeartbeats 1000000 in
theorem text_s (op a b c : Nat) (imm : Int) (w : World) (hl : Laid w) (ho : op < 32) (ha : a ≤ 15) (hb : b ≤ 15) (hc : c ≤ 15) (im1 : -32768 ≤ imm) (im2 : imm ≤ 65535) (hf : fA op = false ∧ fB op = false ∧ fC op = false ∧ fI op = true ∧ fOk op = true) (hm : op = 31) (v : Nat) (he : encR ⟨op, a, b, c, imm⟩ = (v, 0)) (ht : txtB ⟨op, a, b, c, imm⟩ = lineB (nmB op) [numB imm]) :
    Calls Tryd.prog 15 #[.agg #[.int .u8 op, .int .u8 a, .int .u8 b, .int .u8 c, .int .i32 imm]] w (TextPost ⟨op, a, b, c, imm⟩ w) := by
  have HF := Lib.hid hf
  have HE := Lib.hid he
  have HT := Lib.hid ht
  have L := Lib.hid hl
  have HO2 := Lib.hid ho
  have HO : Hid (op < 256) := by have := HO2.out; show op < 256; omega
  have ho' : (op : Int) ≤ 31 := by omega
  have ha' : (a : Int) ≤ 15 := by omega
  have hb' : (b : Int) ≤ 15 := by omega
  have hc' : (c : Int) ≤ 15 := by omega
  have s1 := nm_le op
  have s2 := num_size im1 im2
  have s3 := reg_size hb
  have HL : Hid ((Lib.join ([numB imm].map (·.data.toList)) [44, 32]).length ≤ 1000000) := by
    have r1 := reg_le ha
    have r2 := reg_le hb
    have r3 := reg_le hc
    have r4 := num_le im1 im2
    show (Lib.join ([numB imm].map (·.data.toList)) [44, 32]).length ≤ 1000000
    simp [Lib.join, List.intercalate, List.intersperse] at r1 r2 r3 r4 ⊢
    omega
  clear hf he ht hl ho
  have t1 : (20 : Int) ≤ (op : Int) := by omega
  have t2 : ¬ (op : Int) ≤ 24 := by omega
  have t2b : decide ((op : Int) ≤ 24) = false := by simpa using t2
  have t3 : ((op : Int) == 30) = false := by simp; omega
  clear hm
  go_enter Tryd.func15, Tryd.ntmps15
  go_wp2_with fail
  refine (enc_any ⟨op, a, b, c, imm⟩ _ HO.out).mono ?_
  rintro e w1 ⟨rfl, hb1⟩
  rw [HE.out]
  unfold encE
  have G : Hid (Blk w1 w.heap.size 23 #[.int .u8 op, .int .u8 a, .int .u8 b, .int .u8 c, .int .i32 imm]) := (Blk.new w _ _).below hb1 (by simp)
  have q0 : w1.cell? ⟨w.heap.size, 0, none⟩ = some (.int .u8 op) := G.out.cell 0 rfl
  have q1 : w1.cell? ⟨w.heap.size, 1, none⟩ = some (.int .u8 a) := G.out.cell 1 rfl
  have q2 : w1.cell? ⟨w.heap.size, 2, none⟩ = some (.int .u8 b) := G.out.cell 2 rfl
  have q3 : w1.cell? ⟨w.heap.size, 3, none⟩ = some (.int .u8 c) := G.out.cell 3 rfl
  have q4 : w1.cell? ⟨w.heap.size, 4, none⟩ = some (.int .i32 imm) := G.out.cell 4 rfl
  have B : Hid (Below w.heap.size w w1) := ((Below.refl _ _).alloc (Nat.le_refl _) _).trans (hb1.mono (by simp))
  clear hb1
  go_wp2_with fail
  refine (fields_any op _ HO.out).mono ?_
  rintro e w2 ⟨rfl, hb2⟩
  obtain ⟨e1, e2, e3, e4, e5⟩ := HF.out
  rw [e1, e2, e3, e4, e5]
  clear e1 e2 e3 e4 e5
  have G := Lib.hid (G.out.below hb2 G.out.lt)
  have B := Lib.hid (B.out.trans (hb2.mono B.out.size))
  clear hb2 q0 q1 q2 q3 q4
  have q0 : w2.cell? ⟨w.heap.size, 0, none⟩ = some (.int .u8 op) := G.out.cell 0 rfl
  have q1 : w2.cell? ⟨w.heap.size, 1, none⟩ = some (.int .u8 a) := G.out.cell 1 rfl
  have q2 : w2.cell? ⟨w.heap.size, 2, none⟩ = some (.int .u8 b) := G.out.cell 2 rfl
  have q3 : w2.cell? ⟨w.heap.size, 3, none⟩ = some (.int .u8 c) := G.out.cell 3 rfl
  have q4 : w2.cell? ⟨w.heap.size, 4, none⟩ = some (.int .i32 imm) := G.out.cell 4 rfl
  have z0 := B.out.size
  have z1 := G.out.lt
  go_wp2
  generalize hw3 : w2.alloc _ = w3
  have GH : Hid (Blk w3 w2.heap.size 42 #[.bool false, .bool false, .bool false, .bool true]) := hw3 ▸ Blk.new _ _ _
  have G := Lib.hid (show Blk w3 w.heap.size 23 #[.int .u8 op, .int .u8 a, .int .u8 b, .int .u8 c, .int .i32 imm] from hw3 ▸ G.out.alloc _)
  have B : Hid (Below w.heap.size w w3) := hw3 ▸ B.out.alloc z0 _
  have L : Hid (Laid w3) := L.out.later B.out
  clear hw3 q0 q1 q2 q3 q4
  generalize hgh : w2.heap.size = gh at *
  clear hgh
  have q0 : ∀ u : Ext w3, u.val.cell? ⟨w.heap.size, 0, none⟩ = some (.int .u8 op) := fun u => u.cell (G.out.cell 0 rfl)
  have q4 : ∀ u : Ext w3, u.val.cell? ⟨w.heap.size, 4, none⟩ = some (.int .i32 imm) := fun u => u.cell (G.out.cell 4 rfl)
  have qn : ∀ u : Ext w3, u.val.cell? ⟨0, op, none⟩ = some (.string (nmB op)) := fun u => u.cell (L.out.name op HO2.out)
  have i1 : (0 : Int) ≤ (op : Int) := by omega
  have i2 : (op : Int) < 32 := by have := HO2.out; omega
  refine wp_region_ext (by kernel_rfl) (by kernel_rfl) ?_
  repeat (go_big_quiet_step (first
    | (go_at_call 25; exact Ext.call (itoa_any imm _ (L.out.later (Ext.below _)) (by omega) (by omega)))))
  refine wpQuiet_nil ?_
  rintro _ ⟨u, rfl⟩
  obtain ⟨w4, hb4⟩ := u
  dsimp only
  have G := Lib.hid (G.out.below hb4 G.out.lt)
  have GH := Lib.hid (GH.out.below hb4 GH.out.lt)
  have B := Lib.hid (B.out.trans (hb4.mono B.out.size))
  clear hb4 q0 q4 qn L
  have q0 : w4.cell? ⟨w.heap.size, 0, none⟩ = some (.int .u8 op) := G.out.cell 0 rfl
  have q1 : w4.cell? ⟨w.heap.size, 1, none⟩ = some (.int .u8 a) := G.out.cell 1 rfl
  have q2 : w4.cell? ⟨w.heap.size, 2, none⟩ = some (.int .u8 b) := G.out.cell 2 rfl
  have q3 : w4.cell? ⟨w.heap.size, 3, none⟩ = some (.int .u8 c) := G.out.cell 3 rfl
  have q4 : w4.cell? ⟨w.heap.size, 4, none⟩ = some (.int .i32 imm) := G.out.cell 4 rfl
  have h0 : w4.cell? ⟨gh, 0, none⟩ = some (.bool false) := GH.out.cell 0 rfl
  have h1 : w4.cell? ⟨gh, 1, none⟩ = some (.bool false) := GH.out.cell 1 rfl
  have h2 : w4.cell? ⟨gh, 2, none⟩ = some (.bool false) := GH.out.cell 2 rfl
  have h3 : w4.cell? ⟨gh, 3, none⟩ = some (.bool true) := GH.out.cell 3 rfl
  go_wp2_with fail
  have B5 : Hid (Below w.heap.size w (w4.alloc (.cells #[.string (numB imm)] 9))) := B.out.alloc B.out.size _
  refine (line_any (nmB op) w4.heap.size 1 [numB imm] _ rfl (fun j x hx => by
    rw [Nat.zero_add]
    have hb5 : Blk (w4.alloc (.cells #[.string (numB imm)] 9)) w4.heap.size 9 ([numB imm].map Value.string).toArray := Blk.new w4 _ _
    exact hb5.cell j (by simp only [List.getElem?_toArray, List.getElem?_map, hx, Option.map_some])) (by simp) (by omega) (by omega) HL.out).mono ?_
  rintro e w6 ⟨rfl, hb6⟩
  have B := Lib.hid (B5.out.trans (hb6.mono B5.out.size))
  clear hb6
  go_wp2
  go_ret
  unfold TextPost; rw [HT.out]
  exact ⟨rfl, B.out⟩

set_option maxHeartbeats 1000000 in
theorem text_none (x : Ins) (w : World) (ho : x.op < 256) (h : (encR x).2 ≠ 0) : Calls Tryd.prog 15 #[insE x] w (TextPost x w) := by
  obtain ⟨op, a, b, c, imm⟩ := x
  have HO : Hid (op < 256) := ho
  have HT := Lib.hid (show txtB ⟨op, a, b, c, imm⟩ = ⟨#[]⟩ by unfold txtB; rw [if_pos h])
  show Calls Tryd.prog 15 #[.agg #[.int .u8 op, .int .u8 a, .int .u8 b, .int .u8 c, .int .i32 imm]] w (TextPost ⟨op, a, b, c, imm⟩ w)
  cases hr : encR ⟨op, a, b, c, imm⟩ with | mk v en
  rw [hr] at h
  have h1 : (en != 0) = true := by simpa using h
  have HR := Lib.hid hr
  clear h hr ho
  go_enter Tryd.func15, Tryd.ntmps15
  go_wp2_with fail
  refine (enc_any ⟨op, a, b, c, imm⟩ _ HO.out).mono ?_
  rintro e w1 ⟨rfl, hb1⟩
  rw [HR.out]
  unfold encE
  have B : Hid (Below w.heap.size w w1) := ((Below.refl _ _).alloc (Nat.le_refl _) _).trans (hb1.mono (by simp))
  clear hb1
  go_wp2
  go_ret
  unfold TextPost; rw [HT.out]
  exact ⟨rfl, B.out⟩
theorem text_any (x : Ins) (w : World) (hl : Laid w) (ho : x.op < 256) : Calls Tryd.prog 15 #[insE x] w (TextPost x w) := by
  by_cases h : (encR x).2 = 0
  case neg => exact text_none x w ho h
  obtain ⟨h1, h2, h3, h4, h5, h6, h7⟩ := enc_ok h
  obtain ⟨i1, i2⟩ := imm_ok h
  have e : txtB x = if fC x.op = true then lineB (nmB x.op) [regB x.a, regB x.b, regB x.c]
    else if fM x.op = true then lineB (nmB x.op) [regB x.a, numB x.imm ++ ⟨#[40]⟩ ++ regB x.b ++ ⟨#[41]⟩]
    else if fB x.op = true then lineB (nmB x.op) [regB x.a, regB x.b, numB x.imm]
    else if fA x.op = true then lineB (nmB x.op) [regB x.a, numB x.imm]
    else lineB (nmB x.op) [numB x.imm] := by unfold txtB; rw [if_neg (by simpa using h)]
  obtain ⟨op, a, b, c, imm⟩ := x
  dsimp only at *
  simp only [fOk, decide_eq_true_eq] at h1
  by_cases c1 : op ≤ 13
  · have hf := f_one h1.1 c1
    exact text_c op a b c imm w hl (by omega) h2 h3 h4 i1 i2 hf _ h7 (by rw [e, if_pos hf.2.2.1])
  by_cases c2 : op = 19 ∨ op = 29
  · have hf := f_three c2
    have hm : ¬ fM op = true := by simp only [fM, decide_eq_true_eq]; omega
    have ht := e.trans (by rw [if_neg (by simp [hf.2.2.1]), if_neg hm, if_neg (by simp [hf.2.1]), if_pos hf.1])
    rcases c2 with c2 | c2
    · exact text_a op a b c imm w hl (by omega) h2 h3 h4 i1 i2 hf c2 _ h7 ht
    · exact text_a2 op a b c imm w hl (by omega) h2 h3 h4 i1 i2 hf c2 _ h7 ht
  by_cases c3 : op = 31
  · have hf : fA op = false ∧ fB op = false ∧ fC op = false ∧ fI op = true ∧ fOk op = true := by rw [c3]; exact f_sys
    have hm : ¬ fM op = true := by simp only [fM, decide_eq_true_eq]; omega
    exact text_s op a b c imm w hl (by omega) h2 h3 h4 i1 i2 hf c3 _ h7 (e.trans (by rw [if_neg (by simp [hf.2.2.1]), if_neg hm, if_neg (by simp [hf.2.1]), if_neg (by simp [hf.1])]))
  have hf := f_two (op := op) (by omega) (by omega) (by omega) (by omega)
  by_cases c4 : 20 ≤ op ∧ op ≤ 24 ∨ op = 30
  · have hm : fM op = true := by simp only [fM, decide_eq_true_eq]; omega
    have ht := e.trans (by rw [if_neg (by simp [hf.2.2.1]), if_pos hm])
    rcases c4 with c4 | c4
    · exact text_m op a b c imm w hl (by omega) h2 h3 h4 i1 i2 hf c4 _ h7 ht
    · exact text_j op a b c imm w hl (by omega) h2 h3 h4 i1 i2 hf c4 _ h7 ht
  · have hm : ¬ fM op = true := by simp only [fM, decide_eq_true_eq]; omega
    have ht := e.trans (by rw [if_neg (by simp [hf.2.2.1]), if_neg hm, if_pos hf.2.1])
    by_cases c5 : op < 20
    · exact text_b op a b c imm w hl (by omega) h2 h3 h4 i1 i2 hf c5 _ h7 ht
    · exact text_b2 op a b c imm w hl (by omega) h2 h3 h4 i1 i2 hf (by omega) _ h7 ht
end Go.Proofs.YtnaknooefjiahaaDoor
