/-
  Lines: two instructions that may be have one line just if they are one.
-/
import Derived.Test.YtnaknooefjiahaaDoorText
namespace Go.Proofs.YtnaknooefjiahaaDoor
open Go.RowKit
set_option linter.unusedVariables false
set_option linter.unusedSimpArgs false

theorem split_at {c : UInt8} : ∀ {a b r r' : List UInt8}, c ∉ a → c ∉ b → a ++ c :: r = b ++ c :: r' → a = b ∧ r = r'
  | [], [], r, r', _, _, h => by simpa using h
  | [], y :: b, r, r', _, hb, h => by
    simp only [List.nil_append, List.cons_append, List.cons.injEq] at h
    exact absurd (h.1 ▸ List.mem_cons_self) hb
  | x :: a, [], r, r', ha, _, h => by
    simp only [List.nil_append, List.cons_append, List.cons.injEq] at h
    exact absurd (h.1 ▸ List.mem_cons_self) ha
  | x :: a, y :: b, r, r', ha, hb, h => by
    simp only [List.cons_append, List.cons.injEq] at h
    obtain ⟨e1, e2⟩ := split_at (fun m => ha (List.mem_cons_of_mem _ m)) (fun m => hb (List.mem_cons_of_mem _ m)) h.2
    exact ⟨by rw [h.1, e1], e2⟩
def digVal (l : List UInt8) : Nat := l.foldl (fun acc d => acc * 10 + (d.toNat - 48)) 0
theorem digVal_snoc (l : List UInt8) (d : UInt8) : digVal (l ++ [d]) = digVal l * 10 + (d.toNat - 48) := by simp [digVal]
theorem digVal_dec (u : Nat) : digVal (Lib.decDigits u) = u := by
  induction u using Nat.strongRecOn with
  | _ u ih =>
    rw [Lib.decDigits]
    split
    · rename_i h
      simp [digVal, UInt8.toNat_ofNat']; omega
    · rename_i h
      rw [digVal_snoc, ih (u / 10) (by omega), UInt8.toNat_ofNat']
      omega
theorem dec_inj {u v : Nat} (h : Lib.decDigits u = Lib.decDigits v) : u = v := by rw [← digVal_dec u, h, digVal_dec]
theorem dec_digit (u : Nat) : ∀ d ∈ Lib.decDigits u, 48 ≤ d.toNat ∧ d.toNat ≤ 57 := by
  induction u using Nat.strongRecOn with
  | _ u ih =>
    rw [Lib.decDigits]
    split
    · intro d hd
      simp only [List.mem_singleton] at hd
      subst hd
      rw [UInt8.toNat_ofNat']; omega
    · intro d hd
      simp only [List.mem_append, List.mem_singleton] at hd
      rcases hd with hd | rfl
      · exact ih (u / 10) (by omega) d hd
      · rw [UInt8.toNat_ofNat']; omega
theorem itoa_inj {m n : Int} (h : Lib.itoa m = Lib.itoa n) : m = n := by
  have key : ∀ (u : Nat) l, Lib.decDigits u ≠ 45 :: l := fun u l e => by
    have := dec_digit u 45 (by rw [e]; simp)
    simp at this
  unfold Lib.itoa at h
  by_cases hm : m < 0 <;> by_cases hn : n < 0
  · rw [if_pos hm, if_pos hn] at h
    injection h with _ h
    have := dec_inj h; omega
  · rw [if_pos hm, if_neg hn] at h
    exact absurd h.symm (key _ _)
  · rw [if_neg hm, if_pos hn] at h
    exact absurd h (key _ _)
  · rw [if_neg hm, if_neg hn] at h
    have := dec_inj h; omega
theorem itoa_chars (n : Int) : ∀ d ∈ Lib.itoa n, 45 = d.toNat ∨ 48 ≤ d.toNat ∧ d.toNat ≤ 57 := by
  intro d hd
  unfold Lib.itoa at hd
  split at hd
  · simp only [List.mem_cons] at hd
    rcases hd with rfl | hd
    · left; rfl
    · right; exact dec_digit _ d hd
  · right; exact dec_digit _ d hd
def regL (n : Nat) : List UInt8 := 114 :: Lib.decDigits n
theorem regB_list (n : Nat) : (regB n).data.toList = regL n := by unfold regB regL; simp
theorem numB_list (n : Int) : (numB n).data.toList = Lib.itoa n := rfl
theorem reg_no {n : Nat} {c : UInt8} (h : c.toNat < 48) : c ∉ regL n := by
  unfold regL
  simp only [List.mem_cons, not_or]
  refine ⟨fun e => ?_, fun m => ?_⟩
  · subst e; simp at h
  · have := dec_digit n c m; omega
theorem num_no {n : Int} {c : UInt8} (h : c.toNat < 48) (h2 : c.toNat ≠ 45) : c ∉ Lib.itoa n := fun m => by
  have := itoa_chars n c m; omega
theorem reg_inj {m n : Nat} (h : regL m = regL n) : m = n := by unfold regL at h; injection h with _ h; exact dec_inj h
theorem nm_no : ∀ l ∈ nmT, (32 : UInt8) ∉ l := by decide +kernel
theorem nm_no' (op : Nat) : (32 : UInt8) ∉ nmT.getD op [] := by
  by_cases h : op < nmT.length
  · simp only [List.getD, List.getElem?_eq_getElem h, Option.getD_some]; exact nm_no _ (List.getElem_mem h)
  · simp only [List.getD, List.getElem?_eq_none (show nmT.length ≤ op by omega)]; simp
theorem nm_inj0 : ∀ i j : Fin 32, 1 ≤ i.val → 1 ≤ j.val → nmT.getD i.val [] = nmT.getD j.val [] → i = j := by decide +kernel
theorem nm_inj {i j : Nat} (h1 : 1 ≤ i) (h2 : i ≤ 31) (h3 : 1 ≤ j) (h4 : j ≤ 31) (h : nmT.getD i [] = nmT.getD j []) : i = j := by
  have := nm_inj0 ⟨i, by omega⟩ ⟨j, by omega⟩ h1 h3 h
  simpa using this
/-- a line, as a list -/
theorem line_list (op : Nat) (xs : List ByteArray) : (lineB (nmB op) xs).data.toList = nmT.getD op [] ++ 32 :: Lib.join (xs.map (·.data.toList)) [44, 32] := by
  unfold lineB nmB; simp
theorem join1 (a : List UInt8) : Lib.join [a] [44, 32] = a := by simp [Lib.join]
theorem join2 (a b : List UInt8) : Lib.join [a, b] [44, 32] = a ++ 44 :: 32 :: b := by simp [Lib.join, List.intercalate, List.intersperse]
theorem join3 (a b c : List UInt8) : Lib.join [a, b, c] [44, 32] = a ++ 44 :: 32 :: (b ++ 44 :: 32 :: c) := by simp [Lib.join, List.intercalate, List.intersperse]
/-- what stands behind the name -/
def tailL (x : Ins) : List UInt8 :=
  if fC x.op = true then regL x.a ++ 44 :: 32 :: (regL x.b ++ 44 :: 32 :: regL x.c)
  else if fM x.op = true then regL x.a ++ 44 :: 32 :: (Lib.itoa x.imm ++ 40 :: (regL x.b ++ [41]))
  else if fB x.op = true then regL x.a ++ 44 :: 32 :: (regL x.b ++ 44 :: 32 :: Lib.itoa x.imm)
  else if fA x.op = true then regL x.a ++ 44 :: 32 :: Lib.itoa x.imm
  else Lib.itoa x.imm
theorem txt_list {x : Ins} (h : (encR x).2 = 0) : (txtB x).data.toList = nmT.getD x.op [] ++ 32 :: tailL x := by
  unfold txtB tailL
  rw [if_neg (by simpa using h)]
  split
  · rw [line_list]; simp only [List.map_cons, List.map_nil, regB_list, join3]
  · split
    · rw [line_list]; simp only [List.map_cons, List.map_nil, regB_list, join2]
      congr 3
      simp [regB_list, numB_list, ← regB_list]
    · split
      · rw [line_list]; simp only [List.map_cons, List.map_nil, regB_list, join3, numB_list]
      · split
        · rw [line_list]; simp only [List.map_cons, List.map_nil, regB_list, join2, numB_list]
        · rw [line_list]; simp only [List.map_cons, List.map_nil, join1, numB_list]
theorem txt_inj {x y : Ins} (hx : (encR x).2 = 0) (hy : (encR y).2 = 0) (h : txtB x = txtB y) : x = y := by
  have h : (txtB x).data.toList = (txtB y).data.toList := by rw [h]
  rw [txt_list hx, txt_list hy] at h
  obtain ⟨h1, h2⟩ := split_at (nm_no' _) (nm_no' _) h
  obtain ⟨a1, a2, a3, a4, a5, a6, a7, a8, a9, _⟩ := enc_parts hx
  obtain ⟨b1, b2, b3, b4, b5, b6, b7, b8, b9, _⟩ := enc_parts hy
  have eo := nm_inj a1 a2 b1 b2 h1
  obtain ⟨op, a, b, c, imm⟩ := x
  obtain ⟨op', a', b', c', imm'⟩ := y
  dsimp only at *
  subst eo
  have n44 : (44 : UInt8).toNat < 48 := by decide
  have n40 : (40 : UInt8).toNat < 48 := by decide
  have n41 : (41 : UInt8).toNat < 48 := by decide
  unfold tailL at h2
  dsimp only at h2
  by_cases c1 : fC op = true
  · rw [if_pos c1, if_pos c1] at h2
    obtain ⟨e1, h2⟩ := split_at (reg_no n44) (reg_no n44) h2
    injection h2 with _ h2
    obtain ⟨e2, h2⟩ := split_at (reg_no n44) (reg_no n44) h2
    injection h2 with _ h2
    have hi : fI op = false := by
      simp only [fC, decide_eq_true_eq] at c1
      simp only [fI, decide_eq_false_iff_not]; omega
    rw [reg_inj e1, reg_inj e2, reg_inj h2, a7 hi, b7 hi]
  rw [if_neg c1, if_neg c1] at h2
  have c1' : fC op = false := by simpa using c1
  by_cases c2 : fM op = true
  · rw [if_pos c2, if_pos c2] at h2
    obtain ⟨e1, h2⟩ := split_at (reg_no n44) (reg_no n44) h2
    injection h2 with _ h2
    obtain ⟨e2, h2⟩ := split_at (num_no n40 (by decide)) (num_no n40 (by decide)) h2
    obtain ⟨e3, _⟩ := split_at (reg_no n41) (reg_no n41) h2
    rw [reg_inj e1, itoa_inj e2, reg_inj e3, a6 c1', b6 c1']
  rw [if_neg c2, if_neg c2] at h2
  by_cases c3 : fB op = true
  · rw [if_pos c3, if_pos c3] at h2
    obtain ⟨e1, h2⟩ := split_at (reg_no n44) (reg_no n44) h2
    injection h2 with _ h2
    obtain ⟨e2, h2⟩ := split_at (reg_no n44) (reg_no n44) h2
    injection h2 with _ h2
    rw [reg_inj e1, reg_inj e2, itoa_inj h2, a6 c1', b6 c1']
  rw [if_neg c3, if_neg c3] at h2
  have c3' : fB op = false := by simpa using c3
  by_cases c4 : fA op = true
  · rw [if_pos c4, if_pos c4] at h2
    obtain ⟨e1, h2⟩ := split_at (reg_no n44) (reg_no n44) h2
    injection h2 with _ h2
    rw [reg_inj e1, itoa_inj h2, a6 c1', b6 c1', a9 c3', b9 c3']
  rw [if_neg c4, if_neg c4] at h2
  have c4' : fA op = false := by simpa using c4
  rw [itoa_inj h2, a6 c1', b6 c1', a9 c3', b9 c3', a8 c4', b8 c4']
end Go.Proofs.YtnaknooefjiahaaDoor
