/-
  Directories, plain: names, entries, their bytes.
-/
import Derived.Test.YtoanladhikdcaaaGreatExtPl
namespace Go.Proofs.YtoanladhikdcaaaGreat
set_option linter.unusedVariables false
set_option linter.unusedSimpArgs false
set_option maxRecDepth 100000
/-- an entry: a name and a number -/
structure EntV where
  name : ByteArray
  ino : Int
deriving DecidableEq
def entC (l : List EntV) : List Value := l.flatMap fun x => [.string x.name, .int .i64 x.ino]
theorem entC_len (l : List EntV) : (entC l).length = l.length * 2 := by
  induction l with
  | nil => rfl
  | cons x l ih => show ([_, _] ++ entC l).length = _; simp [ih]; omega
def mayC (c : UInt8) : Bool := decide (97 ≤ c.toNat ∧ c.toNat ≤ 122 ∨ 65 ≤ c.toNat ∧ c.toNat ≤ 90 ∨ 48 ≤ c.toNat ∧ c.toNat ≤ 57 ∨ c.toNat = 45 ∨ c.toNat = 95 ∨ c.toNat = 46)
def mayB (l : List UInt8) : Bool := decide (l ≠ [] ∧ l.length ≤ 24 ∧ l ≠ [46] ∧ l ≠ [46, 46]) && l.all mayC
def entB (x : EntV) : List UInt8 := putL x.ino.toNat 2 ++ putL x.name.size 1 ++ [0] ++ x.name.data.toList ++ List.replicate (28 - x.name.size) 0
def bytesE (l : List EntV) : List UInt8 := l.flatMap entB
def okE (x : EntV) : Bool := mayB x.name.data.toList && decide (1 ≤ x.ino ∧ x.ino ≤ 64)
def entK (b : List UInt8) : EntV := ⟨⟨((b.drop 4).take (b.getD 2 0).toNat).toArray⟩, (leN (b.take 2) : Nat)⟩
def ltB (a b : ByteArray) : Bool := decide (a.data.toList < b.data.toList)
def piece (b : List UInt8) (k : Nat) : List UInt8 := (b.drop (32 * k)).take 32
def goodK (b : List UInt8) : Bool := decide ((b.getD 2 0).toNat ≤ 24) && okE (entK b) && decide (entB (entK b) = b)
def stepK (b : List UInt8) (k : Nat) : Bool := goodK (piece b k) && (k == 0 || ltB (entK (piece b (k - 1))).name (entK (piece b k)).name)
def entsO (b : List UInt8) : Option (List EntV) :=
  if b.length % 32 = 0 ∧ ((List.range (b.length / 32)).all (stepK b)) = true then some ((List.range (b.length / 32)).map fun k => entK (piece b k)) else none
def listO (xs : List ByteArray) (n : Int) : List EntV × Int :=
  if inoE xs n ≠ 0 then ([], inoE xs n) else if (getR xs n).getD 0 0 ≠ 2 then ([], 11) else
  match entsO (readO xs n 0 8960).1 with
  | none => ([], 3)
  | some l => (l, 0)
def atE (l : List EntV) (nm : ByteArray) : Nat := l.countP fun x => ltB x.name nm
def hasE (l : List EntV) (nm : ByteArray) : Bool := l.any fun x => decide (x.name = nm)
def getE (l : List EntV) (nm : ByteArray) : Int := ((l.find? fun x => decide (x.name = nm)).map (·.ino)).getD 0
def findO (xs : List ByteArray) (n : Int) (nm : ByteArray) : Int × Int :=
  if mayB nm.data.toList = false then (0, 7) else if (listO xs n).2 ≠ 0 then (0, (listO xs n).2)
  else if hasE (listO xs n).1 nm = true then (getE (listO xs n).1 nm, 0) else (0, 9)
def insE (l : List EntV) (x : EntV) : List EntV := l.take (atE l x.name) ++ x :: l.drop (atE l x.name)
def outE (l : List EntV) (nm : ByteArray) : List EntV := l.filter fun x => !decide (x.name = nm)
def addO (xs : List ByteArray) (n : Int) (nm : ByteArray) (ino : Int) : List ByteArray × Int :=
  if mayB nm.data.toList = false then ([], 7) else if ino < 1 ∨ 64 < ino then ([], 2) else if (listO xs n).2 ≠ 0 then ([], (listO xs n).2)
  else if hasE (listO xs n).1 nm = true then ([], 8) else writeO xs n 0 (bytesE (insE (listO xs n).1 ⟨nm, ino⟩))
def dropO (xs : List ByteArray) (n : Int) (nm : ByteArray) : List ByteArray × Int :=
  if mayB nm.data.toList = false then ([], 7) else if (listO xs n).2 ≠ 0 then ([], (listO xs n).2)
  else if hasE (listO xs n).1 nm = false then ([], 9)
  else if outE (listO xs n).1 nm = [] then cutO xs n 0
  else if (writeO xs n 0 (bytesE (outE (listO xs n).1 nm))).2 ≠ 0 then ([], (writeO xs n 0 (bytesE (outE (listO xs n).1 nm))).2)
  else cutO (writeO xs n 0 (bytesE (outE (listO xs n).1 nm))).1 n ((32 * (outE (listO xs n).1 nm).length : Nat) : Int)
/-! ### bytes of an entry -/
theorem mayB_len {l : List UInt8} (h : mayB l = true) : 1 ≤ l.length ∧ l.length ≤ 24 := by
  unfold mayB at h
  simp only [Bool.and_eq_true, decide_eq_true_eq] at h
  obtain ⟨⟨h1, h2, _⟩, _⟩ := h
  exact ⟨by cases l <;> simp_all, h2⟩
theorem okE_ok {x : EntV} (h : okE x = true) : mayB x.name.data.toList = true ∧ 1 ≤ x.name.size ∧ x.name.size ≤ 24 ∧ 1 ≤ x.ino ∧ x.ino ≤ 64 := by
  unfold okE at h
  simp only [Bool.and_eq_true, decide_eq_true_eq] at h
  have := mayB_len h.1
  rw [Array.length_toList] at this
  exact ⟨h.1, this.1, this.2, h.2.1, h.2.2⟩
theorem entB_len {x : EntV} (h : x.name.size ≤ 28) : (entB x).length = 32 := by
  unfold entB
  have : x.name.data.toList.length = x.name.size := by rw [Array.length_toList]; rfl
  simp only [List.length_append, putL_length, List.length_replicate, this, List.length_cons, List.length_nil]
  omega
theorem entK_entB {x : EntV} (h : okE x = true) : entK (entB x) = x ∧ ((entB x).getD 2 0).toNat = x.name.size := by
  obtain ⟨h1, h2, h3, h4, h5⟩ := okE_ok h
  have hl : x.name.data.toList.length = x.name.size := by rw [Array.length_toList]; rfl
  have p2 : (putL x.ino.toNat 2).length = 2 := putL_length _ _
  have p1 : putL x.name.size 1 = [UInt8.ofNat x.name.size] := by
    show [UInt8.ofNat (bt x.name.size 0)] = _
    unfold bt
    rw [Nat.pow_zero, Nat.div_one, Nat.mod_eq_of_lt (by omega)]
  have e2 : ((entB x).getD 2 0).toNat = x.name.size := by
    unfold entB
    rw [p1]
    simp only [List.append_assoc]
    rw [List.getD_eq_getElem?_getD, List.getElem?_append_right (by omega), p2]
    simp
    omega
  refine ⟨?_, e2⟩
  unfold entK
  rw [e2]
  have eb : entB x = putL x.ino.toNat 2 ++ ([UInt8.ofNat x.name.size, 0] ++ (x.name.data.toList ++ List.replicate (28 - x.name.size) 0)) := by
    unfold entB; rw [p1]; simp only [List.append_assoc]; rfl
  rw [eb]
  have d4 : (putL x.ino.toNat 2 ++ ([UInt8.ofNat x.name.size, 0] ++ (x.name.data.toList ++ List.replicate (28 - x.name.size) 0))).drop 4 = x.name.data.toList ++ List.replicate (28 - x.name.size) 0 := by
    rw [List.drop_append, p2, List.drop_eq_nil_of_le (by omega)]
    rfl
  rw [d4, List.take_left' hl, List.take_left' p2, leN_putL]
  obtain ⟨⟨⟨a⟩⟩, i⟩ := x
  dsimp only at *
  congr 1
  omega
theorem goodK_entB {x : EntV} (h : okE x = true) : goodK (entB x) = true := by
  obtain ⟨e1, e2⟩ := entK_entB h
  unfold goodK
  rw [e1, e2, h]
  simp [(okE_ok h).2.2.1]
theorem goodK_ok {b : List UInt8} (h : goodK b = true) : okE (entK b) = true ∧ entB (entK b) = b := by
  unfold goodK at h
  simp only [Bool.and_eq_true, decide_eq_true_eq] at h
  exact ⟨h.1.2, h.2⟩
/-! ### rows of entries -/
structure ValidE (l : List EntV) : Prop where
  ok : ∀ x ∈ l, okE x = true
  rise : l.Pairwise fun x y => ltB x.name y.name = true
theorem bytesE_cons (x : EntV) (l : List EntV) : bytesE (x :: l) = entB x ++ bytesE l := rfl
theorem bytesE_app (k l : List EntV) : bytesE (k ++ l) = bytesE k ++ bytesE l := by unfold bytesE; simp
theorem bytesE_len : ∀ {l : List EntV}, (∀ x ∈ l, okE x = true) → (bytesE l).length = 32 * l.length
  | [], _ => rfl
  | x :: l, h => by
    rw [bytesE_cons, List.length_append, entB_len (Nat.le_trans (okE_ok (h x (by simp))).2.2.1 (by decide)), bytesE_len (fun y hy => h y (by simp [hy]))]
    simp; omega
theorem bytesE_piece : ∀ {l : List EntV}, (∀ x ∈ l, okE x = true) → ∀ k (hk : k < l.length), piece (bytesE l) k = entB l[k]
  | [], _, k, hk => absurd hk (Nat.not_lt_zero _)
  | x :: l, h, k, hk => by
    have hx : (entB x).length = 32 := entB_len (Nat.le_trans (okE_ok (h x (by simp))).2.2.1 (by decide))
    unfold piece
    rw [bytesE_cons]
    cases k with
    | zero => rw [Nat.mul_zero, List.drop_zero, List.take_left' hx]; rfl
    | succ k =>
      rw [List.drop_append, List.drop_eq_nil_of_le (by omega), List.nil_append, hx, show 32 * (k + 1) - 32 = 32 * k by omega]
      exact bytesE_piece (fun y hy => h y (by simp [hy])) k (by simpa using hk)
theorem entsO_bytesE {l : List EntV} (h : ValidE l) : entsO (bytesE l) = some l := by
  have hl := bytesE_len h.ok
  have hp := bytesE_piece h.ok
  have hd : (bytesE l).length / 32 = l.length := by omega
  unfold entsO
  rw [if_pos, hd]
  · congr 1
    apply List.ext_getElem?
    intro k
    by_cases hk : k < l.length
    · rw [List.getElem?_map, List.getElem?_range hk, Option.map_some, hp k hk, (entK_entB (h.ok _ (List.getElem_mem hk))).1, List.getElem?_eq_getElem hk]
    · rw [List.getElem?_eq_none (by simp; omega), List.getElem?_eq_none (by omega)]
  · refine ⟨by omega, ?_⟩
    rw [hd, List.all_eq_true]
    intro k hk
    have hk := List.mem_range.1 hk
    unfold stepK
    rw [hp k hk, goodK_entB (h.ok _ (List.getElem_mem hk)), Bool.true_and]
    by_cases h0 : k = 0
    · subst h0; rfl
    · rw [hp (k - 1) (by omega), (entK_entB (h.ok _ (List.getElem_mem _))).1, (entK_entB (h.ok _ (List.getElem_mem _))).1]
      rw [List.pairwise_iff_getElem.1 h.rise (k - 1) k (by omega) hk (by omega)]
      simp
theorem lt_trans8 {a b c : List UInt8} (h : a < b) (k : b < c) : a < c := List.lt_trans h k
theorem ltB_trans {a b c : ByteArray} (h : ltB a b = true) (k : ltB b c = true) : ltB a c = true := by
  unfold ltB at *
  simp only [decide_eq_true_eq] at *
  exact lt_trans8 h k
theorem ltB_irrefl (a : ByteArray) : ltB a a = false := by
  unfold ltB
  exact decide_eq_false (List.lt_irrefl _)
theorem ltB_tri {a b : ByteArray} (h : ltB a b = false) (k : ltB b a = false) : a = b := by
  unfold ltB at *
  simp only [decide_eq_false_iff_not] at *
  have e : a.data.toList = b.data.toList := List.le_antisymm (List.not_lt.1 k) (List.not_lt.1 h)
  cases a; cases b
  congr 1
  exact Array.toList_inj.1 e
theorem entsO_some {b : List UInt8} {l : List EntV} (h : entsO b = some l) : bytesE l = b ∧ ValidE l ∧ b.length = 32 * l.length := by
  unfold entsO at h
  split at h
  · rename_i hc
    obtain ⟨hm, ha⟩ := hc
    rw [List.all_eq_true] at ha
    have e := (Option.some.inj h).symm
    have hl : l.length = b.length / 32 := by rw [e]; simp
    have hg : ∀ k (hk : k < l.length), l[k] = entK (piece b k) ∧ okE l[k] = true ∧ entB l[k] = piece b k := fun k hk => by
      have e2 : l[k] = entK (piece b k) := by
        have := congrArg (·[k]?) e
        rw [List.getElem?_eq_getElem hk, List.getElem?_map, List.getElem?_range (by omega)] at this
        exact Option.some.inj this
      have := ha k (List.mem_range.2 (by omega))
      unfold stepK at this
      simp only [Bool.and_eq_true] at this
      have := goodK_ok this.1
      exact ⟨e2, by rw [e2]; exact this.1, by rw [e2]; exact this.2⟩
    have hok : ∀ x ∈ l, okE x = true := fun x hx => by
      obtain ⟨k, hk, rfl⟩ := List.mem_iff_getElem.1 hx
      exact (hg k hk).2.1
    have hlen := bytesE_len hok
    refine ⟨?_, ⟨hok, ?_⟩, by omega⟩
    · apply List.ext_getElem?
      intro i
      by_cases hi : i < b.length
      · have hk : i / 32 < l.length := by omega
        have := congrArg (·[i % 32]?) ((bytesE_piece hok (i / 32) hk).trans (hg (i / 32) hk).2.2)
        unfold piece at this
        rw [List.getElem?_take_of_lt (by omega), List.getElem?_take_of_lt (by omega), List.getElem?_drop, List.getElem?_drop, show 32 * (i / 32) + i % 32 = i by omega] at this
        exact this
      · rw [List.getElem?_eq_none (by omega), List.getElem?_eq_none (by omega)]
    · have adj : ∀ k, (hk : k + 1 < l.length) → ltB l[k].name l[k + 1].name = true := fun k hk => by
        have := ha (k + 1) (List.mem_range.2 (by omega))
        unfold stepK at this
        simp only [Bool.and_eq_true, Bool.or_eq_true, beq_iff_eq] at this
        rw [(hg k (by omega)).1, (hg (k + 1) hk).1]
        exact this.2.resolve_left (by omega)
      have far : ∀ d i, (hi : i + d + 1 < l.length) → ltB l[i].name l[i + d + 1].name = true := fun d => by
        induction d with
        | zero => intro i hi; exact adj i hi
        | succ d ih => intro i hi; exact ltB_trans (ih i (by omega)) (adj (i + d + 1) (by omega))
      rw [List.pairwise_iff_getElem]
      intro i j hi hj hij
      have := far (j - i - 1) i (by omega)
      have e : i + (j - i - 1) + 1 = j := by omega
      simpa [e] using this
  · cases h
/-! ### the place of a name -/
theorem atE_le (l : List EntV) (nm : ByteArray) : atE l nm ≤ l.length := List.countP_le_length
theorem atE_zero {l : List EntV} {nm : ByteArray} (h : ∀ x ∈ l, ltB x.name nm = false) : atE l nm = 0 := by
  unfold atE
  rw [List.countP_eq_zero]
  intro x hx
  simp [h x hx]
theorem atE_cons (y : EntV) (l : List EntV) (nm : ByteArray) : atE (y :: l) nm = atE l nm + if ltB y.name nm = true then 1 else 0 := by
  unfold atE
  rw [List.countP_cons]
theorem rise_above {y : EntV} {l : List EntV} {nm : ByteArray} (h : ∀ x ∈ l, ltB y.name x.name = true) (hy : ltB y.name nm = false) : ∀ x ∈ l, ltB x.name nm = false := fun x hx => by
  cases hh : ltB x.name nm with
  | false => rfl
  | true => rw [ltB_trans (h x hx) hh] at hy; cases hy
theorem at_split {nm : ByteArray} : ∀ {l : List EntV}, (l.Pairwise fun x y => ltB x.name y.name = true) → (∀ x ∈ l.take (atE l nm), ltB x.name nm = true) ∧ (∀ x ∈ l.drop (atE l nm), ltB x.name nm = false)
  | [], _ => ⟨fun x hx => by simp at hx, fun x hx => by simp at hx⟩
  | y :: l, h => by
    have h := List.pairwise_cons.1 h
    rw [atE_cons]
    cases hy : ltB y.name nm with
    | true =>
      have := at_split (nm := nm) h.2
      rw [if_pos rfl, List.take_succ_cons, List.drop_succ_cons]
      refine ⟨fun x hx => ?_, this.2⟩
      rcases List.mem_cons.1 hx with rfl | hx
      · exact hy
      · exact this.1 x hx
    | false =>
      have := rise_above h.1 hy
      rw [atE_zero this, if_neg (by simp)]
      refine ⟨fun x hx => by simp at hx, fun x hx => ?_⟩
      rcases List.mem_cons.1 (by simpa using hx) with rfl | hx
      · exact hy
      · exact this x hx
theorem at_below {l : List EntV} {nm : ByteArray} (h : l.Pairwise fun x y => ltB x.name y.name = true) (k : Nat) (hk : k < l.length) : ltB l[k].name nm = decide (k < atE l nm) := by
  have s := at_split (nm := nm) h
  by_cases hl : k < atE l nm
  · rw [decide_eq_true hl]
    exact s.1 _ (List.mem_iff_getElem.2 ⟨k, by rw [List.length_take]; omega, by rw [List.getElem_take]⟩)
  · rw [decide_eq_false hl]
    exact s.2 _ (List.mem_iff_getElem.2 ⟨k - atE l nm, by rw [List.length_drop]; omega, by rw [List.getElem_drop]; congr 1; omega⟩)
theorem at_has {l : List EntV} {nm : ByteArray} (h : l.Pairwise fun x y => ltB x.name y.name = true) : hasE l nm = true ↔ ∃ hk : atE l nm < l.length, l[atE l nm].name = nm := by
  unfold hasE
  rw [List.any_eq_true]
  constructor
  · rintro ⟨x, hx, e⟩
    have e := of_decide_eq_true e
    obtain ⟨k, hk, rfl⟩ := List.mem_iff_getElem.1 hx
    have h1 := at_below (nm := nm) h k hk
    rw [e, ltB_irrefl] at h1
    have h1 : ¬ k < atE l nm := of_decide_eq_false h1.symm
    have hlt : atE l nm < l.length := by omega
    refine ⟨hlt, ?_⟩
    by_cases hk2 : k = atE l nm
    · subst hk2; exact e
    · have h2 := at_below (nm := nm) h _ hlt
      rw [decide_eq_false (by omega)] at h2
      have h3 := List.pairwise_iff_getElem.1 h (atE l nm) k hlt hk (by omega)
      rw [e, h2] at h3
      cases h3
  · rintro ⟨hk, e⟩
    exact ⟨_, List.getElem_mem hk, by rw [e]; simp⟩
theorem at_cut {l : List EntV} {nm : ByteArray} (hk : atE l nm < l.length) : l = l.take (atE l nm) ++ l[atE l nm] :: l.drop (atE l nm + 1) := by
  rw [List.getElem_cons_drop, List.take_append_drop]
theorem ne_of_lt {a b : ByteArray} (h : ltB a b = true) : a ≠ b := fun e => by rw [e, ltB_irrefl] at h; cases h
theorem at_get {l : List EntV} {nm : ByteArray} (h : l.Pairwise fun x y => ltB x.name y.name = true) (hk : atE l nm < l.length) (e : l[atE l nm].name = nm) : getE l nm = l[atE l nm].ino := by
  have s := (at_split (nm := nm) h).1
  have hf : (l.take (atE l nm)).find? (fun x => decide (x.name = nm)) = none := by
    rw [List.find?_eq_none]
    intro x hx
    have := ne_of_lt (s x hx)
    simp [this]
  have := at_cut hk
  unfold getE
  generalize hz : l[atE l nm] = z at *
  rw [this, List.find?_append, hf, List.find?_cons_of_pos (by simp [e])]
  rfl
theorem at_out {l : List EntV} {nm : ByteArray} (h : l.Pairwise fun x y => ltB x.name y.name = true) (hk : atE l nm < l.length) (e : l[atE l nm].name = nm) : outE l nm = l.take (atE l nm) ++ l.drop (atE l nm + 1) := by
  have s := (at_split (nm := nm) h).1
  have hc := at_cut hk
  have h3 : ∀ x ∈ l.drop (atE l nm + 1), ltB nm x.name = true := fun x hx => by
    obtain ⟨j, hj, rfl⟩ := List.mem_iff_getElem.1 hx
    rw [List.length_drop] at hj
    have := List.pairwise_iff_getElem.1 h (atE l nm) (atE l nm + 1 + j) hk (by omega) (by omega)
    rw [e] at this
    rw [List.getElem_drop]
    exact this
  generalize hz : l[atE l nm] = z at *
  unfold outE
  generalize l.take (atE l nm) = a at *
  generalize l.drop (atE l nm + 1) = b at *
  rw [hc, List.filter_append, List.filter_cons_of_neg (by simp [e])]
  congr 1
  · exact List.filter_eq_self.2 fun x hx => by have := ne_of_lt (s x hx); simp [this]
  · exact List.filter_eq_self.2 fun x hx => by have := ne_of_lt (h3 x hx); simp [Ne.symm this]
theorem outE_valid {l : List EntV} (h : ValidE l) (nm : ByteArray) : ValidE (outE l nm) :=
  ⟨fun x hx => h.ok x (List.mem_filter.1 hx).1, h.rise.sublist List.filter_sublist⟩
theorem outE_none {l : List EntV} {nm : ByteArray} (h : hasE l nm = false) : outE l nm = l := by
  unfold outE hasE at *
  rw [List.any_eq_false] at h
  exact List.filter_eq_self.2 fun x hx => by have := h x hx; simp at this; simp [this]
theorem insE_valid {l : List EntV} {x : EntV} (h : ValidE l) (hx : okE x = true) (hn : hasE l x.name = false) : ValidE (insE l x) := by
  have s := at_split (nm := x.name) h.rise
  have hne : ∀ y ∈ l, y.name ≠ x.name := fun y hy => by
    unfold hasE at hn
    rw [List.any_eq_false] at hn
    have := hn y hy
    simpa using this
  have s2 : ∀ y ∈ l.drop (atE l x.name), ltB x.name y.name = true := fun y hy => by
    cases hh : ltB x.name y.name with
    | true => rfl
    | false => exact absurd (ltB_tri (s.2 y hy) hh) (hne y (List.mem_of_mem_drop hy))
  have hr := h.rise
  rw [← List.take_append_drop (atE l x.name) l] at hr
  have hr := List.pairwise_append.1 hr
  unfold insE
  constructor
  · intro y hy
    rcases List.mem_append.1 hy with hy | hy
    · exact h.ok y (List.mem_of_mem_take hy)
    · rcases List.mem_cons.1 hy with rfl | hy
      · exact hx
      · exact h.ok y (List.mem_of_mem_drop hy)
  · rw [List.pairwise_append]
    refine ⟨hr.1, List.pairwise_cons.2 ⟨s2, hr.2.1⟩, fun a ha b hb => ?_⟩
    rcases List.mem_cons.1 hb with rfl | hb
    · exact s.1 a ha
    · exact hr.2.2 a ha b hb
theorem insE_len (l : List EntV) (x : EntV) : (insE l x).length = l.length + 1 := by
  unfold insE
  have := atE_le l x.name
  simp only [List.length_append, List.length_take, List.length_cons, List.length_drop]
  omega
theorem listO_valid {xs : List ByteArray} {n : Int} : ValidE (listO xs n).1 := by
  have hnil : ValidE [] := ⟨fun x hx => by simp at hx, List.Pairwise.nil⟩
  unfold listO
  split
  · exact hnil
  · split
    · exact hnil
    · cases h : entsO (readO xs n 0 8960).1 with
      | none => exact hnil
      | some l => exact (entsO_some h).2.1
end Go.Proofs.YtoanladhikdcaaaGreat
