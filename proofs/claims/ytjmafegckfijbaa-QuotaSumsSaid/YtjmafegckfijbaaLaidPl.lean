/-
  A new volume with three files, and what acts make of it (plain).
-/
import Derived.Test.YtjmafegckfijbaaExtSnd
import Derived.Test.YtjmafegckfijbaaOpenActs
namespace Go.Proofs.Ytjmafegckfijbaa
set_option linter.unusedVariables false
set_option linter.unusedSimpArgs false
set_option maxRecDepth 100000
/-- the volume with so many new files -/
def newV : Nat → List ByteArray
  | 0 => fmtV 40 4
  | k + 1 => putV (newV k) (k + 1) (newL 1 0)
def filesF : List Nat := [1, 2, 3]
theorem lv_plan : planE (40 : Nat) (4 : Nat) = 0 := by decide
theorem newV_vol : ∀ k, k ≤ 3 → IsVol (newV k) 4
  | 0, _ => fmtV_vol lv_plan
  | k + 1, h => (newV_vol k (by omega)).putI (by omega) (by omega) _
theorem newV_len : ∀ k, (newV k).length = 40
  | 0 => fmtV_length _ _
  | k + 1 => (putV_length _ _ _).trans (newV_len k)
theorem lv_free0 : freeI (newV 0) 4 = some 1 := by kernel_rfl
theorem lv_free1 : freeI (newV 1) 4 = some 2 := by kernel_rfl
theorem lv_free2 : freeI (newV 2) 4 = some 3 := by kernel_rfl
theorem newV_new : ∀ k, k < 3 → newO (newV k) 1 0 = (newV (k + 1), ((k + 1 : Nat) : Int), 0) := by
  intro k hk
  have hf : freeI (newV k) 4 = some (k + 1) := by
    have : k = 0 ∨ k = 1 ∨ k = 2 := by omega
    rcases this with rfl | rfl | rfl
    · exact lv_free0
    · exact lv_free1
    · exact lv_free2
  unfold newO
  rw [ofR_some.2 (newV_vol k (by omega))]
  dsimp only
  rw [if_neg (by decide), hf]
  rfl
theorem lv_fit : FitN (newL 1 0) := newL_fit (by decide) (by decide)
theorem fresh_slot (xs : List ByteArray) (m kind owner s : Nat) : slotX xs m (newL kind owner) s = 0 := by
  have h10 : (newL kind owner).getD 10 0 = 0 := rfl
  have h70 : slotX xs m (newL kind owner) 70 = 0 := by rw [slotX_ind, h10]; split <;> rfl
  by_cases hs : s < 70
  · rw [slotX_lt hs]
    by_cases h6 : s < 6
    · rw [at_low h6]
      have : (newL kind owner).getD (4 + s) 0 = 0 := by
        have key : s = 0 ∨ s = 1 ∨ s = 2 ∨ s = 3 ∨ s = 4 ∨ s = 5 := by omega
        rcases key with rfl | rfl | rfl | rfl | rfl | rfl <;> rfl
      rw [this]; split <;> rfl
    · exact at_hi0 (by omega) h70
  · unfold slotX
    rw [if_neg hs, h10]; split <;> rfl
/-- a file without anything -/
theorem fresh_good {xs : List ByteArray} {m kind owner : Nat} (hv : IsVol xs m) (h1 : kind < 256) (h2 : owner < 256) : GoodF xs m (newL kind owner) := by
  have h := fresh_slot xs m kind owner
  refine ⟨⟨hv, rfl, newL_fit h1 h2⟩, ⟨fun s _ h0 => absurd (h s) h0, fun s t _ _ _ h0 => absurd (h s) h0⟩, rfl, fun i _ hi => ?_, fun s _ hs => ?_, fun h0 => absurd (h 70) h0⟩
  · have := h (i / 128)
    rw [slotX_lt (by omega)] at this
    unfold byteX
    rw [if_pos this]
  · have := h s
    rw [slotX_lt hs] at this; exact this
theorem newV_get : ∀ k, k ≤ 3 → ∀ n : Nat, 1 ≤ n → n ≤ k → getR (newV k) (n : Int) = newL 1 0
  | 0, _, n, h1, h2 => by omega
  | k + 1, h, n, h1, h2 => by
    have hv := newV_vol k (by omega)
    by_cases e : n = k + 1
    · rw [e]; exact get_put_same hv (by omega) (by omega) lv_fit
    · rw [show newV (k + 1) = putV (newV k) (k + 1) (newL 1 0) from rfl, get_put_other hv (by omega) (by omega) _ _ (by omega)]
      exact newV_get k (by omega) n h1 (by omega)
theorem filesF_mem {n : Nat} : n ∈ filesF ↔ 1 ≤ n ∧ n ≤ 3 := by
  unfold filesF
  simp only [List.mem_cons, List.not_mem_nil, or_false]
  omega
theorem filesF_nodup : filesF.Nodup := by decide
theorem newV_snd : SndV (newV 3) 4 filesF := by
  have hv := newV_vol 3 (by omega)
  refine ⟨hv, fun n hn => ?_, fun n hn => ?_, fun n hn k hk _ s t _ _ _ => ?_⟩
  · have := filesF_mem.1 hn; omega
  · have := filesF_mem.1 hn
    rw [newV_get 3 (by omega) n (by omega) (by omega)]
    exact fresh_good hv (by omega) (by omega)
  · have := filesF_mem.1 hn
    rw [newV_get 3 (by omega) n (by omega) (by omega)]
    exact fresh_slot _ _ _ _ _
theorem newV_sum : sumC (newV 3) 4 filesF = 0 := by
  unfold sumC filesF
  have h : ∀ n : Nat, 1 ≤ n → n ≤ 3 → cntS (newV 3) 4 (getR (newV 3) (n : Int)) = 0 := fun n h1 h2 => by
    rw [newV_get 3 (by omega) n h1 h2]
    unfold cntS
    have : (fun s => slotX (newV 3) 4 (newL 1 0) s != 0) = fun _ => false := by
      funext s; rw [fresh_slot]; rfl
    rw [this]; simp
  simp only [List.map_cons, List.map_nil, List.sum_cons, List.sum_nil]
  rw [h 1 (by omega) (by omega), h 2 (by omega) (by omega), h 3 (by omega) (by omega)]
  rfl
theorem newV_room : roomR (newV 3) = roomR (fmtV 40 4) := by
  have h : ∀ k, k ≤ 3 → roomR (newV k) = roomR (fmtV 40 4) := by
    intro k
    induction k with
    | zero => exact fun _ => rfl
    | succ k ih => exact fun hk => (roomR_put (newV_vol k (by omega)) (by omega) (by omega) _).trans (ih (by omega))
  exact h 3 (Nat.le_refl _)
/-- the number of the file that an act is about -/
def numI (z : Int) : Int := (z.tmod 3 + 3).tmod 3
def numF (z : Int) : Nat := (numI z).toNat + 1
theorem numI_lt (z : Int) : 0 ≤ numI z ∧ numI z < 3 := by
  unfold numI
  have h1 := Int.tmod_lt_of_pos z (show (0 : Int) < 3 by decide)
  have h2 : -3 < z.tmod 3 := by
    have := Int.lt_tmod_of_pos z (show (0 : Int) < 3 by decide)
    exact this
  rw [Int.tmod_eq_emod_of_nonneg (by omega)]
  omega
theorem numF_mem (z : Int) : numF z ∈ filesF := by
  have := numI_lt z
  refine filesF_mem.2 ?_
  unfold numF
  omega
/-- what an act makes of the volume -/
def resO (V : List ByteArray) (a : ActV) : List ByteArray × Int :=
  if a.kind = 1 then cutO V (numF a.num : Nat) a.off else writeO V (numF a.num : Nat) a.off a.data.data.toList
def actO (V : List ByteArray) (a : ActV) : List ByteArray := if (resO V a).2 = 0 then (resO V a).1 else V
def laidV (l : List ActV) : List ByteArray := l.foldl actO (newV 3)
structure LaidS (V : List ByteArray) : Prop where
  snd : SndV V 4 filesF
  len : V.length = 40
  room : roomR V + sumC V 4 filesF = roomR (fmtV 40 4)
theorem StepV.laid {V W : List ByteArray} {n : Nat} {ys : List ByteArray} {l' : List Nat} (h : LaidS V) (s : StepV V 4 filesF n ys l' W) : LaidS W :=
  ⟨s.snd, s.len.trans h.len, by rw [← s.room]; exact h.room⟩
theorem actO_laid {V : List ByteArray} (h : LaidS V) (a : ActV) : LaidS (actO V a) := by
  unfold actO
  by_cases h0 : (resO V a).2 = 0
  · rw [if_pos h0]
    unfold resO at h0 ⊢
    by_cases hk : a.kind = 1
    · rw [if_pos hk] at h0 ⊢
      rcases h.snd.cut filesF_nodup (numF_mem a.num) a.off with ⟨_, _, hw⟩ | ⟨_, h1 | h1⟩
      · obtain ⟨r, _, st⟩ := hw.st
        exact st.laid h
      · rw [h1.1] at h0; cases h0
      · rw [h1.1] at h0; cases h0
    · rw [if_neg hk] at h0 ⊢
      rcases h.snd.write filesF_nodup (numF_mem a.num) a.off a.data.data.toList with ⟨_, _, hw⟩ | ⟨_, h1 | h1 | h1⟩
      · obtain ⟨r, _, st, _⟩ := hw.st
        exact st.laid h
      · rw [h1.1] at h0; cases h0
      · rw [h1.1] at h0; cases h0
      · rw [h1.1] at h0; cases h0
  · rw [if_neg h0]; exact h
theorem newV_laid : LaidS (newV 3) := ⟨newV_snd, newV_len 3, by rw [newV_sum, newV_room]; rfl⟩
theorem fold_laid : ∀ (l : List ActV) (V : List ByteArray), LaidS V → LaidS (l.foldl actO V)
  | [], _, h => h
  | a :: l, V, h => fold_laid l _ (actO_laid h a)
theorem laidV_laid (l : List ActV) : LaidS (laidV l) := fold_laid l _ newV_laid
theorem laidV_take {l : List ActV} {k : Nat} {a : ActV} (h : l[k]? = some a) : laidV (l.take (k + 1)) = actO (laidV (l.take k)) a := by
  unfold laidV
  rw [List.take_add_one, h, List.foldl_append]
  rfl
end Go.Proofs.Ytjmafegckfijbaa
