/-
  Contracts and plain laws: TopV, TopB, OpenDeeds, SpkM.
-/
import Derived.Test.YtdldlendppkknaaGreatDoorRows
import Derived.Test.YtdldlendppkknaaGreatDoorPackR01
import Derived.Test.YtdldlendppkknaaGreatDoorPackR02
import Derived.Test.YtdldlendppkknaaGreatDoorPackR24
import Derived.Test.YtdldlendppkknaaGreatDoorPackR27
namespace Go.Proofs.YtdldlendppkknaaGreatDoor
set_option linter.unusedVariables false
set_option linter.unusedSimpArgs false
set_option maxRecDepth 100000
section
variable {V W X ys : List ByteArray} {m n k c d b : Nat} {l l' : List Nat} {E E' : List EntV}
def NoLim (V : List ByteArray) : Prop := ∀ o, o < 16 → limN V o = 0
theorem NoLim.same (h : NoLim V) (hb : blkL W 1 = blkL V 1) : NoLim W := fun o ho => by
 unfold limN
 rw [hb]
 exact h o ho
theorem beyond_none (h : NoLim W) : beyondO V W = false := by
 unfold beyondO
 rw [List.any_eq_false]
 intro o ho
 have ho := List.mem_range.1 ho
 unfold beyB limitO
 rw [Int.toNat_natCast, h o ho]
 split <;> simp
theorem put_one (hv : IsVol V m) (h1 : 1 ≤ n) (h2 : n ≤ m) (l : List Nat) : blkL (putV V n l) 1 = blkL V 1 := by
 rw [putV_blk hv h1 h2, if_neg (by unfold blkN; omega)]
theorem zeros_one (o : Nat) (ho : o < 16) : numAt (List.replicate 128 (0 : UInt8)) (2 * o) 2 = 0 := by
 revert o
 decide
theorem zeros_kind : numAt (List.replicate 128 (0 : UInt8)) 0 1 = 0 ∧ numAt (List.replicate 128 (0 : UInt8)) 64 1 = 0 := by decide
theorem zerosB_data : (zerosB 128).data.toList = List.replicate 128 (0 : UInt8) := by unfold zerosB; simp
theorem fmt_blkT {b m i : Nat} (hb : 16 ≤ b) (hi : i < b) (h0 : i ≠ 0) (h2 : i ≠ 2) : blkL (fmtV b m) i = List.replicate 128 (0 : UInt8) := by
 unfold blkL
 rw [fmtV_get b m i hb, if_neg h2, if_neg h0, if_pos hi, zerosB_data]
theorem fmt_kindT {b m n : Nat} (hp : planE (b : Int) (m : Int) = 0) (h1 : 1 ≤ n) (h2 : n ≤ m) : kindR (fmtV b m) n = 0 := by
 have := planE_ok hp
 unfold kindR
 rw [fmt_blkT (by omega) (by unfold blkN; omega) (by unfold blkN; omega) (by unfold blkN; omega)]
 unfold atN
 rcases Nat.mod_two_eq_zero_or_one (n - 1) with e | e <;> rw [e]
 ·exact zeros_kind.1
 ·exact zeros_kind.2
theorem fmt_nolim {b m : Nat} (hb : 16 ≤ b) : NoLim (fmtV b m) := fun o ho => by
 unfold limN
 rw [fmt_blkT hb (by omega) (by omega) (by omega)]
 exact zeros_one o ho
theorem fmt_inv {b m : Nat} (hp : planE (b : Int) (m : Int) = 0) : InvT (fmtV b m) m := by
 have hd : ∀ n, ¬ LiveT (fmtV b m) m n := fun n h => h.2.2 (fmt_kindT hp h.1 h.2.1)
 have hs : sumT (fmtV b m) m = 0 := by
  rw [sumT_all]
  have : (List.range' 1 m).map (fun k : Nat => if kindR (fmtV b m) k ≠ 0 then cntT (fmtV b m) m (getR (fmtV b m) (k : Int)) else 0) = (List.range' 1 m).map (fun _ => 0) := List.map_congr_left fun k hk => by
   obtain ⟨i, i1, i2⟩ := List.mem_range'.1 hk
   rw [if_neg (fun h => h (fmt_kindT hp (by omega) (by omega)))]
  rw [this]
  clear this
  have key : ∀ L : List Nat, (L.map fun _ => 0).sum = 0 := fun L => by
   induction L with
   | nil => rfl
   | cons a L ih => rw [List.map_cons, List.sum_cons, ih]
  exact key _
 refine ⟨fmtV_vol hp, fun n h => absurd h (hd n), fun n k h => absurd h (hd n), fun n h => absurd h (hd n), fun n k h => absurd h (hd n), ?_⟩
 rw [hs, fmtV_room hp, fmtV_length]
 rfl
theorem fmt_dir {b m : Nat} (hp : planE (b : Int) (m : Int) = 0) : DirT (fmtV b m) m := by
 have hd : ∀ n, ¬ LiveT (fmtV b m) m n := fun n h => h.2.2 (fmt_kindT hp h.1 h.2.1)
 exact ⟨fmt_inv hp, fun n h => absurd h (hd n), fun n h => absurd h (hd n), fun n h => absurd h (hd n)⟩
theorem new_first (hv : IsVol V m) {kind : Int} (hk : kind = 1 ∨ kind = 2) (h1 : 1 ≤ n) (h2 : n ≤ m) (h0 : kindR V n = 0) (hf : ∀ j, 1 ≤ j → j < n → kindR V j ≠ 0) : newO V kind 0 = (putV V n (newL kind.toNat 0), (n : Int), 0) := by
 unfold newO
 rw [ofR_some.2 hv]
 dsimp only
 rw [if_neg (by omega), freeI_some.2 ⟨h1, h2, h0, hf⟩]
 rfl
def topV (b m : Nat) : List ByteArray := putV (fmtV b m) 1 (newL 2 0)
theorem top_new {b m : Nat} (hp : planE (b : Int) (m : Int) = 0) : newO (fmtV b m) 2 0 = (topV b m, 1, 0) := by
 have := planE_ok hp
 exact new_first (n := 1) (fmtV_vol hp) (.inr rfl) (Nat.le_refl _) (by omega) (fmt_kindT hp (Nat.le_refl _) (by omega)) (fun j a b => by omega)
theorem top_make {b m : Nat} (hp : planE (b : Int) (m : Int) = 0) : makeO (b : Int) (m : Int) = (topV b m, 0) := by
 unfold makeO
 rw [if_neg (fun h => h hp)]
 show ((newO (fmtV b m) 2 0).1, (newO (fmtV b m) 2 0).2.2) = _
 rw [top_new hp]
theorem top_tree {b m : Nat} (hp : planE (b : Int) (m : Int) = 0) : FsT (topV b m) m ∧ entD (topV b m) 1 = [] ∧ NoLim (topV b m) ∧ (topV b m).length = b ∧ roomR (topV b m) = b - dataN m ∧ getR (topV b m) ((1 : Nat) : Int) = newL 2 0 ∧ ∀ k, 1 ≤ k → k ≤ m → k ≠ 1 → kindR (topV b m) k = 0 := by
 have hpo := planE_ok hp
 have hn := top_new hp
 obtain ⟨n, n1, n2, n3, n4, n5, nf, nd, nl, nk, nli, ne, nr⟩ := (fmt_dir hp).new (kind := 2) (owner := 0) (by rw [hn])
 rw [hn] at n5 nf nd nl nk nli ne nr
 dsimp only at n5 nf nd nl nk nli ne nr
 obtain rfl : n = 1 := by omega
 have hv := fmtV_vol hp
 have hkk : ∀ k, 1 ≤ k → k ≤ m → k ≠ 1 → kindR (topV b m) k = 0 := fun k a b' c => by rw [nf.kind hv a b' c]; exact fmt_kindT hp a b'
 have hlk : ∀ k, LiveT (topV b m) m k → k = 1 := fun k hk => Classical.not_not.1 fun h => hk.2.2 (hkk k hk.1 hk.2.1 h)
 have he := ne rfl
 have hc : ∀ k, cntE (topV b m) m k = 0 := fun k => cntE_zero fun d h1 h2 => by
  unfold cntD
  by_cases hd : kindR (topV b m) d = 2
  ·have := hlk d ⟨h1, h2, by omega⟩
   subst this
   rw [if_pos hd, he]; rfl
  ·rw [if_neg hd]
 refine ⟨⟨nd, nl, nk, fun d hd _ x hx => ?_, fun d hd _ => ?_, fun d hd => ?_⟩, he, ?_, ?_, ?_, ?_, hkk⟩
 ·obtain rfl := hlk d hd
  rw [he] at hx; cases hx
 ·obtain rfl := hlk d hd
  exact nli
 ·obtain rfl := hlk d hd
  rw [nli, hc, if_pos rfl]; rfl
 ·exact (fmt_nolim (by omega)).same (put_one hv (Nat.le_refl _) (by omega) _)
 ·rw [nf.len, fmtV_length]
 ·unfold topV
  rw [roomR_put hv (Nat.le_refl _) (by omega), fmtV_room hp]
 ·exact get_put_same hv (Nat.le_refl _) (by omega) (newL_fit (by decide) (by decide))
theorem write_roomy (hI : InvT V m) (hn : LiveT V m n) {u : List UInt8} (hu : u ≠ []) (hl : u.length ≤ 128) (h0 : ∀ s, s < 70 → atX V m (getR V (n : Int)) s = 0) (hr : 4 ≤ roomR V) : (writeO V (n : Int) 0 u).2 = 0 := by
 have g := hI.good n hn
 unfold writeO
 rw [inoE_zero hI.vol hn.1 hn.2.1, if_neg (by simp), if_neg (by omega), if_neg (by omega), mO_vol hI.vol]
 have hpos := List.length_pos_iff.2 hu
 have := wri_room (off := 0) (d := u) (B := 1) g.ok g.own (fun s hs h => absurd (h0 s hs) h) (by decide) (by omega) (fallN 0 u.length) (by unfold fallN; split <;> omega)
 have hsome := wriG_some (off := 0) (d := u) this
 have hsome : wriG noK V m (getR V (n : Int)) (0 : Int).toNat u ≠ none := hsome
 generalize wriG noK V m (getR V (n : Int)) (0 : Int).toNat u = q at *
 cases q with
 | none => exact absurd rfl hsome
 | some r => rfl
theorem write_after (hI : InvT V m) (hn : LiveT V m n) {u : List UInt8} (hl : u.length ≤ 128) (h0 : ∀ s, s < 70 → atX V m (getR V (n : Int)) s = 0) (he : (writeO V (n : Int) 0 u).2 = 0) :
  roomR V ≤ roomR (writeO V (n : Int) 0 u).1 + 2 ∧ blkL (writeO V (n : Int) 0 u).1 1 = blkL V 1 := by
 obtain ⟨_, _, r, ws, hw, mv⟩ := hI.write hn he
 have hvr := ws.mv.vol
 rw [hw]
 refine ⟨?_, ?_⟩
 ·rw [roomR_put hvr hn.1 hn.2.1]
  have h1 := ws.mv.room
  have h2 := cntS_le (xs := r.1) (m := m) (l := r.2) (B := 1) fun s hs hne => by
   rcases (ws.at_ s hs).1 hne with a | ⟨_, _, a⟩
   ·exact absurd (h0 s hs) a
   ·have : (0 : Int).toNat = 0 := rfl
    omega
  omega
 ·rw [put_one hvr hn.1 hn.2.1]
  exact ws.mv.low 1 (by unfold dataN; omega) (by decide)
def initP : ByteArray := ⟨#[47, 105, 110, 105, 116]⟩
def initN : ByteArray := ⟨#[105, 110, 105, 116]⟩
def fileB : ByteArray := ⟨#[97, 32, 102, 105, 108, 101]⟩
theorem init_parts : mayP initP.data.toList = true ∧ initP.data.toList ≠ [47] ∧ (aboveB initP).data.toList = [47] ∧ lastB initP = initN ∧ mayB initN.data.toList = true := ⟨by kernel_rfl, by decide, by kernel_rfl, by kernel_rfl, by kernel_rfl⟩
theorem path_top (V : List ByteArray) : pathO V [47] = (1, 0) := by
 unfold pathO
 have : mayP [47] = true := by kernel_rfl
 rw [this, if_neg (by simp)]
 rfl
def fileV (b m : Nat) : List ByteArray := (madeO (topV b m) initP 1 0).1
theorem top_vac {b m : Nat} (hp : planE (b : Int) (m : Int) = 0) : vacO (topV b m) initP = (1, initN, 0) := by
 obtain ⟨h1, h2, h3, h4, h5⟩ := init_parts
 obtain ⟨t1, t2, _⟩ := top_tree hp
 unfold vacO
 rw [h1, if_neg (by simp), if_neg h2, h3, path_top, h4, if_neg (by simp)]
 have hD := t1.dir.dir 1 t1.root t1.rootk
 rw [t2] at hD
 have hf : findO (topV b m) 1 initN = (0, 9) := by
  unfold findO
  rw [h5, if_neg (by simp), show listO (topV b m) 1 = ([], 0) from hD.list]
  rfl
 rw [hf, if_pos rfl]
theorem file_made {b m : Nat} (hp : planE (b : Int) (m : Int) = 0) (hr : 9 ≤ b - dataN m) : madeO (topV b m) initP 1 0 = (fileV b m, 2, 0) ∧ FsT (fileV b m) m ∧ LiveT (fileV b m) m 2 ∧ kindR (fileV b m) 2 = 1 ∧ (∀ s, s < 70 → atX (fileV b m) m (getR (fileV b m) ((2 : Nat) : Int)) s = 0) ∧ 7 ≤ roomR (fileV b m) ∧ NoLim (fileV b m) ∧ (fileV b m).length = b := by
 obtain ⟨t1, t2, t3, t4, t5, t6, t7⟩ := top_tree hp
 have hpo := planE_ok hp
 have hv := t1.vol
 have hn : newO (topV b m) 1 0 = (putV (topV b m) 2 (newL 1 0), 2, 0) := by
  refine new_first (n := 2) hv (.inl rfl) (by decide) (by omega) (t7 2 (by decide) (by omega) (by decide)) fun j a b => ?_
  obtain rfl : j = 1 := by omega
  rw [t1.rootk]; decide
 obtain ⟨n, q0, q1, q2, q3, q4, q5, q6, q7, q8⟩ := TreeX.new t1 (kind := 1) (owner := 0) (by rw [hn])
 rw [hn] at q0 q2 q4 q5 q6 q7 q8
 dsimp only at q0 q2 q4 q5 q6 q7 q8
 obtain rfl : n = 2 := by omega
 have hr1 : LiveT (putV (topV b m) 2 (newL 1 0)) m 1 := q8.root
 have hg1 : getR (putV (topV b m) 2 (newL 1 0)) ((1 : Nat) : Int) = newL 2 0 := by rw [q5.rest 1 (by decide) (by omega) (by decide), t6]
 have hD := q8.dir.dir 1 hr1 q8.rootk
 rw [q7 1 t1.root t1.rootk, t2] at hD
 have hr2 : roomR (putV (topV b m) 2 (newL 1 0)) = b - dataN m := by rw [roomR_put hv (by decide) (by omega), t5]
 have hat : ∀ s, s < 70 → atX (putV (topV b m) 2 (newL 1 0)) m (getR (putV (topV b m) 2 (newL 1 0)) ((1 : Nat) : Int)) s = 0 := fun s hs => by
  rw [hg1, ← slotX_lt hs]; exact newL_slot _ _ _ _ _
 have hok : okE ⟨initN, 2⟩ = true := by kernel_rfl
 obtain ⟨ea, _⟩ := hD.add (nm := initN) (ino := 2) hok rfl
 have hlen : (bytesE (insE [] ⟨initN, 2⟩)).length = 32 := by kernel_rfl
 have hw0 : (writeO (putV (topV b m) 2 (newL 1 0)) ((1 : Nat) : Int) 0 (bytesE (insE [] ⟨initN, 2⟩))).2 = 0 :=
  write_roomy q8.dir.inv hr1 (fun e => by rw [e] at hlen; cases hlen) (by rw [hlen]; decide) hat (by omega)
 have hw1 := write_after q8.dir.inv hr1 (by rw [hlen]; decide) hat hw0
 rw [← ea] at hw0 hw1
 obtain ⟨a1, dd, hz, _, a2⟩ := q8.add (z := ((1 : Nat) : Int)) (nm := initN) (n := 2) q2 (by decide) hw0
 obtain rfl : dd = 1 := by omega
 have c1 : ((1 : Nat) : Int) = 1 := rfl
 have c2 : ((2 : Nat) : Int) = 2 := rfl
 rw [c1] at hw0 hw1
 rw [c1, c2] at a1 a2
 have hvac := top_vac hp
 have hmi : madeI (topV b m) initP 1 0 = addO (putV (topV b m) 2 (newL 1 0)) 1 initN 2 := by
  unfold madeI
  rw [hvac, hn, if_neg (by simp), if_neg (by simp)]
 have hfv0 : fileV b m = (madeO (topV b m) initP 1 0).1 := rfl
 generalize addO (putV (topV b m) 2 (newL 1 0)) 1 initN 2 = aw at *
 obtain ⟨W, ec⟩ := aw
 dsimp only at hw0 hw1 a1 a2
 subst hw0
 have hNL : NoLim W := (t3.same (put_one hv (by decide) (by omega) _)).same hw1.2
 have hmade : madeO (topV b m) initP 1 0 = (W, 2, 0) := by
  have hwe : weighO (topV b m) (madeI (topV b m) initP 1 0) = (W, 0) := by
   unfold weighO
   rw [hmi, if_neg (by simp), beyond_none hNL, if_neg (by simp)]
  unfold madeO
  rw [hwe, hn, if_neg (by simp)]
 rw [hmade] at hfv0
 rw [hfv0, hmade]
 have hg2 : getR W ((2 : Nat) : Int) = newL 1 0 := by
  rw [a2.far.rest 2 (by decide) (by omega) (by decide)]
  exact get_put_same hv (by decide) (by omega) (newL_fit (by decide) (by decide))
 have hlv : LiveT W m 2 := (a2.liveA q8.vol).2 q2
 refine ⟨rfl, a1.congr fun k _ => ?_, hlv, ?_, fun s hs => ?_, ?_, hNL, ?_⟩
 ·unfold atX1
  by_cases ek : k = 2
  ·rw [if_pos ek, if_pos rfl]; rfl
  ·rw [if_neg ek, if_neg ek]
 ·rw [← kind_getT a1.vol (by decide) (by omega), hg2]; rfl
 ·show atX W m (getR W ((2 : Nat) : Int)) s = 0
  rw [hg2, ← slotX_lt hs]; exact newL_slot _ _ _ _ _
 ·have := hw1.1
  rw [hr2] at this
  show 7 ≤ roomR W
  omega
 ·rw [a2.far.len, q5.len, t4]
def startV (b m : Nat) : List ByteArray := (writeF (fileV b m) 2 0 fileB.data.toList).1
theorem start_ok {b m : Nat} (hp : planE (b : Int) (m : Int) = 0) (hr : 9 ≤ b - dataN m) : writeF (fileV b m) 2 0 fileB.data.toList = (startV b m, 0) ∧ FsT (startV b m) m ∧ (startV b m).length = b ∧ NoLim (startV b m) := by
 obtain ⟨_, f2, f3, f4, f5, f6, f7, f8⟩ := file_made hp hr
 have hs0 : startV b m = (writeF (fileV b m) ((2 : Nat) : Int) 0 fileB.data.toList).1 := rfl
 have hs1 : writeF (fileV b m) 2 0 fileB.data.toList = writeF (fileV b m) ((2 : Nat) : Int) 0 fileB.data.toList := rfl
 rw [hs1, hs0]
 clear hs0 hs1
 generalize fileV b m = V at *
 have hlen : fileB.data.toList.length = 6 := by kernel_rfl
 generalize fileB.data.toList = u at *
 have hfile : fileO V ((2 : Nat) : Int) = 0 := by
  unfold fileO
  rw [inoE_zero f2.vol f3.1 f3.2.1, if_neg (by simp), kind_getT f2.vol f3.1 f3.2.1, f4, if_neg (by simp)]
 have hw := write_roomy (u := u) f2.dir.inv f3 (fun e => by rw [e] at hlen; cases hlen) (by omega) f5 (by omega)
 have ha := write_after (u := u) f2.dir.inv f3 (by omega) f5 hw
 have hN : NoLim (writeO V ((2 : Nat) : Int) 0 u).1 := f7.same ha.2
 have e : writeF V ((2 : Nat) : Int) 0 u = ((writeO V ((2 : Nat) : Int) 0 u).1, 0) := by
  unfold writeF weighO
  rw [hfile, if_neg (by simp), hw, if_neg (by simp), beyond_none hN, if_neg (by simp)]
 obtain ⟨a, l⟩ := TreeX.write f2 (z := ((2 : Nat) : Int)) (off := 0) (b := u) (by rw [e])
 rw [e] at a l ⊢
 exact ⟨rfl, a, by rw [← f8]; exact l, hN⟩
end
open Go.RowKit
def deedsC (l : List DeedV) : List Value := l.flatMap fun a => (deedC a).toList
theorem deedsC_len (l : List DeedV) : (deedsC l).length = l.length * 6 := by
 induction l with
 | nil => rfl
 | cons x l ih => show ([_, _, _, _, _, _] ++ deedsC l).length = _; simp [ih]; omega
theorem deedsC_get : ∀ {l : List DeedV} {k : Nat} (hk : k < l.length) (i : Nat) (v : Value), (deedC l[k]).toList[i]? = some v → (deedsC l)[k * 6 + i]? = some v
 | [], k, hk, _, _, _ => absurd hk (Nat.not_lt_zero _)
 | x :: l, 0, _, i, v, h => by
  have hi : i < 6 := (List.getElem?_eq_some_iff.1 h).1
  show ((deedC x).toList ++ deedsC l)[0 * 6 + i]? = some v
  rw [Nat.zero_mul, Nat.zero_add, List.getElem?_append_left (by show i < 6; exact hi)]
  exact h
 | x :: l, k + 1, hk, i, v, h => by
  have := deedsC_get (l := l) (k := k) (by simpa using hk) i v h
  show ((deedC x).toList ++ deedsC l)[(k + 1) * 6 + i]? = some v
  rw [List.getElem?_append_right (by show 6 ≤ _; omega)]
  show (deedsC l)[(k + 1) * 6 + i - 6]? = some v
  rw [show (k + 1) * 6 + i - 6 = k * 6 + i by omega]
  exact this
theorem deed_at {w : World} {B : Nat} {A : Option Addr} {l : List DeedV} (h : RowAt w B A (deedsC l)) {k : Nat} (hk : k < l.length) :
  ∃ b o, A = some ⟨b, o, none⟩ ∧ b < B ∧ w.rangeAt b (o + k * 6) (deedC l[k]).toList := by
 obtain ⟨b, o, hA, hb, hc⟩ := RowAt.at_ h (by rw [deedsC_len]; omega)
 refine ⟨b, o, hA, hb, fun j u hu => ?_⟩
 rw [Nat.add_assoc]
 exact hc _ _ (deedsC_get hk j u hu)
def greatD (a : DeedV) : Bool := decide (300 < a.path.size ∨ 300 < a.goal.size ∨ 600 < a.data.size)
def greatB (l : List DeedV) : Bool := l.any greatD || decide (24 < l.length)
set_option maxHeartbeats 4000000 in
theorem great_any (A : Option Addr) (c : Nat) (l : List DeedV) (w : World) (hl : l.length ≤ 9223372036854775807) (h : RowAt w w.heap.size A (deedsC l)) :
  Calls Tryz.prog 7 #[.slice A l.length c] w fun e w' => e = .returned (.bool (greatB l)) ∧ Below w.heap.size w w' := by
 have HR := Lib.hid h
 have HL : Hid (l.length ≤ 9223372036854775807) := hl
 have HG : Hid (greatB l = (l.any greatD || decide (24 < l.length))) := by show _ = _; rfl
 have HB0 := Lib.hid (Below.refl w.heap.size w)
 clear h hl
 go_enter Tryz.func7, Tryz.ntmps7
 go_wp2
 go_loopw [4, 7] (fun _ i wr => ∃ k : Nat, k ≤ l.length ∧ i = .int .i64 (k : Int) ∧ Hid ((l.take k).any greatD = false) ∧ Hid (Below w.heap.size w wr)) (fun _ i _ => l.length - (intOf i).toNat)
 case atStart => exact ⟨0, Nat.zero_le _, rfl, rfl, HB0⟩
 case round =>
  clear HB0
  obtain ⟨k, hk, rfl, HT, B⟩ := hrel
  by_cases hlt : k < l.length
  ·obtain ⟨bA, oA, rfl, hbA, hrA⟩ := deed_at (RowAt.below HR.out B.out) hlt
   have HN : Hid ((l.take (k + 1)).any greatD = ((l.take k).any greatD || greatD l[k])) := by
    show _ = _
    rw [List.take_succ_eq_append_getElem hlt, List.any_append]
    simp
   have HA : Hid (greatD l[k] = true → l.any greatD = true) := fun h => List.any_eq_true.2 ⟨_, List.getElem_mem hlt, h⟩
   generalize l[k] = x at *
   obtain ⟨kd, n, p, q, d, o⟩ := x
   have HR1 : Hid (wr.rangeAt bA (oA + k * 6) [.int .i64 kd, .int .i64 n, .string p, .string q, .string d, .int .i64 o]) := hrA
   have HD : Hid (greatD ⟨kd, n, p, q, d, o⟩ = decide (300 < p.size ∨ 300 < q.size ∨ 600 < d.size)) := by show _ = _; rfl
   have B4 := Lib.hid (B.out.alloc B.out.size (.cells #[.int .i64 kd, .int .i64 n, .string p, .string q, .string d, .int .i64 o] 30))
   have i2 : (k : Int) < (l.length : Int) := by omega
   have i3 : (0 : Int) ≤ (k : Int) := by omega
   have hll := HL.out
   have ws : IntKind.i64.wrap ((k : Int) + 1) = (k : Int) + 1 := IntWalk.i64_in _ (by omega)
   clear hrA hll
   by_cases h1 : 300 < p.size ∨ 300 < q.size ∨ 600 < d.size
   ·have hg := HA.out (HD.out.trans (decide_eq_true h1))
    have HO : Hid (greatB l = true) := by show _ = _; rw [HG.out, hg]; rfl
    clear hg
    by_cases p1 : 300 < p.size
    ·have p1' : decide ((300 : Int) < (p.size : Int)) = true := decide_eq_true (by omega)
     go_wp2_with (refine wpList_load_mid rfl 30 (.tmp 9) rfl bA (oA + k * 6) rfl _ _ HR1.out Tryz.underlying30 rfl (by kernel_rfl) ?_; go_frame)
     go_ret
     exact ⟨ret_bool HO.out.symm, B4.out⟩
    ·have p1' : decide ((300 : Int) < (p.size : Int)) = false := decide_eq_false (by omega)
     by_cases p2 : 300 < q.size
     ·have p2' : decide ((300 : Int) < (q.size : Int)) = true := decide_eq_true (by omega)
      go_wp2_with (refine wpList_load_mid rfl 30 (.tmp 9) rfl bA (oA + k * 6) rfl _ _ HR1.out Tryz.underlying30 rfl (by kernel_rfl) ?_; go_frame)
      go_ret
      exact ⟨ret_bool HO.out.symm, B4.out⟩
     ·have p2' : decide ((300 : Int) < (q.size : Int)) = false := decide_eq_false (by omega)
      have p3' : decide ((600 : Int) < (d.size : Int)) = true := decide_eq_true (by omega)
      go_wp2_with (refine wpList_load_mid rfl 30 (.tmp 9) rfl bA (oA + k * 6) rfl _ _ HR1.out Tryz.underlying30 rfl (by kernel_rfl) ?_; go_frame)
      go_ret
      exact ⟨ret_bool HO.out.symm, B4.out⟩
   ·have HX : Hid ((l.take (k + 1)).any greatD = false) := by show _ = _; rw [HN.out, HT.out, HD.out, decide_eq_false h1]; rfl
    have p1' : decide ((300 : Int) < (p.size : Int)) = false := decide_eq_false (by omega)
    have p2' : decide ((300 : Int) < (q.size : Int)) = false := decide_eq_false (by omega)
    have p3' : decide ((600 : Int) < (d.size : Int)) = false := decide_eq_false (by omega)
    clear h1
    go_wp2_with (refine wpList_load_mid rfl 30 (.tmp 9) rfl bA (oA + k * 6) rfl _ _ HR1.out Tryz.underlying30 rfl (by kernel_rfl) ?_; go_frame)
    go_roundw
    case rel => exact ⟨k + 1, by omega, by go_num, HX, B4⟩
    case measure => simp [intOf]; omega
  ·obtain rfl : k = l.length := by omega
   have HTK : Hid (l.take l.length = l) := List.take_length
   rw [HTK.out] at HT
   go_wp2
   go_ret
   refine ⟨ret_bool ?_, B.out⟩
   rw [HG.out, HT.out, Bool.false_or]
   exact decide_eq_decide.2 (by omega)
open Go.ChangeShapes Go.WideShapes Go.ChangeAt Go.RowKit
def DeedN (a : DeedV) : Prop := -9223372036854775808 ≤ a.n ∧ a.n ≤ 9223372036854775807
theorem deedsC_idx : ∀ {l : List DeedV} {j : Nat} {u : Value}, (deedsC l)[j]? = some u → ∃ x, l[j / 6]? = some x ∧ (deedC x).toList[j % 6]? = some u
 | [], j, u, h => by simp [deedsC] at h
 | x :: l, j, u, h => by
  have h : ((deedC x).toList ++ deedsC l)[j]? = some u := h
  by_cases hj : j < 6
  ·rw [List.getElem?_append_left (by show j < 6; exact hj)] at h
   exact ⟨x, by rw [show j / 6 = 0 by omega]; rfl, by rw [show j % 6 = j by omega]; exact h⟩
  ·rw [List.getElem?_append_right (by show 6 ≤ j; omega)] at h
   have h : (deedsC l)[j - 6]? = some u := h
   obtain ⟨y, h1, h2⟩ := deedsC_idx h
   exact ⟨y, by rw [show j / 6 = (j - 6) / 6 + 1 by omega]; exact h1, by rw [show j % 6 = (j - 6) % 6 by omega]; exact h2⟩
theorem deedCells : Tryz.prog.cellsOf 30 = 6 := by kernel_rfl
theorem strCellsD : Tryz.prog.cellsOf 9 = 1 := by kernel_rfl
theorem i64CellsD : Tryz.prog.cellsOf 3 = 1 := by kernel_rfl
theorem wfi64 {z : Int} (h : (Lit.int .i64 z).wf = true) : -9223372036854775808 ≤ z ∧ z ≤ 9223372036854775807 := by
 simp [Lit.wf, IntKind.min, IntKind.max, IntKind.signed, IntKind.bits] at h; omega
theorem deed_of {H : Type} {enc : TypeId × Value → H} {W : World} {base : Nat} {spare : Nat → Bool} {held : Bool} {fuel : Nat} {cs : List Value} {x : DataW H × List MemPlace}
  (h : DataW.trod enc Tryz.prog W base spare held fuel 30 cs = some x) : ∃ a : DeedV, cs = (deedC a).toList ∧ DeedN a := by
 obtain ⟨xs, n, rfl, rfl, hl, hn, hf⟩ := DataW.trod_struct Tryz.underlying30 h
 rw [deedCells] at hl
 have h0 := hf 0 _ rfl
 have h1 := hf 1 _ rfl
 have h2 := hf 2 _ rfl
 have h3 := hf 3 _ rfl
 have h4 := hf 4 _ rfl
 have h5 := hf 5 _ rfl
 have hn6 : xs.length = 6 := hn
 match xs, hn6, cs, hl with
 | [x0, x1, x2, x3, x4, x5], _, [c0, c1, c2, c3, c4, c5], _ =>
  obtain ⟨z0, e0, _, _⟩ := DataW.trod_int Tryz.underlying3 h0
  obtain ⟨z1, e1, _, w1⟩ := DataW.trod_int Tryz.underlying3 h1
  obtain ⟨s2, e2, _, _⟩ := DataW.trod_string Tryz.underlying9 h2
  obtain ⟨s3, e3, _, _⟩ := DataW.trod_string Tryz.underlying9 h3
  obtain ⟨s4, e4, _, _⟩ := DataW.trod_string Tryz.underlying9 h4
  obtain ⟨z5, e5, _, _⟩ := DataW.trod_int Tryz.underlying3 h5
  replace e0 : ([c0, c1, c2, c3, c4, c5].drop 0).take (Tryz.prog.cellsOf 3) = [.int .i64 z0] := e0
  replace e1 : ([c0, c1, c2, c3, c4, c5].drop 1).take (Tryz.prog.cellsOf 3) = [.int .i64 z1] := e1
  replace e2 : ([c0, c1, c2, c3, c4, c5].drop 2).take (Tryz.prog.cellsOf 9) = [.string s2] := e2
  replace e3 : ([c0, c1, c2, c3, c4, c5].drop 3).take (Tryz.prog.cellsOf 9) = [.string s3] := e3
  replace e4 : ([c0, c1, c2, c3, c4, c5].drop 4).take (Tryz.prog.cellsOf 9) = [.string s4] := e4
  replace e5 : ([c0, c1, c2, c3, c4, c5].drop 5).take (Tryz.prog.cellsOf 3) = [.int .i64 z5] := e5
  rw [i64CellsD] at e0 e1 e5
  rw [strCellsD] at e2 e3 e4
  simp only [List.drop_succ_cons, List.drop_zero, List.take_succ_cons, List.take_zero, List.cons.injEq, and_true] at e0 e1 e2 e3 e4 e5
  subst e0; subst e1; subst e2; subst e3; subst e4; subst e5
  exact ⟨⟨z0, z1, s2, s3, s4, z5⟩, rfl, wfi64 w1⟩
theorem open_deeds {H : Type} {enc : TypeId × Value → H} {W : World} {r : Reach} {b0 : Nat} {v : Value} {d : DataW H} {ps : List MemPlace}
  (hv : Value.okWide Tryz.prog W r b0 22 v) (h : DataW.Trod enc Tryz.prog W 0 (fun _ => true) true 22 v d ps) :
  ∃ A c l, v = .slice A (List.length l) c ∧ RowAt W W.heap.size A (deedsC l) ∧ l.length ≤ maxLen ∧ ∀ a ∈ l, DeedN a := by
 obtain ⟨a, len, cap, rfl⟩ := okWide_slice Tryz.underlying22 hv
 obtain ⟨fuel, hf⟩ := h
 rcases DataW.trod_slice Tryz.underlying22 hf with ⟨hcs, hx⟩ | ⟨a', len', cap', elems, rest, n, _, hcs, hx, hb, hl, hm, hlen, hel, hsp, hns⟩
 ·simp [Value.cells] at hcs
  obtain ⟨rfl, rfl, rfl⟩ := hcs
  exact ⟨none, 0, [], rfl, .inl rfl, Nat.zero_le _, fun s hs => by cases hs⟩
 ·simp [Value.cells] at hcs
  obtain ⟨rfl, rfl, rfl⟩ := hcs
  have each : ∀ i, i < len → ∃ (x : DeedV) (y : DataW H × List MemPlace), elems[i]? = some y ∧ DeedN x ∧ ∀ k u, ((deedC x).toList)[k]? = some u → W.cell? ((a'.add (i * 6)).add k) = some u := fun i hi => by
   have e := hel i hi
   rw [List.getElem?_eq_getElem (by omega), deedCells, Option.bind_eq_some_iff] at e
   obtain ⟨cs, h1, h2⟩ := e
   obtain ⟨_, c2, c3⟩ := World.cells?_some h1
   obtain ⟨x, rfl, hw⟩ := deed_of h2
   refine ⟨x, elems[i], by rw [List.getElem?_eq_getElem (by omega)], hw, fun k u hu => ?_⟩
   have hk : k < 6 := (List.getElem?_eq_some_iff.1 hu).1
   rw [c3 k hk]; exact hu
  obtain ⟨l, hll, hl2⟩ : ∃ l : List DeedV, l.length = len ∧ ∀ i x, l[i]? = some x → ∃ y : DataW H × List MemPlace, elems[i]? = some y ∧ DeedN x ∧ ∀ k u, ((deedC x).toList)[k]? = some u → W.cell? ((a'.add (i * 6)).add k) = some u := by
   have key : ∀ i : Fin len, ∃ x : DeedV, ∃ y : DataW H × List MemPlace, elems[i.1]? = some y ∧ DeedN x ∧ ∀ k u, ((deedC x).toList)[k]? = some u → W.cell? ((a'.add (i.1 * 6)).add k) = some u := fun i => each i.1 i.2
   refine ⟨List.ofFn fun i => Classical.choose (key i), by simp, fun i x hx => ?_⟩
   have hi : i < len := by have := (List.getElem?_eq_some_iff.1 hx).1; simpa using this
   rw [List.getElem?_ofFn, dif_pos hi] at hx
   obtain rfl := Option.some.inj hx
   exact Classical.choose_spec (key ⟨i, hi⟩)
  refine ⟨some a', cap, l, by rw [hll], ?_, by omega, fun x hx0 => ?_⟩
  ·by_cases hl0 : len = 0
   ·left
    have : l = [] := List.eq_nil_of_length_eq_zero (by omega)
    rw [this]; rfl
   ·obtain ⟨b, o, spot⟩ := a'
    have h0 : ∃ x, l[0]? = some x := ⟨l[0], List.getElem?_eq_getElem (by omega)⟩
    obtain ⟨x, hx1⟩ := h0
    obtain ⟨y, _, _, hcell⟩ := hl2 0 x hx1
    have hc0 := hcell 0 _ rfl
    have hspot : spot = none := by simpa [Addr.add] using World.cell?_spot hc0
    subst hspot
    have ea1 : ∀ o j : Nat, (⟨b, o, none⟩ : Addr).add j = ⟨b, o + j, none⟩ := fun o j => by unfold Addr.add; split <;> simp_all
    have ea : ∀ j k : Nat, ((⟨b, o, none⟩ : Addr).add (j * 6)).add k = ⟨b, o + (j * 6 + k), none⟩ := fun j k => by rw [ea1, ea1, Nat.add_assoc]
    rw [ea] at hc0
    refine .inr ⟨b, o, rfl, block_of_cell hc0, fun j u hu => ?_⟩
    obtain ⟨z, hz, hzu⟩ := deedsC_idx hu
    obtain ⟨y, _, _, hcj⟩ := hl2 (j / 6) z hz
    have := hcj (j % 6) u hzu
    rw [ea, show j / 6 * 6 + j % 6 = j by omega] at this
    exact this
  ·obtain ⟨i, hi⟩ := List.getElem?_of_mem hx0
   obtain ⟨y, hy, hw, _⟩ := hl2 i x hi
   exact hw
theorem cstr_info : (Tryz.prog.info? 9).map (fun i => (i.zero, i.size, i.bytes)) = some (some (.string ⟨#[]⟩), 1, 16) := by kernel_rfl
theorem add_addr (b o j : Nat) : (⟨b, o, none⟩ : Addr).add j = ⟨b, o + j, none⟩ := by unfold Addr.add; split <;> simp_all
theorem cell_alloc_some {w : World} {p : Addr} {u : Value} {o : Obj} (h : w.cell? p = some u) : (w.alloc o).cell? p = some u := by
 have hb : p.block < w.heap.size := by
  rcases Nat.lt_or_ge p.block w.heap.size with hlt | hge
  ·exact hlt
  ·simp [World.cell?, Array.getElem?_eq_none hge] at h
 rw [World.cell?_alloc_lt w o p hb]; exact h
set_option maxHeartbeats 400000 in
theorem clone_any (A : Option Addr) (n c : Nat) (xs : List ByteArray) (w : World) (hn : xs.length = n) (hx : n ≤ 1000000) (h : RowAt w w.heap.size A (xs.map .string)) (h0 : A = none → n = 0 ∧ c = 0) :
  Calls Tryz.prog 75 #[.slice A n c] w fun e w' => ∃ v, e = .returned v ∧ w'.ownsRow w.heap.size 9 1 v n (xs.map .string) ∧ Below w.heap.size w w' := by
 obtain ⟨i0, hi, hz0, hz1, hz2⟩ := info_parts cstr_info
 cases A with
 | none =>
  obtain ⟨rfl, rfl⟩ := h0 rfl
  have hxs : xs = [] := List.eq_nil_of_length_eq_zero hn
  subst hxs
  have hne := fun W => Lib.run_eql_slice_nil (P := Tryz.prog) W
  clear hx h hn h0 hi hz0 hz1 hz2
  go_enter Tryz.func75, Tryz.ntmps75
  go_wp2
  go_ret
  exact ⟨_, rfl, ⟨rfl, .inl ⟨rfl, rfl⟩⟩, Below.refl _ _⟩
 | some ad =>
  have hne := fun W => Lib.run_eql_slice_nil (P := Tryz.prog) W
  have HC : Hid (∀ (j : Nat) (u : Value), (xs.map Value.string)[j]? = some u → w.cell? (ad.add j) = some u) := by
   intro j u hu
   rcases h with h | ⟨b, o, hA, hb, hc⟩
   ·rw [h] at hu; simp at hu
   ·cases hA; rw [add_addr]; exact hc j u hu
  have HX := Lib.hid hn
  clear h h0 hn
  go_enter Tryz.func75, Tryz.ntmps75
  go_wp2_with (first | (at_builtin; refine wpList_append_own _ rfl (.tmp 5) (.tmp 6) _ rfl w.heap.size 9 i0 (.string ⟨#[]⟩) 1 16 Tryz.underlying24 hi hz0 hz1 hz2 rfl (by decide) _ 0 [] rfl ?c0 ad n c (xs.map .string) rfl ?c6 ?c1 ?c2 ?c3 ?c4 ?c5 ?_))
  case c0 => exact ⟨by simp, .inr ⟨w.heap.size, 0, #[], rfl, Nat.le_refl _, heap_alloc_new w _, Nat.le_refl _, by unfold maxLen; omega, rfl, rfl⟩⟩
  case c6 => simp [HX.out]
  case c1 => exact fun j u hu => cell_alloc_some (HC.out j u hu)
  case c2 => intro u hu; simp at hu; obtain ⟨x, _, rfl⟩ := hu; rfl
  case c3 => unfold maxLen; omega
  case c4 => omega
  case c5 => simp
  intro v' w3 hown' hgrow _
  go_wp2
  go_ret
  exact ⟨_, rfl, by simpa using hown', ((Below.refl _ _).alloc (Nat.le_refl _) _).grown hgrow (by simp) (by intro k hk; simp [Value.ownBlock] at hk; omega)⟩
structure Pte where
 is : Bool
 wr : Bool
 fr : Int
def pteL (l : List Pte) : List Value := l.flatMap fun p => [.bool p.is, .bool p.wr, .int .i64 p.fr]
theorem pteL_get (l : List Pte) (i : Nat) (hi : i < l.length) : (pteL l)[3 * i]? = some (.bool l[i].is) ∧ (pteL l)[3 * i + 1]? = some (.bool l[i].wr) ∧ (pteL l)[3 * i + 2]? = some (.int .i64 l[i].fr) := by
 induction l generalizing i with
 | nil => simp at hi
 | cons p l ih =>
  cases i with
  | zero => simp [pteL]
  | succ i =>
   have := ih i (by simpa using hi)
   simp only [pteL, List.flatMap_cons, List.getElem_cons_succ] at this ⊢
   rw [show 3 * (i + 1) = 3 * i + 3 by omega, show 3 * i + 3 + 1 = (3 * i + 1) + 3 by omega, show 3 * i + 3 + 2 = (3 * i + 2) + 3 by omega]
   simpa [List.getElem?_append_right] using this
def findR (l : List Pte) (a sz : Nat) (wr : Bool) : Option (Int × Nat) :=
 match l[a / 128]? with
 | some p => if a < 2048 ∧ a % sz = 0 ∧ p.is = true ∧ (wr = true → p.wr = true) then some (p.fr, a % 128) else none
 | none => none
def findE : Option (Int × Nat) → Ending
 | some (f, p) => .returned (.tuple #[.int .i64 f, .int .i64 (p : Nat), .bool true])
 | none => .returned (.tuple #[.int .i64 0, .int .i64 0, .bool false])
def FindPost (r : Option (Int × Nat)) (w : World) (e : Ending) (w' : World) : Prop := e = findE r ∧ Below w.heap.size w w'
set_option maxHeartbeats 1000000 in
theorem mfind_any (l : List Pte) (a sz : Nat) (wr : Bool) (w : World) (hl : l.length = 16) (hsz : sz = 1 ∨ sz = 4) (ha : a < 4294967296) :
  Calls Tryz.prog 145 #[.agg (pteL l).toArray, .int .u32 a, .int .i64 sz, .bool wr] w (FindPost (findR l a sz wr) w) := by
 by_cases h1 : a < 2048
 ·have hi : a / 128 < l.length := by omega
  obtain ⟨p0, p1, p2⟩ := pteL_get l (a / 128) hi
  have hget : l[a / 128]? = some l[a / 128] := List.getElem?_eq_getElem hi
  generalize l[a / 128] = p at p0 p1 p2 hget
  have c0 : (w.alloc (.cells (pteL l).toArray 76)).cell? ⟨w.heap.size, a / 128 * 3, none⟩ = some (.bool p.is) := (Blk.new w 76 _).cell _ (by rw [Nat.mul_comm]; simpa using p0)
  have c1 : (w.alloc (.cells (pteL l).toArray 76)).cell? ⟨w.heap.size, a / 128 * 3 + 1, none⟩ = some (.bool p.wr) := (Blk.new w 76 _).cell _ (by rw [Nat.mul_comm (a / 128)]; simpa using p1)
  have c2 : (w.alloc (.cells (pteL l).toArray 76)).cell? ⟨w.heap.size, a / 128 * 3 + 2, none⟩ = some (.int .i64 p.fr) := (Blk.new w 76 _).cell _ (by rw [Nat.mul_comm (a / 128)]; simpa using p2)
  have i1 : (0 : Int) ≤ (a : Int) / 128 := by omega
  have i2 : (a : Int) / 128 < 16 := by omega
  have i3 : ((a : Int) / 128).toNat = a / 128 := by omega
  have hz : (w.alloc (.cells (pteL l).toArray 76)).heap.size = w.heap.size + 1 := by simp
  have hR : findR l a sz wr = if a % sz = 0 ∧ p.is = true ∧ (wr = true → p.wr = true) then some (p.fr, a % 128) else none := by unfold findR; rw [hget]; simp [h1]
  have h2 : ¬ (2048 : Int) ≤ (a : Int) := by omega
  have h2' : (a : Int) < 2048 := by omega
  clear ha h1 hget p0 p1 p2 hi hl
  obtain ⟨pi, pw, pf⟩ := p
  by_cases hm : a % sz = 0
  ·have hm1 : ((a : Int) % 1 != 0) = false := by simp
   have HM : Hid (sz = 4 → ((a : Int) % 4 != 0) = false) := by rintro rfl; simp; omega
   have hF : findR l a sz wr = if (pi && (!wr || pw)) = true then some (pf, a % 128) else none := hR.trans (by cases pi <;> cases wr <;> cases pw <;> simp [hm])
   cases pi <;> cases wr <;> cases pw
   all_goals
    have HF := Lib.hid hF
    clear hF hR hm
    rcases hsz with rfl | rfl
    all_goals
     try have hm4 := HM.out rfl
     clear HM
     go_enter Tryz.func145, Tryz.ntmps145
     go_wp2
     go_ret3
     rw [HF.out]
     exact ⟨rfl, ((Below.refl _ _).alloc (Nat.le_refl _) _).alloc (by simp) _⟩
  ·obtain rfl : sz = 4 := by rcases hsz with rfl | rfl; exact absurd (Nat.mod_one a) hm; rfl
   have hm4 : ((a : Int) % 4 != 0) = true := by simp; omega
   have HF : Hid (findR l a 4 wr = none) := hR.trans (by simp [hm])
   clear hR hm hsz
   go_enter Tryz.func145, Tryz.ntmps145
   go_wp2
   go_ret3
   rw [HF.out]
   exact ⟨rfl, (Below.refl _ _).alloc (Nat.le_refl _) _⟩
 ·have hR : findR l a sz wr = none := by unfold findR; split <;> simp [h1]
  have HR := Lib.hid hR
  have h1' : ¬ (a : Int) < 2048 := by omega
  have h2' : (2048 : Int) ≤ (a : Int) := by omega
  have h3' : decide ((2048 : Int) ≤ (a : Int)) = true := by simpa using h2'
  clear hR ha h1
  rcases hsz with rfl | rfl
  all_goals
   go_enter Tryz.func145, Tryz.ntmps145
   go_wp2
   go_ret3
   rw [HR.out]
   exact ⟨rfl, (Below.refl _ _).alloc (Nat.le_refl _) _⟩
def frame (xs : List ByteArray) (n : Int) : Option ByteArray :=
 if 0 ≤ n then match xs[n.toNat]? with
  | some s => if s.size = 128 then some s else none
  | none => none
 else none
theorem frame_some {xs : List ByteArray} {n : Int} {s : ByteArray} (h : frame xs n = some s) : ∃ k : Nat, n = k ∧ ∃ hk : k < xs.length, xs[k] = s ∧ s.size = 128 := by
 unfold frame at h
 split at h
 ·rename_i h0
  split at h
  ·rename_i t ht
   split at h
   ·rename_i h1
    injection h with h
    subst h
    obtain ⟨hk, e⟩ := List.getElem?_eq_some_iff.1 ht
    exact ⟨n.toNat, by omega, hk, e, h1⟩
   ·cases h
  ·cases h
 ·cases h
set_option maxHeartbeats 1000000 in
theorem there_any (A : Option Addr) (c : Nat) (xs : List ByteArray) (n : Int) (w : World) (hx : xs.length ≤ 1000000) (h : RowAt w w.heap.size A (xs.map .string)) :
  Calls Tryz.prog 146 #[.slice A xs.length c, .int .i64 n] w fun e w' => e = .returned (.bool (frame xs n).isSome) ∧ w = w' := by
 by_cases h0 : 0 ≤ n
 ·obtain ⟨k, rfl⟩ := Int.eq_ofNat_of_zero_le h0
  by_cases h1 : k < xs.length
  ·obtain ⟨b, o, rfl, hb, hc⟩ := h.at_ (by simp; omega)
   have g1 : w.cell? ⟨b, o + k, none⟩ = some (.string xs[k]) := hc k _ (by simp [h1])
   have i1 : (0 : Int) ≤ (k : Int) := by omega
   have i2 : (k : Int) < (xs.length : Int) := by omega
   clear hc h
   by_cases h2 : xs[k].size = 128
   ·have HF : Hid (frame xs (k : Int) = some xs[k]) := by simp [frame, h1, h2, Hid]
    have h2' : ((xs[k].size : Int) == 128) = true := by simp [h2]
    clear h2
    go_enter Tryz.func146, Tryz.ntmps146
    go_wp2
    go_ret
    exact ⟨ret_bool (by rw [HF.out]; rfl), rfl⟩
   ·have HF : Hid (frame xs (k : Int) = none) := by simp [frame, h1, h2, Hid]
    have h2' : ((xs[k].size : Int) == 128) = false := by simp; omega
    clear h2
    go_enter Tryz.func146, Tryz.ntmps146
    go_wp2
    go_ret
    exact ⟨ret_bool (by rw [HF.out]; rfl), rfl⟩
  ·have HF : Hid (frame xs (k : Int) = none) := by simp [frame, h1, Hid]
   have h1' : decide (k < xs.length) = false := by simpa using h1
   clear h hx h0
   go_enter Tryz.func146, Tryz.ntmps146
   go_wp2
   go_ret
   exact ⟨ret_bool (by rw [HF.out]; rfl), rfl⟩
 ·have HF : Hid (frame xs n = none) := by simp [frame, h0, Hid]
  have h0' : decide (0 ≤ n) = false := by simpa using h0
  clear h hx
  go_enter Tryz.func146, Tryz.ntmps146
  go_wp2
  go_ret
  exact ⟨ret_bool (by rw [HF.out]; rfl), rfl⟩
def loadR (xs : List ByteArray) (l : List Pte) (a sz : Nat) : Option Nat :=
 match findR l a sz false with
 | some (f, p) => match frame xs f with
  | some s => some (leN ((s.data.toList.drop p).take sz))
  | none => none
 | none => none
def loadE : Option Nat → Ending
 | some v => .returned (.tuple #[.int .u32 (v : Nat), .bool true])
 | none => .returned (.tuple #[.int .u32 0, .bool false])
def LoadPost (r : Option Nat) (w : World) (e : Ending) (w' : World) : Prop := e = loadE r ∧ Below w.heap.size w w'
theorem findR_place {l : List Pte} {a sz : Nat} {wr : Bool} {f : Int} {p : Nat} (hsz : sz = 1 ∨ sz = 4) (h : findR l a sz wr = some (f, p)) : p + sz ≤ 128 := by
 unfold findR at h
 split at h
 ·split at h
  ·rename_i hh
   injection h with h
   injection h with _ h
   obtain ⟨_, hm, _⟩ := hh
   rcases hsz with rfl | rfl <;> omega
  ·cases h
 ·cases h
theorem leN_four (l : List UInt8) (n : Nat) (hn : n ≤ 4) : leN (l.take n) < 4294967296 := by
 have h := leN_lt (l.take n)
 have h2 : (l.take n).length ≤ 4 := by simp; omega
 have h3 : 256 ^ (l.take n).length ≤ 256 ^ 4 := Nat.pow_le_pow_right (by omega) h2
 omega
theorem space_info : (Tryz.prog.info? 76).map (·.size) = some 48 := by kernel_rfl
theorem pteL_len (l : List Pte) : (pteL l).length = 3 * l.length := by
 induction l with
 | nil => rfl
 | cons p l ih => simp only [pteL, List.flatMap_cons, List.length_append, List.length_cons, List.length_nil] at ih ⊢; omega
theorem space_size {l : List Pte} (hl : l.length = 16) : (Tryz.prog.info? 76).map (·.size) = some (pteL l).toArray.size := by
 rw [space_info]; simp [pteL_len, hl]
set_option maxHeartbeats 1000000 in
theorem load_any (A : Option Addr) (c : Nat) (xs : List ByteArray) (l : List Pte) (a sz : Nat) (w : World) (hx : xs.length ≤ 1000000) (h : RowAt w w.heap.size A (xs.map .string)) (hl : l.length = 16) (hsz : sz = 1 ∨ sz = 4) (ha : a < 4294967296) :
  Calls Tryz.prog 79 #[.slice A xs.length c, .agg (pteL l).toArray, .int .u32 a, .int .i64 sz] w (LoadPost (loadR xs l a sz) w) := by
 have HR := Lib.hid h
 have HS := Lib.hid hsz
 have HL := Lib.hid hl
 have HA := Lib.hid ha
 clear h hsz hl ha
 go_enter Tryz.func79, Tryz.ntmps79
 go_wp2_with (refine load_blk 76 (.tmp 5) w.heap.size 76 (pteL l).toArray _ rfl rfl rfl (Blk.new w _ _) Tryz.underlying76 rfl (space_size HL.out) ?_)
 refine (mfind_any l a sz false _ HL.out HS.out HA.out).mono ?_
 rintro e w1 ⟨rfl, hb1⟩
 have B1 : Hid (Below w.heap.size w w1) := ((Below.refl _ _).alloc (Nat.le_refl _) _).trans (hb1.mono (by simp))
 clear hb1
 cases hf : findR l a sz false with
 | none =>
  have HL0 := Lib.hid (show loadR xs l a sz = none by unfold loadR; rw [hf])
  clear hf
  unfold findE
  go_wp2
  go_ret2
  rw [HL0.out]
  exact ⟨rfl, B1.out⟩
 | some fp =>
  obtain ⟨f, p⟩ := fp
  have hp := findR_place HS.out hf
  have HF := Lib.hid hf
  clear hf
  unfold findE
  go_wp2_with fail
  refine (there_any A c xs f _ hx ((HR.out.below B1.out).mono B1.out.size)).mono ?_
  rintro e w' ⟨rfl, rfl⟩
  cases hfr : frame xs f with
  | none =>
   have HL0 := Lib.hid (show loadR xs l a sz = none by unfold loadR; rw [HF.out]; simp only [hfr])
   clear hfr
   go_wp2
   go_ret2
   rw [HL0.out]
   exact ⟨rfl, B1.out⟩
  | some s =>
   have HL0 := Lib.hid (show loadR xs l a sz = some (leN ((s.data.toList.drop p).take sz)) by unfold loadR; rw [HF.out]; simp only [hfr])
   obtain ⟨k, rfl, hk, rfl, hs⟩ := frame_some hfr
   obtain ⟨b, o, rfl, hb, hc⟩ := HR.out.at_ (by simp; omega)
   have g1 : w1.cell? ⟨b, o + k, none⟩ = some (.string xs[k]) := (B1.out.cell (p := ⟨b, o + k, none⟩) hb).trans (hc k _ (by simp [hk]))
   have i1 : (0 : Int) ≤ (k : Int) := by omega
   have i2 : (k : Int) < (xs.length : Int) := by omega
   have j1 : (p : Int) + (sz : Int) ≤ (xs[k].size : Int) := by omega
   have j2 : ((p : Int) + (sz : Int)).toNat = p + sz := by omega
   have j3 : p + sz ≤ 128 := hp
   have hsz4 : sz ≤ 4 := by rcases HS.out with h | h <;> omega
   have HSS := Lib.hid hs
   clear hfr hc hs hp
   go_wp2_with fail
   refine (get_any _ _ (by simp [ByteArray.size_extract]; omega)).mono ?_
   rintro e w' ⟨rfl, rfl⟩
   have hlt : leN ((xs[k].extract p (p + sz)).data.toList.take 8) < 4294967296 ∧ leN ((xs[k].extract p (p + sz)).data.toList.take 8) = leN ((xs[k].data.toList.drop p).take sz) := by
    have e1 : (xs[k].extract p (p + sz)).data.toList.take 8 = (xs[k].data.toList.drop p).take sz := by
     rw [Lib.extract_data, show p + sz - p = sz by omega, List.take_take, show min 8 sz = sz by omega]
    rw [e1]
    exact ⟨leN_four _ _ hsz4, rfl⟩
   generalize leN ((xs[k].extract p (p + sz)).data.toList.take 8) = v at hlt ⊢
   obtain ⟨hv, hve⟩ := hlt
   have HV := Lib.hid hve
   have hv' : (v : Int) < 4294967296 := by omega
   clear hve hv
   go_wp2
   go_ret2
   rw [HL0.out, ← HV.out]
   exact ⟨rfl, B1.out⟩
def putB (s : ByteArray) (p : Nat) (d : ByteArray) : ByteArray := s.extract 0 p ++ d ++ s.extract (p + d.size) s.size
set_option maxHeartbeats 1000000 in
theorem mput_any (s d : ByteArray) (p : Nat) (w : World) (h : p + d.size ≤ s.size) (hs : s.size ≤ 1000000) :
  Calls Tryz.prog 78 #[.string s, .int .i64 p, .string d] w fun e w' => e = .returned (.string (putB s p d)) ∧ ∃ k, w' = w.drewN k := by
 have e1 : IntKind.i64.wrap ((p : Int) + (d.size : Int)) = (p : Int) + (d.size : Int) := IntWalk.i64_in _ (by omega)
 have e2 : ((p : Int) + (d.size : Int)).toNat = p + d.size := by omega
 have e3 : (0 : Int) ≤ (p : Int) + (d.size : Int) := by omega
 have e4 : (p : Int) + (d.size : Int) ≤ (s.size : Int) := by omega
 have e5 : (p : Int) ≤ (s.size : Int) := by omega
 have e6 : (0 : Int) ≤ (p : Int) := by omega
 go_enter Tryz.func78, Tryz.ntmps78
 go_wp2
 go_quiet (fail)
 go_wp2
 go_ret
 exact ⟨rfl, _, rfl⟩
theorem own_base {w : World} {base base' : Nat} {e : TypeId} {size : Nat} {v : Value} {n : Nat} {xs : List Value} (h : w.ownsRow base e size v n xs) (hb : base' ≤ base) : w.ownsRow base' e size v n xs := by
 obtain ⟨h1, h2⟩ := h
 refine ⟨h1, ?_⟩
 rcases h2 with h2 | ⟨g, cap, cur, hv, hg, r⟩
 ·exact .inl h2
 ·exact .inr ⟨g, cap, cur, hv, by omega, r⟩
end Go.Proofs.YtdldlendppkknaaGreatDoor
