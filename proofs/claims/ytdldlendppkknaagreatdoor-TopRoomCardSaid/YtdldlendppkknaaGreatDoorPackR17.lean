/-
  Contracts and plain laws: TreeB, TreeC, DirA, AttA.
-/
import Derived.ArgAppend
import Derived.Laws.IdiomStrings
import Derived.Lib.LazyBuf
import Derived.Lib.ConvBytes
import Derived.Test.YtdldlendppkknaaGreatDoorPackR01
import Derived.Test.YtdldlendppkknaaGreatDoorPackR11
import Derived.Test.YtdldlendppkknaaGreatDoorPackR16
namespace Go.Proofs.YtdldlendppkknaaGreatDoor
set_option linter.unusedVariables false
set_option linter.unusedSimpArgs false
set_option maxRecDepth 100000
section
variable {V W X ys : List ByteArray} {m n k c d : Nat} {l l' : List Nat} {E E' : List EntV} {δ ε : Nat → Int}
theorem cnt_ins (p : EntV → Bool) (x : EntV) : (insE E x).countP p = E.countP p + if p x = true then 1 else 0 := by
 have h : E.countP p = (E.take (atE E x.name)).countP p + (E.drop (atE E x.name)).countP p := by
  rw [← List.countP_append, List.take_append_drop]
 unfold insE
 rw [List.countP_append, List.countP_cons, h]
 omega
theorem cnt_out (p : EntV → Bool) (hv : ValidE E) {nm : ByteArray} (hh : hasE E nm = true) : E.countP p = (outE E nm).countP p + if p ⟨nm, getE E nm⟩ = true then 1 else 0 := by
 obtain ⟨hk, e⟩ := (at_has hv.rise).1 hh
 have h1 := at_out hv.rise hk e
 have h2 := at_get hv.rise hk e
 have h3 : E[atE E nm] = ⟨nm, getE E nm⟩ := by
  rw [h2]
  generalize E[atE E nm] = x at *
  obtain ⟨a, b⟩ := x
  dsimp only at *
  rw [e]
 have h4 := at_cut hk
 rw [h3] at h4
 have h5 : E.countP p = (E.take (atE E nm)).countP p + (((E.drop (atE E nm + 1)).countP p) + if p ⟨nm, getE E nm⟩ = true then 1 else 0) := by
  rw [← List.countP_cons, ← List.countP_append, ← h4]
 rw [h1, List.countP_append, h5]
 omega
def cntD (V : List ByteArray) (d n : Nat) : Nat := if kindR V d = 2 then (entD V d).countP (fun x => decide (x.ino = (n : Int))) else 0
def cntE (V : List ByteArray) (m n : Nat) : Nat := ((List.range' 1 m).map fun d => cntD V d n).sum
theorem cntE_congr (h : ∀ d, 1 ≤ d → d ≤ m → cntD W d n = cntD V d n) : cntE W m n = cntE V m n := by
 unfold cntE
 congr 1
 refine List.map_congr_left fun k hk => ?_
 obtain ⟨i, i1, i2⟩ := List.mem_range'.1 hk
 exact h k (by omega) (by omega)
theorem cntE_upd (h1 : 1 ≤ d) (h2 : d ≤ m) (h : ∀ k, 1 ≤ k → k ≤ m → k ≠ d → cntD W k n = cntD V k n) : cntE V m n + cntD W d n = cntE W m n + cntD V d n := by
 unfold cntE
 exact sum_upd (n := d) (fun k => cntD V k n) (fun k => cntD W k n) (List.range' 1 m) (List.nodup_range' (step := 1)) (List.mem_range'.2 ⟨d - 1, by omega, by omega⟩) fun k hk hne => by
  obtain ⟨i, i1, i2⟩ := List.mem_range'.1 hk
  exact h k (by omega) (by omega) hne
theorem cntE_le (h1 : 1 ≤ d) (h2 : d ≤ m) : cntD V d n ≤ cntE V m n := by
 unfold cntE
 have key : ∀ L : List Nat, d ∈ L → cntD V d n ≤ (L.map fun d => cntD V d n).sum := by
  intro L
  induction L with
  | nil => intro h; cases h
  | cons a L ih =>
   intro h
   rw [List.map_cons, List.sum_cons]
   rcases List.mem_cons.1 h with rfl | h
   ·omega
   ·have := ih h; omega
 exact key _ (List.mem_range'.2 ⟨d - 1, by omega, by omega⟩)
theorem cntE_zero (h : ∀ d, 1 ≤ d → d ≤ m → cntD V d n = 0) : cntE V m n = 0 := by
 unfold cntE
 have : (List.range' 1 m).map (fun d => cntD V d n) = (List.range' 1 m).map (fun _ => 0) := List.map_congr_left fun k hk => by
  obtain ⟨i, i1, i2⟩ := List.mem_range'.1 hk
  exact h k (by omega) (by omega)
 rw [this]
 clear this h
 induction m with
 | zero => rfl
 | succ j ih => rw [List.range'_concat, List.map_append, List.sum_append, ih]; rfl
structure TreeX (V : List ByteArray) (m : Nat) (δ : Nat → Int) : Prop where
 dir : DirT V m
 root : LiveT V m 1
 rootk : kindR V 1 = 2
 name : ∀ d, LiveT V m d → kindR V d = 2 → ∀ x ∈ entD V d, ∃ k : Nat, x.ino = (k : Int) ∧ LiveT V m k ∧ k ≠ 1
 dlink : ∀ n, LiveT V m n → kindR V n = 2 → linkN V n = 1
 links : ∀ n, LiveT V m n → (linkN V n : Int) = (cntE V m n : Int) + (if n = 1 then 1 else 0) + δ n
abbrev FsT (V : List ByteArray) (m : Nat) : Prop := TreeX V m fun _ => 0
def atX1 (δ : Nat → Int) (n : Nat) (v : Int) : Nat → Int := fun k => if k = n then v else δ k
theorem TreeX.congr (h : TreeX V m δ) (he : ∀ k, LiveT V m k → δ k = ε k) : TreeX V m ε := ⟨h.dir, h.root, h.rootk, h.name, h.dlink, fun n hn => by rw [← he n hn]; exact h.links n hn⟩
theorem TreeX.vol (h : TreeX V m δ) : IsVol V m := h.dir.inv.vol
theorem TreeX.dead (h : TreeX V m δ) (hn : ¬ LiveT V m n) : cntE V m n = 0 := by
 refine cntE_zero fun d h1 h2 => ?_
 unfold cntD
 by_cases hk : kindR V d = 2
 ·rw [if_pos hk, List.countP_eq_zero]
  intro x hx hd
  obtain ⟨k, e, hl, _⟩ := h.name d ⟨h1, h2, by omega⟩ hk x hx
  have := of_decide_eq_true hd
  have : k = n := by omega
  subst this
  exact hn hl
 ·rw [if_neg hk]
theorem TreeX.ofEnt (h : TreeX V m δ) (e : EntT V W m d E') (hn : ∀ x ∈ E', ∃ k : Nat, x.ino = (k : Int) ∧ LiveT V m k ∧ k ≠ 1)
  (hc : ∀ n, LiveT V m n → ((E'.countP (fun x => decide (x.ino = (n : Int))) : Nat) : Int) + ε n = (((entD V d).countP (fun x => decide (x.ino = (n : Int))) : Nat) : Int) + δ n) : TreeX W m ε := by
 have hv := h.vol
 have hk : ∀ k, 1 ≤ k → k ≤ m → kindR W k = kindR V k := fun k a b => e.kindA hv a b
 have hl : ∀ k, LiveT W m k ↔ LiveT V m k := fun k => e.liveA hv
 refine ⟨e.dir, (hl 1).2 h.root, by rw [hk 1 (Nat.le_refl _) h.root.2.1]; exact h.rootk, fun k k1 k2 x hx => ?_, fun k k1 k2 => ?_, fun k k1 => ?_⟩
 ·have k1' := (hl k).1 k1
  have k2' : kindR V k = 2 := by rw [← hk k k1.1 k1.2.1]; exact k2
  by_cases ek : k = d
  ·subst ek
   rw [e.ent] at hx
   obtain ⟨j, a, b, c⟩ := hn x hx
   exact ⟨j, a, (hl j).2 b, c⟩
  ·rw [e.rest k k1' k2' ek] at hx
   obtain ⟨j, a, b, c⟩ := h.name k k1' k2' x hx
   exact ⟨j, a, (hl j).2 b, c⟩
 ·rw [e.linkA k1.1 k1.2.1]
  exact h.dlink k ((hl k).1 k1) (by rw [← hk k k1.1 k1.2.1]; exact k2)
 ·have k1' := (hl k).1 k1
  have hu := cntE_upd (V := V) (W := W) (n := k) (d := d) (m := m) e.live.1 e.live.2.1 (fun j j1 j2 jn => by
   unfold cntD
   rw [hk j j1 j2]
   by_cases j3 : kindR V j = 2
   ·rw [if_pos j3, if_pos j3, e.rest j ⟨j1, j2, by omega⟩ j3 jn]
   ·rw [if_neg j3, if_neg j3])
  have hW : cntD W d k = E'.countP (fun x => decide (x.ino = (k : Int))) := by
   unfold cntD
   rw [if_pos (by rw [hk d e.live.1 e.live.2.1]; exact e.kind), e.ent]
  have hV : cntD V d k = (entD V d).countP (fun x => decide (x.ino = (k : Int))) := by
   unfold cntD
   rw [if_pos e.kind]
  rw [hW, hV] at hu
  have h0 := h.links k k1'
  have h1 := hc k k1'
  rw [e.linkA k1.1 k1.2.1]
  omega
theorem TreeX.add (h : TreeX V m δ) {z : Int} {nm : ByteArray} (hn : LiveT V m n) (n1 : n ≠ 1) (ha : (addO V z nm (n : Int)).2 = 0) :
  TreeX (addO V z nm (n : Int)).1 m (atX1 δ n (δ n - 1)) ∧ ∃ d : Nat, z = (d : Int) ∧ hasE (entD V d) nm = false ∧ EntT V (addO V z nm (n : Int)).1 m d (insE (entD V d) ⟨nm, (n : Int)⟩) := by
 obtain ⟨d, rfl, _, _, _, hh, e⟩ := h.dir.add ha
 refine ⟨h.ofEnt e (fun x hx => ?_) (fun k hk => ?_), d, rfl, hh, e⟩
 ·rcases mem_insE.1 hx with rfl | hx
  ·exact ⟨n, rfl, hn, n1⟩
  ·exact h.name d e.live e.kind x hx
 ·rw [cnt_ins]
  unfold atX1
  by_cases ek : k = n
  ·subst ek
   rw [if_pos rfl, if_pos (by simp)]
   omega
  ·rw [if_neg ek, if_neg (by simp; omega)]
   omega
theorem TreeX.drop (h : TreeX V m δ) {z : Int} {nm : ByteArray} (ha : (dropO V z nm).2 = 0) :
  ∃ d n : Nat, z = (d : Int) ∧ LiveT V m n ∧ n ≠ 1 ∧ (findO V z nm).1 = (n : Int) ∧ (⟨nm, (n : Int)⟩ : EntV) ∈ entD V d ∧ TreeX (dropO V z nm).1 m (atX1 δ n (δ n + 1)) ∧ EntT V (dropO V z nm).1 m d (outE (entD V d) nm) := by
 obtain ⟨d, rfl, hm, hh, e⟩ := h.dir.drop ha
 have hv := (h.dir.dir d e.live e.kind).valid
 have hmem := has_mem hv hh
 obtain ⟨n, hn, nl, n1⟩ := h.name d e.live e.kind _ hmem
 have hn : getE (entD V d) nm = (n : Int) := hn
 refine ⟨d, n, rfl, nl, n1, ?_, by rw [← hn]; exact hmem, h.ofEnt e (fun x hx => h.name d e.live e.kind x (mem_outE.1 hx).1) (fun k hk => ?_), e⟩
 ·have hl := (h.dir.dir d e.live e.kind).list
  unfold findO
  rw [if_neg (by rw [hm]; simp), hl]
  dsimp only
  rw [if_neg (by simp), if_pos hh]
  exact hn
 ·have hc := cnt_out (fun x => decide (x.ino = (k : Int))) hv hh
  rw [hn] at hc
  unfold atX1
  by_cases ek : k = n
  ·subst ek
   rw [if_pos (by simp)] at hc
   rw [if_pos rfl]
   omega
  ·rw [if_neg (by simp; omega)] at hc
   rw [if_neg ek]
   omega
theorem TreeX.new (h : TreeX V m δ) {kind owner : Int} (he : (newO V kind owner).2.2 = 0) :
  ∃ n : Nat, (newO V kind owner).2.1 = (n : Int) ∧ ¬ LiveT V m n ∧ LiveT (newO V kind owner).1 m n ∧ n ≠ 1 ∧ kindR (newO V kind owner).1 n = kind.toNat ∧ FarT V (newO V kind owner).1 m n ∧ (kind = 2 → entD (newO V kind owner).1 n = []) ∧ (∀ k, LiveT V m k → kindR V k = 2 → entD (newO V kind owner).1 k = entD V k) ∧ TreeX (newO V kind owner).1 m (atX1 δ n 1) := by
 obtain ⟨n, n1, n2, n3, n4, n5, nf, nd, nl, nk, nli, ne, nr⟩ := h.dir.new he
 have hdead : ¬ LiveT V m n := fun hl => hl.2.2 n3
 have hn1 : n ≠ 1 := fun e => hdead (e ▸ h.root)
 have hkk : ∀ k, LiveT (newO V kind owner).1 m k → k ≠ n → LiveT V m k ∧ kindR (newO V kind owner).1 k = kindR V k := fun k a b => ⟨(nf.live k b).1 a, nf.kind h.vol a.1 a.2.1 b⟩
 have hmono : ∀ k, LiveT V m k → LiveT (newO V kind owner).1 m k := fun k hk => (nf.live k (fun e => hdead (e ▸ hk))).2 hk
 have hcnt : ∀ k, cntE (newO V kind owner).1 m k = cntE V m k := fun k => cntE_congr fun j j1 j2 => by
  unfold cntD
  by_cases ej : j = n
  ·subst ej
   have z0 : ¬ kindR V j = 2 := by rw [n3]; decide
   rw [if_neg z0, nk]
   by_cases e2 : kind = 2
   ·rw [if_pos (by rw [e2]; rfl), ne e2]; rfl
   ·rw [if_neg (by omega)]
  ·rw [nf.kind h.vol j1 j2 ej]
   by_cases j3 : kindR V j = 2
   ·rw [if_pos j3, if_pos j3, nr j ⟨j1, j2, by omega⟩ j3]
   ·rw [if_neg j3, if_neg j3]
 refine ⟨n, n5, hdead, nl, hn1, nk, nf, ne, nr, nd, hmono 1 h.root, ?_, fun k k1 k2 x hx => ?_, fun k k1 k2 => ?_, fun k k1 => ?_⟩
 ·rw [nf.kind h.vol (Nat.le_refl _) h.root.2.1 (fun e => hn1 e.symm)]; exact h.rootk
 ·by_cases ek : k = n
  ·subst ek
   rw [ne (by omega)] at hx
   cases hx
  ·obtain ⟨a, b⟩ := hkk k k1 ek
   rw [nr k a (b ▸ k2)] at hx
   obtain ⟨j, p, q, r⟩ := h.name k a (b ▸ k2) x hx
   exact ⟨j, p, hmono j q, r⟩
 ·by_cases ek : k = n
  ·subst ek; exact nli
  ·obtain ⟨a, b⟩ := hkk k k1 ek
   rw [nf.link k1.1 k1.2.1 ek]
   exact h.dlink k a (b ▸ k2)
 ·rw [hcnt]
  unfold atX1
  by_cases ek : k = n
  ·subst ek
   rw [nli, h.dead hdead, if_neg hn1, if_pos rfl]; rfl
  ·obtain ⟨a, b⟩ := hkk k k1 ek
   rw [nf.link k1.1 k1.2.1 ek, if_neg ek]
   exact h.links k a
theorem TreeX.puts (h : TreeX V m δ) (hn : LiveT V m n) (hk : kindR V n = 1) {v : Nat} (hv : v < 65536) :
  putO V (n : Int) (intsL ((getR V (n : Int)).set 1 v)) = (putV V n ((getR V (n : Int)).set 1 v), 0) ∧ TreeX (putV V n ((getR V (n : Int)).set 1 v)) m (atX1 δ n (δ n + v - linkN V n)) ∧ FarT V (putV V n ((getR V (n : Int)).set 1 v)) m n := by
 obtain ⟨p, f, dT, la, ka, li, _, en⟩ := h.dir.links hn hv
 refine ⟨p, ⟨dT, (la 1).2 h.root, by rw [ka 1 (Nat.le_refl _) h.root.2.1]; exact h.rootk, fun k k1 k2 x hx => ?_, fun k k1 k2 => ?_, fun k k1 => ?_⟩, f⟩
 ·have k1' := (la k).1 k1
  have k2' : kindR V k = 2 := by rw [← ka k k1.1 k1.2.1]; exact k2
  rw [en k k1' k2'] at hx
  obtain ⟨j, a, b, c⟩ := h.name k k1' k2' x hx
  exact ⟨j, a, (la j).2 b, c⟩
 ·have k2' : kindR V k = 2 := by rw [← ka k k1.1 k1.2.1]; exact k2
  have ek : k ≠ n := fun e => by subst e; omega
  rw [f.link k1.1 k1.2.1 ek]
  exact h.dlink k ((la k).1 k1) k2'
 ·have k1' := (la k).1 k1
  have hc : cntE (putV V n ((getR V (n : Int)).set 1 v)) m k = cntE V m k := cntE_congr fun j j1 j2 => by
   unfold cntD
   rw [ka j j1 j2]
   by_cases j3 : kindR V j = 2
   ·rw [if_pos j3, if_pos j3, en j ⟨j1, j2, by omega⟩ j3]
   ·rw [if_neg j3, if_neg j3]
  rw [hc]
  have h0 := h.links k k1'
  unfold atX1
  by_cases ek : k = n
  ·subst ek
   rw [li, if_pos rfl]
   omega
  ·rw [if_neg ek, f.link k1.1 k1.2.1 ek]
   exact h0
theorem TreeX.gone (h : TreeX V m δ) (hn : LiveT V m n) (n1 : n ≠ 1) (hc : cntE V m n = 0) (he : kindR V n = 2 → entD V n = []) (hg : (goneO V (n : Int)).2 = 0) :
  TreeX (goneO V (n : Int)).1 m δ ∧ FarT V (goneO V (n : Int)).1 m n ∧ kindR (goneO V (n : Int)).1 n = 0 ∧ ∀ k, LiveT V m k → kindR V k = 2 → k ≠ n → entD (goneO V (n : Int)).1 k = entD V k := by
 obtain ⟨f, dT, hk0, en⟩ := h.dir.gone hn hg
 have hkk : ∀ k, LiveT (goneO V (n : Int)).1 m k → k ≠ n ∧ LiveT V m k ∧ kindR (goneO V (n : Int)).1 k = kindR V k := fun k a => by
  have b : k ≠ n := fun e => by subst e; exact a.2.2 hk0
  exact ⟨b, (f.live k b).1 a, f.kind h.vol a.1 a.2.1 b⟩
 refine ⟨⟨dT, (f.live 1 (fun e => n1 e.symm)).2 h.root, ?_, fun k k1 k2 x hx => ?_, fun k k1 k2 => ?_, fun k k1 => ?_⟩, f, hk0, en⟩
 ·rw [f.kind h.vol (Nat.le_refl _) h.root.2.1 (fun e => n1 e.symm)]; exact h.rootk
 ·obtain ⟨a, b, c⟩ := hkk k k1
  rw [en k b (c ▸ k2) a] at hx
  obtain ⟨j, p, q, r⟩ := h.name k b (c ▸ k2) x hx
  refine ⟨j, p, (f.live j (fun e => ?_)).2 q, r⟩
  subst e
  have := cntE_le (V := V) (m := m) (n := j) b.1 b.2.1
  rw [hc] at this
  unfold cntD at this
  rw [if_pos (c ▸ k2)] at this
  have hz := List.countP_eq_zero.1 (Nat.le_zero.1 this) x hx
  exact hz (by simpa using p)
 ·obtain ⟨a, b, c⟩ := hkk k k1
  rw [f.link k1.1 k1.2.1 a]
  exact h.dlink k b (c ▸ k2)
 ·obtain ⟨a, b, c⟩ := hkk k k1
  have hcc : cntE (goneO V (n : Int)).1 m k = cntE V m k := cntE_congr fun j j1 j2 => by
   unfold cntD
   by_cases ej : j = n
   ·subst ej
    rw [hk0, if_neg (by decide)]
    by_cases j3 : kindR V j = 2
    ·rw [if_pos j3, he j3]; rfl
    ·rw [if_neg j3]
   ·rw [f.kind h.vol j1 j2 ej]
    by_cases j3 : kindR V j = 2
    ·rw [if_pos j3, if_pos j3, en j ⟨j1, j2, by omega⟩ j3 ej]
    ·rw [if_neg j3, if_neg j3]
  rw [hcc, f.link k1.1 k1.2.1 a]
  exact h.links k b
theorem TreeX.still (h : TreeX V m δ) (dT : DirT W m) (hk : ∀ k, 1 ≤ k → k ≤ m → kindR W k = kindR V k) (hl : ∀ k, 1 ≤ k → k ≤ m → linkN W k = linkN V k) (en : ∀ k, LiveT V m k → kindR V k = 2 → entD W k = entD V k) : TreeX W m δ := by
 have la : ∀ k, LiveT W m k ↔ LiveT V m k := fun k => by
  unfold LiveT
  constructor
  ·rintro ⟨a, b, c⟩; exact ⟨a, b, by rw [← hk k a b]; exact c⟩
  ·rintro ⟨a, b, c⟩; exact ⟨a, b, by rw [hk k a b]; exact c⟩
 refine ⟨dT, (la 1).2 h.root, by rw [hk 1 (Nat.le_refl _) h.root.2.1]; exact h.rootk, fun k k1 k2 x hx => ?_, fun k k1 k2 => ?_, fun k k1 => ?_⟩
 ·have k1' := (la k).1 k1
  have k2' : kindR V k = 2 := by rw [← hk k k1.1 k1.2.1]; exact k2
  rw [en k k1' k2'] at hx
  obtain ⟨j, a, b, c⟩ := h.name k k1' k2' x hx
  exact ⟨j, a, (la j).2 b, c⟩
 ·rw [hl k k1.1 k1.2.1]
  exact h.dlink k ((la k).1 k1) (by rw [← hk k k1.1 k1.2.1]; exact k2)
 ·have hc : cntE W m k = cntE V m k := cntE_congr fun j j1 j2 => by
   unfold cntD
   rw [hk j j1 j2]
   by_cases j3 : kindR V j = 2
   ·rw [if_pos j3, if_pos j3, en j ⟨j1, j2, by omega⟩ j3]
   ·rw [if_neg j3, if_neg j3]
  rw [hc, hl k k1.1 k1.2.1]
  exact h.links k ((la k).1 k1)
theorem TreeX.same (h : TreeX V m δ) (s : SameT V W m) (hb : ∀ k, LiveT V m k → extL (getR V (k : Int)) ≠ 0 → blkL W (extL (getR V (k : Int))) = blkL V (extL (getR V (k : Int)))) : TreeX W m δ := by
 obtain ⟨a, b⟩ := h.dir.same s hb
 refine h.still a (fun k k1 k2 => ?_) (fun k k1 k2 => ?_) b
 ·rw [← kind_getT s.inv.vol k1 k2, ← kind_getT h.vol k1 k2, s.rest k k1 k2]
 ·unfold linkN; rw [s.rest k k1 k2]
theorem TreeX.filed (h : TreeX V m δ) (f : FarT V W m n) (h1 : 1 ≤ n) (h2 : n ≤ m) (hV : kindR V n = 1) (hn : kindR W n = 1) (hl : linkN W n = linkN V n) (hs : SaysV W n) : TreeX W m δ := by
 obtain ⟨a, b⟩ := h.dir.far f (fun _ => ⟨.inl hn, hs⟩)
 refine h.still a (fun k k1 k2 => ?_) (fun k k1 k2 => ?_) (fun k k1 k2 => b k k1 k2 (fun e => by subst e; omega))
 ·by_cases e : k = n
  ·rw [e, hV, hn]
  ·exact f.kind h.vol k1 k2 e
 ·by_cases e : k = n
  ·rw [e, hl]
  ·exact f.link k1 k2 e
theorem find_facts {z : Int} {nm : ByteArray} (hf : (findO V z nm).2 = 0) : mayB nm.data.toList = true ∧ (listO V z).2 = 0 ∧ hasE (listO V z).1 nm = true ∧ (findO V z nm).1 = getE (listO V z).1 nm := by
 have hm : mayB nm.data.toList = true := by
  cases h : mayB nm.data.toList with
  | true => rfl
  | false => unfold findO at hf; rw [if_pos h] at hf; exact absurd hf (by decide)
 have hl : (listO V z).2 = 0 := by
  refine Classical.not_not.1 (fun h => ?_)
  unfold findO at hf
  rw [if_neg (by rw [hm]; simp), if_pos h] at hf
  exact h hf
 unfold findO at hf ⊢
 rw [if_neg (by rw [hm]; simp), if_neg (by rw [hl]; simp)] at hf ⊢
 cases h : hasE (listO V z).1 nm with
 | true => rw [if_pos rfl]; exact ⟨hm, hl, rfl, rfl⟩
 | false => rw [h, if_neg (by simp)] at hf; exact absurd hf (by decide)
theorem TreeX.find (h : TreeX V m δ) {z : Int} {nm : ByteArray} (hf : (findO V z nm).2 = 0) :
  ∃ d k : Nat, z = (d : Int) ∧ LiveT V m d ∧ kindR V d = 2 ∧ (findO V z nm).1 = (k : Int) ∧ LiveT V m k ∧ k ≠ 1 ∧ (⟨nm, (k : Int)⟩ : EntV) ∈ entD V d := by
 obtain ⟨hm, hl, hh, hg⟩ := find_facts hf
 obtain ⟨d, rfl, hd, hk⟩ := list_live h.vol hl
 have hmem := has_mem (h.dir.dir d hd hk).valid hh
 obtain ⟨k, a, b, c⟩ := h.name d hd hk _ hmem
 have a : getE (listO V (d : Int)).1 nm = (k : Int) := a
 refine ⟨d, k, rfl, hd, hk, hg.trans a, b, c, ?_⟩
 rw [← a]
 exact hmem
theorem TreeX.go (h : TreeX V m δ) : ∀ (a : List (List UInt8)) (n : Nat), LiveT V m n → (goO V (n : Int) a).2 = 0 → ∃ k : Nat, (goO V (n : Int) a).1 = (k : Int) ∧ LiveT V m k ∧ (a ≠ [] → k ≠ 1)
 | [], n, hn, _ => ⟨n, rfl, hn, fun h => absurd rfl h⟩
 | x :: r, n, hn, he => by
  rw [goO] at he ⊢
  by_cases hf : (findO V (n : Int) ⟨x.toArray⟩).2 ≠ 0
  ·rw [if_pos hf] at he; exact absurd he hf
  ·rw [if_neg hf] at he ⊢
   obtain ⟨_, k, _, _, _, e, kl, k1, _⟩ := h.find (Classical.not_not.1 hf)
   rw [e] at he ⊢
   obtain ⟨j, a, b, c⟩ := TreeX.go h r k kl he
   refine ⟨j, a, b, fun _ => ?_⟩
   by_cases hr : r = []
   ·subst hr
    have : (k : Int) = (j : Int) := a
    omega
   ·exact c hr
theorem path_may {p : List UInt8} (he : (pathO V p).2 = 0) : mayP p = true := by
 cases hm : mayP p with
 | true => rfl
 | false => unfold pathO at he; rw [hm, if_pos rfl] at he; exact absurd he (by decide)
theorem TreeX.path (h : TreeX V m δ) {p : List UInt8} (he : (pathO V p).2 = 0) : ∃ k : Nat, (pathO V p).1 = (k : Int) ∧ LiveT V m k ∧ mayP p = true ∧ (p ≠ [47] → k ≠ 1) := by
 have hm := path_may he
 unfold pathO at he ⊢
 rw [hm, if_neg (by simp)] at he ⊢
 obtain ⟨k, a, b, c⟩ := h.go (namesP p) 1 h.root he
 refine ⟨k, a, b, rfl, fun hp => c ?_⟩
 obtain ⟨xs, x, e, _⟩ := path_split hm hp
 rw [e]; simp
theorem weigh_ok {r : List ByteArray × Int} (he : (weighO V r).2 = 0) : r.2 = 0 ∧ weighO V r = (r.1, 0) ∧ beyondO V r.1 = false := by
 unfold weighO at he ⊢
 by_cases h : r.2 = 0
 ·rw [if_neg (by rw [h]; simp)] at he ⊢
  by_cases hb : beyondO V r.1 = true
  ·rw [if_pos hb] at he; exact absurd he (by decide)
  ·rw [if_neg hb]; exact ⟨h, rfl, by simpa using hb⟩
 ·rw [if_pos h] at he; exact absurd he h
theorem vac_ok {p : ByteArray} (he : (vacO V p).2.2 = 0) : mayP p.data.toList = true ∧ p.data.toList ≠ [47] ∧ (pathO V (aboveB p).data.toList).2 = 0 ∧ (findO V (pathO V (aboveB p).data.toList).1 (lastB p)).2 = 9 ∧ vacO V p = ((pathO V (aboveB p).data.toList).1, lastB p, 0) := by
 unfold vacO at he ⊢
 by_cases h1 : mayP p.data.toList = false
 ·rw [if_pos h1] at he; exact absurd he (by decide)
 ·rw [if_neg h1] at he ⊢
  by_cases h2 : p.data.toList = [47]
  ·rw [if_pos h2] at he; exact absurd he (by decide)
  ·rw [if_neg h2] at he ⊢
   by_cases h3 : (pathO V (aboveB p).data.toList).2 ≠ 0
   ·rw [if_pos h3] at he; exact absurd he h3
   ·rw [if_neg h3] at he ⊢
    by_cases h4 : (findO V (pathO V (aboveB p).data.toList).1 (lastB p)).2 = 9
    ·rw [if_pos h4]; exact ⟨by simpa using h1, h2, Classical.not_not.1 h3, h4, rfl⟩
    ·rw [if_neg h4] at he
     by_cases h5 : (findO V (pathO V (aboveB p).data.toList).1 (lastB p)).2 = 0
     ·rw [if_pos h5] at he; exact absurd he (by decide)
     ·rw [if_neg h5] at he; exact absurd he h5
end
section
variable {V W X ys : List ByteArray} {m n k c d : Nat} {l l' : List Nat} {E E' : List EntV} {δ ε : Nat → Int}
theorem file_ok (hv : IsVol V m) {z : Int} (he : fileO V z = 0) : ∃ n : Nat, z = (n : Int) ∧ LiveT V m n ∧ kindR V n = 1 := by
 unfold fileO at he
 by_cases h0 : inoE V z = 0
 ·rw [if_neg (by rw [h0]; simp)] at he
  by_cases h1 : (getR V z).getD 0 0 = 1
  ·obtain ⟨m2, k, hv2, rfl, k1, k2, _⟩ := inoE_ok h0
   obtain rfl : m = m2 := by
    have e1 := ofR_some.2 hv
    have e2 := ofR_some.2 hv2
    rw [e1] at e2
    exact Option.some.inj e2
   rw [kind_getT hv k1 k2] at h1
   exact ⟨k, rfl, ⟨k1, k2, by omega⟩, h1⟩
  ·rw [if_pos h1] at he; exact absurd he (by decide)
 ·rw [if_pos h0] at he; exact absurd he h0
theorem made_ok {p : ByteArray} {kind owner : Int} (he : (madeO V p kind owner).2.2 = 0) :
  (vacO V p).2.2 = 0 ∧ (newO V kind owner).2.2 = 0 ∧ (addO (newO V kind owner).1 (vacO V p).1 (vacO V p).2.1 (newO V kind owner).2.1).2 = 0 ∧
  madeO V p kind owner = ((addO (newO V kind owner).1 (vacO V p).1 (vacO V p).2.1 (newO V kind owner).2.1).1, (newO V kind owner).2.1, 0) ∧ beyondO V (madeO V p kind owner).1 = false := by
 have hw : (weighO V (madeI V p kind owner)).2 = 0 := by
  refine Classical.not_not.1 (fun hh => ?_)
  unfold madeO at he
  rw [if_pos hh] at he
  exact hh he
 have hO : madeO V p kind owner = ((weighO V (madeI V p kind owner)).1, (newO V kind owner).2.1, 0) := by unfold madeO; rw [if_neg (by rw [hw]; simp)]
 obtain ⟨hI, hW, hb⟩ := weigh_ok hw
 rw [hO, hW]
 unfold madeI at hI hb ⊢
 by_cases hv : (vacO V p).2.2 = 0
 ·rw [if_neg (by rw [hv]; simp)] at hI hb ⊢
  by_cases hn : (newO V kind owner).2.2 = 0
  ·rw [if_neg (by rw [hn]; simp)] at hI hb ⊢
   exact ⟨hv, hn, hI, rfl, hb⟩
  ·rw [if_pos hn] at hI; exact absurd hI hn
 ·rw [if_pos hv] at hI; exact absurd hI hv
theorem TreeX.made (h : FsT V m) {p : ByteArray} {kind owner : Int} (he : (madeO V p kind owner).2.2 = 0) : FsT (madeO V p kind owner).1 m ∧ (madeO V p kind owner).1.length = V.length := by
 obtain ⟨hv, hn, ha, e, _⟩ := made_ok he
 rw [e]
 obtain ⟨n, n0, n1, n2, n3, _, nf, _, _, hT⟩ := TreeX.new h hn
 rw [n0] at ha ⊢
 obtain ⟨a, d, _, _, eT⟩ := hT.add n2 n3 ha
 refine ⟨a.congr fun k _ => ?_, eT.far.len.trans nf.len⟩
 unfold atX1
 by_cases ek : k = n
 ·rw [if_pos ek, if_pos rfl]; rfl
 ·rw [if_neg ek, if_neg ek]
theorem link_ok (h : FsT V m) {p q : ByteArray} (he : (linkO V p q).2 = 0) : ∃ n : Nat, (pathO V p.data.toList).2 = 0 ∧ (pathO V p.data.toList).1 = (n : Int) ∧ LiveT V m n ∧ kindR V n = 1 ∧ n ≠ 1 ∧ (vacO V q).2.2 = 0 ∧ linkN V n < 65535 ∧ (addO V (vacO V q).1 (vacO V q).2.1 (n : Int)).2 = 0 ∧
  linkO V p q = putO (addO V (vacO V q).1 (vacO V q).2.1 (n : Int)).1 (n : Int) (intsL ((getR V (n : Int)).set 1 (linkN V n + 1))) ∧ beyondO V (linkO V p q).1 = false := by
 unfold linkO at he ⊢
 by_cases hm : mayP p.data.toList = false ∨ mayP q.data.toList = false
 ·rw [if_pos hm] at he; exact absurd he (by decide)
 ·rw [if_neg hm] at he ⊢
  obtain ⟨hI, hW, hb⟩ := weigh_ok he
  rw [hW]
  dsimp only
  unfold linkI at hI hb ⊢
  by_cases h1 : (pathO V p.data.toList).2 = 0
  ·rw [if_neg (by rw [h1]; simp)] at hI hb ⊢
   obtain ⟨n, e, hn, _⟩ := h.path h1
   rw [e] at hI hb ⊢
   rw [inoE_zero h.vol hn.1 hn.2.1, if_neg (by simp)] at hI hb ⊢
   by_cases h2 : (getR V (n : Int)).getD 0 0 = 1
   ·rw [if_neg (by rw [h2]; simp)] at hI hb ⊢
    have hk : kindR V n = 1 := by rw [← kind_getT h.vol hn.1 hn.2.1]; exact h2
    have n1 : n ≠ 1 := fun e => by subst e; have := h.rootk; omega
    by_cases h3 : (vacO V q).2.2 = 0
    ·rw [if_neg (by rw [h3]; simp)] at hI hb ⊢
     by_cases h4 : 65535 ≤ (getR V (n : Int)).getD 1 0
     ·rw [if_pos h4] at hI; exact absurd hI (by decide)
     ·rw [if_neg h4] at hI hb ⊢
      by_cases h5 : (addO V (vacO V q).1 (vacO V q).2.1 (n : Int)).2 = 0
      ·rw [if_neg (by rw [h5]; simp)] at hI hb ⊢
       refine ⟨n, h1, rfl, hn, hk, n1, h3, by unfold linkN; omega, h5, ?_, hb⟩
       show (_, (0 : Int)) = _
       rw [← hI]
       rfl
      ·rw [if_pos h5] at hI; exact absurd hI h5
    ·rw [if_pos h3] at hI; exact absurd hI h3
   ·rw [if_pos h2] at hI; exact absurd hI (by decide)
  ·rw [if_pos h1] at hI; exact absurd hI h1
theorem TreeX.link (h : FsT V m) {p q : ByteArray} (he : (linkO V p q).2 = 0) : FsT (linkO V p q).1 m ∧ (linkO V p q).1.length = V.length := by
 obtain ⟨n, _, _, hn, hk, n1, _, hl, ha, e, _⟩ := link_ok h he
 obtain ⟨a, d, _, _, eT⟩ := TreeX.add h hn n1 ha
 have hnd : n ≠ d := fun e => by
  subst e
  have := eT.kind
  omega
 have hg := eT.far.rest n hn.1 hn.2.1 hnd
 have hli : linkN (addO V (vacO V q).1 (vacO V q).2.1 (n : Int)).1 n = linkN V n := by unfold linkN; rw [hg]
 rw [← hg] at e
 obtain ⟨p1, p2, p3⟩ := a.puts ((eT.liveA h.vol).2 hn) (by rw [eT.kindA h.vol hn.1 hn.2.1]; exact hk) (v := linkN V n + 1) (by omega)
 rw [e, p1]
 refine ⟨p2.congr fun k _ => ?_, p3.len.trans eT.far.len⟩
 unfold atX1
 by_cases ek : k = n
 ·rw [if_pos ek, if_pos rfl, hli]; omega
 ·rw [if_neg ek, if_neg ek]
theorem rename_ok (h : FsT V m) {p q : ByteArray} (he : (renameO V p q).2 = 0) : ∃ n : Nat, (pathO V p.data.toList).2 = 0 ∧ (pathO V p.data.toList).1 = (n : Int) ∧ LiveT V m n ∧ n ≠ 1 ∧ p.data.toList ≠ [47] ∧ (vacO V q).2.2 = 0 ∧ Lib.hasPrefix q.data.toList (p.data.toList ++ [47]) = false ∧
  (dropO V (pathO V (aboveB p).data.toList).1 (lastB p)).2 = 0 ∧ (addO (dropO V (pathO V (aboveB p).data.toList).1 (lastB p)).1 (vacO V q).1 (vacO V q).2.1 (n : Int)).2 = 0 ∧
  renameO V p q = addO (dropO V (pathO V (aboveB p).data.toList).1 (lastB p)).1 (vacO V q).1 (vacO V q).2.1 (n : Int) ∧ (findO V (pathO V (aboveB p).data.toList).1 (lastB p)).1 = (n : Int) ∧ beyondO V (renameO V p q).1 = false := by
 unfold renameO at he ⊢
 by_cases hm : mayP p.data.toList = false ∨ mayP q.data.toList = false
 ·rw [if_pos hm] at he; exact absurd he (by decide)
 ·rw [if_neg hm] at he ⊢
  obtain ⟨hI, hW, hb⟩ := weigh_ok he
  rw [hW]
  dsimp only
  unfold renameI at hI hb ⊢
  by_cases h1 : (pathO V p.data.toList).2 = 0
  ·rw [if_neg (by rw [h1]; simp)] at hI hb ⊢
   obtain ⟨n, e, hn, hmay, hne⟩ := h.path h1
   by_cases h2 : p.data.toList = [47]
   ·rw [if_pos h2] at hI; exact absurd hI (by decide)
   ·rw [if_neg h2] at hI hb ⊢
    have hf := (path_of_parts (V := V) hmay h2 h1).2.2
    rw [e] at hI hb hf ⊢
    by_cases h3 : (vacO V q).2.2 = 0
    ·rw [if_neg (by rw [h3]; simp)] at hI hb ⊢
     by_cases h4 : Lib.hasPrefix q.data.toList (p.data.toList ++ [47]) = true
     ·rw [if_pos h4] at hI; exact absurd hI (by decide)
     ·rw [if_neg h4] at hI hb ⊢
      by_cases h5 : (pathO V (aboveB p).data.toList).2 = 0
      ·rw [if_neg (by rw [h5]; simp)] at hI hb ⊢
       by_cases h6 : (dropO V (pathO V (aboveB p).data.toList).1 (lastB p)).2 = 0
       ·rw [if_neg (by rw [h6]; simp)] at hI hb ⊢
        refine ⟨n, h1, rfl, hn, hne h2, h2, h3, by simpa using h4, h6, hI, ?_, hf.symm, hb⟩
        show (_, (0 : Int)) = _
        rw [← hI]
       ·rw [if_pos h6] at hI; exact absurd hI h6
      ·rw [if_pos h5] at hI; exact absurd hI h5
    ·rw [if_pos h3] at hI; exact absurd hI h3
  ·rw [if_pos h1] at hI; exact absurd hI h1
theorem TreeX.rename (h : FsT V m) {p q : ByteArray} (he : (renameO V p q).2 = 0) : FsT (renameO V p q).1 m ∧ (renameO V p q).1.length = V.length := by
 obtain ⟨n, _, _, hn, n1, _, _, _, hd, ha, e, hf, _⟩ := rename_ok h he
 rw [e]
 obtain ⟨d, j, _, jl, j1, jf, _, hT, eT⟩ := TreeX.drop h hd
 obtain rfl : j = n := by rw [hf] at jf; omega
 obtain ⟨a, d2, _, _, eT2⟩ := hT.add ((eT.liveA h.vol).2 hn) n1 ha
 refine ⟨a.congr fun k _ => ?_, eT2.far.len.trans eT.far.len⟩
 unfold atX1
 by_cases ek : k = j
 ·rw [if_pos ek, if_pos rfl]; rfl
 ·rw [if_neg ek, if_neg ek]
theorem remove_ok (h : FsT V m) {p : ByteArray} (he : (removeO V p).2 = 0) : ∃ n : Nat, (pathO V p.data.toList).2 = 0 ∧ (pathO V p.data.toList).1 = (n : Int) ∧ LiveT V m n ∧ n ≠ 1 ∧ p.data.toList ≠ [47] ∧ (kindR V n = 2 → entD V n = []) ∧
  (dropO V (pathO V (aboveB p).data.toList).1 (lastB p)).2 = 0 ∧ (findO V (pathO V (aboveB p).data.toList).1 (lastB p)).1 = (n : Int) ∧ beyondO V (removeO V p).1 = false ∧
  ((linkN V n ≤ 1 ∨ kindR V n = 2) ∧ (goneO (dropO V (pathO V (aboveB p).data.toList).1 (lastB p)).1 (n : Int)).2 = 0 ∧ removeO V p = goneO (dropO V (pathO V (aboveB p).data.toList).1 (lastB p)).1 (n : Int)
   ∨ ¬ (linkN V n ≤ 1 ∨ kindR V n = 2) ∧ removeO V p = putO (dropO V (pathO V (aboveB p).data.toList).1 (lastB p)).1 (n : Int) (intsL ((getR V (n : Int)).set 1 (linkN V n - 1)))) := by
 unfold removeO at he ⊢
 obtain ⟨hI, hW, hb⟩ := weigh_ok he
 rw [hW]
 dsimp only
 unfold removeI at hI hb ⊢
 by_cases h1 : (pathO V p.data.toList).2 = 0
 ·rw [if_neg (by rw [h1]; simp)] at hI hb ⊢
  obtain ⟨n, e, hn, hmay, hne⟩ := h.path h1
  by_cases h2 : p.data.toList = [47]
  ·rw [if_pos h2] at hI; exact absurd hI (by decide)
  ·rw [if_neg h2] at hI hb ⊢
   have hf := (path_of_parts (V := V) hmay h2 h1).2.2
   rw [e] at hI hb hf ⊢
   have hi := inoE_zero h.vol hn.1 hn.2.1
   have hk := kind_getT h.vol hn.1 hn.2.1
   by_cases h3 : (inoE V (n : Int) = 0 ∧ (getR V (n : Int)).getD 0 0 = 2) ∧ ((listO V (n : Int)).2 ≠ 0 ∨ (listO V (n : Int)).1 ≠ [])
   ·rw [if_pos h3] at hI; exact absurd hI (by decide)
   ·rw [if_neg h3] at hI hb ⊢
    have hem : kindR V n = 2 → entD V n = [] := fun e2 => by
     refine Classical.not_not.1 (fun hx => h3 ⟨⟨hi, by rw [hk]; exact e2⟩, .inr hx⟩)
    by_cases h5 : (pathO V (aboveB p).data.toList).2 = 0
    ·rw [if_neg (by rw [h5]; simp)] at hI hb ⊢
     by_cases h6 : (dropO V (pathO V (aboveB p).data.toList).1 (lastB p)).2 = 0
     ·have h7 : ¬ ((dropO V (pathO V (aboveB p).data.toList).1 (lastB p)).2 ≠ 0 ∨ inoE V (n : Int) ≠ 0) := fun hh => by
       rcases hh with hh | hh
       ·exact hh h6
       ·exact hh hi
      rw [if_neg h7] at hI hb ⊢
      refine ⟨n, h1, rfl, hn, hne h2, h2, hem, h6, hf.symm, hb, ?_⟩
      rw [hk] at hI ⊢
      by_cases h8 : (getR V (n : Int)).getD 1 0 ≤ 1 ∨ kindR V n = 2
      ·left
       rw [if_pos h8] at hI ⊢
       refine ⟨h8, hI, ?_⟩
       show (_, (0 : Int)) = _
       rw [← hI]
      ·right
       rw [if_neg h8] at hI ⊢
       refine ⟨h8, ?_⟩
       show (_, (0 : Int)) = _
       rw [← hI]
       rfl
     ·have h7 : (dropO V (pathO V (aboveB p).data.toList).1 (lastB p)).2 ≠ 0 ∨ inoE V (n : Int) ≠ 0 := .inl h6
      rw [if_pos h7] at hI
      exact absurd hI h6
    ·rw [if_pos h5] at hI; exact absurd hI h5
 ·rw [if_pos h1] at hI; exact absurd hI h1
theorem TreeX.remove (h : FsT V m) {p : ByteArray} (he : (removeO V p).2 = 0) : FsT (removeO V p).1 m ∧ (removeO V p).1.length = V.length := by
 obtain ⟨n, _, _, hn, n1, _, hem, hd, hf, _, hcase⟩ := remove_ok h he
 obtain ⟨d, j, _, jl, j1, jf, jm, hT, eT⟩ := TreeX.drop h hd
 obtain rfl : j = n := by rw [hf] at jf; omega
 have hjd : kindR V j = 2 → j ≠ d := fun e2 ed => by
  subst ed
  rw [hem e2] at jm
  cases jm
 have hg2 : ∀ e : j ≠ d, getR (dropO V (pathO V (aboveB p).data.toList).1 (lastB p)).1 (j : Int) = getR V (j : Int) := fun e => eT.far.rest j hn.1 hn.2.1 e
 have hnd : j ≠ d := fun e => by
  subst e
  exact hjd eT.kind rfl
 have hg := hg2 hnd
 have hli : linkN (dropO V (pathO V (aboveB p).data.toList).1 (lastB p)).1 j = linkN V j := by unfold linkN; rw [hg]
 have hlw := (eT.liveA h.vol (k := j)).2 hn
 have hkw := eT.kindA h.vol hn.1 hn.2.1
 have h0 := h.links j hn
 rw [if_neg n1] at h0
 have h1 := hT.links j hlw
 rw [if_neg n1, hli] at h1
 unfold atX1 at h1
 rw [if_pos rfl] at h1
 rcases hcase with ⟨hc, hz, e⟩ | ⟨hc, e⟩
 ·have hle : linkN V j ≤ 1 := by
   rcases hc with hc | hc
   ·exact hc
   ·rw [h.dlink j hn hc]; exact Nat.le_refl _
  rw [e]
  obtain ⟨a, b, _, _⟩ := hT.gone hlw n1 (by omega) (fun e2 => by
   rw [hkw] at e2
   rw [eT.rest j hn e2 hnd]; exact hem e2) hz
  refine ⟨a.congr fun k hk => ?_, b.len.trans eT.far.len⟩
  unfold atX1
  by_cases ek : k = j
  ·exfalso
   subst ek
   have := hT.gone hlw n1 (by omega) (fun e2 => by
    rw [hkw] at e2
    rw [eT.rest k hn e2 hnd]; exact hem e2) hz
   exact hk.2.2 this.2.2.1
  ·rw [if_neg ek]
 ·rw [← hg] at e
  have hv : linkN V j < 65536 := (h.dir.inv.good j hn).ok.fit.2 2
  obtain ⟨p1, p2, p3⟩ := hT.puts hlw (by
   rcases h.dir.kind j hn with a | a
   ·rw [hkw]; exact a
   ·exact absurd (.inr a) hc) (v := linkN V j - 1) (by omega)
  rw [e, p1]
  refine ⟨p2.congr fun k _ => ?_, p3.len.trans eT.far.len⟩
  unfold atX1
  by_cases ek : k = j
  ·rw [if_pos ek, if_pos rfl, hli]
   have : ¬ linkN V j ≤ 1 := fun h => hc (.inl h)
   omega
  ·rw [if_neg ek, if_neg ek]
theorem TreeX.write (h : FsT V m) {z off : Int} {b : List UInt8} (he : (writeF V z off b).2 = 0) : FsT (writeF V z off b).1 m ∧ (writeF V z off b).1.length = V.length := by
 unfold writeF at he ⊢
 by_cases h0 : fileO V z = 0
 ·rw [if_neg (by rw [h0]; simp)] at he ⊢
  obtain ⟨n, rfl, hn, hk⟩ := file_ok h.vol h0
  obtain ⟨hw, hW, _⟩ := weigh_ok he
  rw [hW]
  obtain ⟨f, _, kp, kb⟩ := h.dir.inv.write_one hn hw
  refine ⟨TreeX.filed h f hn.1 hn.2.1 hk ?_ (kp 1 (by omega)) ((h.dir.att n hn).move (kp 11 (.inr rfl)) kb), f.len⟩
  rw [← kind_getT f.inv.vol hn.1 hn.2.1, kp 0 (by omega), kind_getT h.vol hn.1 hn.2.1]; exact hk
 ·rw [if_pos h0] at he; exact absurd he h0
theorem TreeX.cut (h : FsT V m) {z size : Int} (he : (cutF V z size).2 = 0) : FsT (cutF V z size).1 m ∧ (cutF V z size).1.length = V.length := by
 unfold cutF at he ⊢
 by_cases h0 : fileO V z = 0
 ·rw [if_neg (by rw [h0]; simp)] at he ⊢
  obtain ⟨n, rfl, hn, hk⟩ := file_ok h.vol h0
  obtain ⟨hw, hW, _⟩ := weigh_ok he
  rw [hW]
  obtain ⟨f, _, kp, kb⟩ := h.dir.inv.cut_one hn hw
  refine ⟨TreeX.filed h f hn.1 hn.2.1 hk ?_ (kp 1 (by omega)) ((h.dir.att n hn).move (kp 11 (.inr rfl)) kb), f.len⟩
  rw [← kind_getT f.inv.vol hn.1 hn.2.1, kp 0 (by omega), kind_getT h.vol hn.1 hn.2.1]; exact hk
 ·rw [if_pos h0] at he; exact absurd he h0
theorem TreeX.limit (h : TreeX V m δ) {o q : Int} (he : (setO V o q).2 = 0) : TreeX (setO V o q).1 m δ ∧ SameT V (setO V o q).1 m := by
 unfold setO at he ⊢
 by_cases h0 : quoE V o = 0
 ·have ho : ¬ (o < 0 ∨ 16 ≤ o) := fun hh => by
   unfold quoE at h0
   rw [ofR_some.2 h.vol] at h0
   dsimp only at h0
   rw [if_pos hh] at h0
   exact absurd h0 (by decide)
  rw [if_neg (by rw [h0]; simp)] at he ⊢
  by_cases h1 : q < 0 ∨ 65535 < q
  ·rw [if_pos h1] at he; exact absurd he (by decide)
  ·rw [if_neg h1] at he ⊢
   by_cases h2 : overB V o q = true
   ·rw [if_pos h2] at he; exact absurd he (by decide)
   ·rw [if_neg h2]
    have s := h.dir.inv.limit (p := 2 * o.toNat) (d := putL q.toNat 2) (by rw [putL_length]; omega)
    refine ⟨h.same s (fun k hk h0 => one_blkT h.vol ?_), s⟩
    have := (datB_iff.1 (h.dir.inv.ext k hk h0).1).1
    unfold dataN at this
    omega
 ·rw [if_pos h0] at he; exact absurd he h0
end
open Go.RowKit
theorem str_data (s : ByteArray) : s.toList = s.data.toList := Lib.toList_data s
theorem may_out {l : List UInt8} (h : l = [] ∨ 24 < l.length ∨ l = [46] ∨ l = [46, 46]) : mayB l = false := by
 unfold mayB
 rw [decide_eq_false, Bool.false_and]
 rintro ⟨h1, h2, h3, h4⟩
 rcases h with h | h | h | h
 ·exact h1 h
 ·omega
 ·exact h3 h
 ·exact h4 h
theorem may_in {l : List UInt8} (h1 : ¬ l = []) (h2 : l.length ≤ 24) (h3 : ¬ l = [46]) (h4 : ¬ l = [46, 46]) : mayB l = l.all mayC := by
 unfold mayB
 rw [decide_eq_true ⟨h1, h2, h3, h4⟩, Bool.true_and]
theorem all_out {l : List UInt8} {k : Nat} (hk : k < l.length) (h : mayC (l.getD k 0) = false) : l.all mayC = false := by
 rw [List.all_eq_false]
 refine ⟨l[k], List.getElem_mem hk, ?_⟩
 rw [List.getD_eq_getElem?_getD, List.getElem?_eq_getElem hk] at h
 simpa using h
theorem all_step {l : List UInt8} {k : Nat} (hk : k < l.length) (h : (l.take k).all mayC = true) (hc : mayC (l.getD k 0) = true) : (l.take (k + 1)).all mayC = true := by
 rw [List.getD_eq_getElem?_getD, List.getElem?_eq_getElem hk] at hc
 rw [List.take_succ_eq_append_getElem hk, List.all_append, h]
 simpa using hc
set_option maxHeartbeats 8000000 in
theorem may_any (s : ByteArray) (w : World) (hs : s.size ≤ 140737488355328) : Calls Tryz.prog 94 #[.string s] w fun e w' => e = .returned (.bool (mayB s.data.toList)) ∧ Below w.heap.size w w' := by
 have hl : s.data.toList.length = s.size := by rw [Array.length_toList]; rfl
 obtain ⟨r, hr⟩ : ∃ r, mayB s.data.toList = r := ⟨_, rfl⟩
 rw [hr]
 by_cases h24 : s.size ≤ 24
 ·have e24 : ¬ (24 : Int) < (s.size : Int) := by omega
  by_cases h0 : s.data.toList = []
  ·have HW := Lib.hid (hr.symm.trans <| may_out (.inl h0))
   have q1 : s.toList = [] := (str_data s).trans h0
   have q2 : s.toList.isEmpty = true := by rw [q1]; rfl
   clear hr
   go_enter Tryz.func94, Tryz.ntmps94
   go_wp2
   go_ret
   exact ⟨ret_bool HW.out.symm, Below.refl _ _⟩
  have q1 : ¬ s.toList = [] := by rw [str_data]; exact h0
  have q2 : s.toList.isEmpty = false := by cases h : s.toList <;> simp_all
  by_cases h1 : s.data.toList = [46]
  ·have HW := Lib.hid (hr.symm.trans <| may_out (.inr (.inr (.inl h1))))
   have q3 : s.toList = [46] := (str_data s).trans h1
   have q4 : (s.toList == [46]) = true := by rw [q3]; rfl
   clear hr
   go_enter Tryz.func94, Tryz.ntmps94
   go_wp2
   go_ret
   exact ⟨ret_bool HW.out.symm, Below.refl _ _⟩
  have q3 : ¬ s.toList = [46] := by rw [str_data]; exact h1
  have q4 : (s.toList == [46]) = false := by simp [q3]
  by_cases h2 : s.data.toList = [46, 46]
  ·have HW := Lib.hid (hr.symm.trans <| may_out (.inr (.inr (.inr h2))))
   have q5 : s.toList = [46, 46] := (str_data s).trans h2
   have q6 : (s.toList == [46, 46]) = true := by rw [q5]; rfl
   clear hr
   go_enter Tryz.func94, Tryz.ntmps94
   go_wp2
   go_ret
   exact ⟨ret_bool HW.out.symm, Below.refl _ _⟩
  have q5 : ¬ s.toList = [46, 46] := by rw [str_data]; exact h2
  have q6 : (s.toList == [46, 46]) = false := by simp [q5]
  have HW := Lib.hid (hr.symm.trans (may_in h0 (by omega) h1 h2))
  have HL := Lib.hid hl
  clear h0 h1 h2 hl hr
  go_enter Tryz.func94, Tryz.ntmps94
  go_wp2_with (refine bytes_of_str 9 44 (.tmp 20) 5 s rfl rfl rfl Tryz.underlying9 Tryz.underlying44 Tryz.underlying5 ?_; intro w2 cp hcl hb2; have HCL := Lib.hid hcl; have B2 := Lib.hid hb2; clear hcl hb2)
  clear q1 q2 q3 q4 q5 q6
  go_loopw [23] (fun j wr => ∃ k : Nat, k ≤ s.size ∧ j = .int .i64 (k : Int) ∧ wr = w2 ∧ Hid ((s.data.toList.take k).all mayC = true)) (fun j _ => s.size - (intOf j).toNat)
  case atStart => exact ⟨0, Nat.zero_le _, rfl, rfl, rfl⟩
  case round =>
   obtain ⟨k, hk, rfl, rfl, HA⟩ := hrel
   by_cases hlt : k < s.size
   ·have i1 : (k : Int) < (s.size : Int) := by omega
    have i2 : (0 : Int) ≤ (k : Int) := by omega
    have cb := HCL.out k hlt
    have HO := Lib.hid (fun h => all_out (l := s.data.toList) (k := k) (by rw [HL.out]; exact hlt) h)
    have HI := Lib.hid (fun h => all_step (l := s.data.toList) (k := k) (by rw [HL.out]; exact hlt) HA.out h)
    have hc : (s.data.toList.getD k 0).toNat < 256 := UInt8.toNat_lt _
    have HM : Hid (mayC (s.data.toList.getD k 0) = decide _) := rfl
    generalize mayC (s.data.toList.getD k 0) = mc at *
    generalize (s.data.toList.getD k 0).toNat = c at *
    clear HA
    go_wp2
    all_goals (try simp only [beq_eq_false_iff_ne, beq_iff_eq, ne_eq] at *)
    all_goals first
     | (go_ret
        refine ⟨ret_bool (HW.out.trans (HO.out (HM.out.trans (decide_eq_false (by omega))))).symm, B2.out⟩)
     | (refine ⟨⟨k + 1, by omega, rfl, trivial, HI.out (HM.out.trans (decide_eq_true (by omega)))⟩, ?_⟩
        simp [intOf]; omega)
   ·obtain rfl : k = s.size := by omega
    go_wp2
    go_ret
    refine ⟨ret_bool ?_, B2.out⟩
    have := HA.out
    rw [← HL.out, List.take_length] at this
    exact this.symm.trans HW.out.symm
 ·have e24 : (24 : Int) < (s.size : Int) := by omega
  have HW := Lib.hid (hr.symm.trans <| may_out (.inr (.inl (by omega : 24 < s.data.toList.length))))
  by_cases h0 : s.data.toList = []
  ·rw [h0] at hl; simp at hl; omega
  have q1 : ¬ s.toList = [] := by rw [str_data]; exact h0
  have q2 : s.toList.isEmpty = false := by cases h : s.toList <;> simp_all
  go_enter Tryz.func94, Tryz.ntmps94
  go_wp2
  go_ret
  exact ⟨ret_bool HW.out.symm, Below.refl _ _⟩
theorem maya_out {l : List UInt8} (h : l = [] ∨ 24 < l.length) : mayA l = false := by
 unfold mayA
 rw [decide_eq_false, Bool.false_and]
 rintro ⟨h1, h2⟩
 rcases h with h | h
 ·exact h1 h
 ·omega
theorem maya_in {l : List UInt8} (h1 : ¬ l = []) (h2 : l.length ≤ 24) : mayA l = l.all mayD := by
 unfold mayA
 rw [decide_eq_true ⟨h1, h2⟩, Bool.true_and]
theorem alla_out {l : List UInt8} {k : Nat} (hk : k < l.length) (h : mayD (l.getD k 0) = false) : l.all mayD = false := by
 rw [List.all_eq_false]
 refine ⟨l[k], List.getElem_mem hk, ?_⟩
 rw [List.getD_eq_getElem?_getD, List.getElem?_eq_getElem hk] at h
 simpa using h
theorem alla_step {l : List UInt8} {k : Nat} (hk : k < l.length) (h : (l.take k).all mayD = true) (hc : mayD (l.getD k 0) = true) : (l.take (k + 1)).all mayD = true := by
 rw [List.getD_eq_getElem?_getD, List.getElem?_eq_getElem hk] at hc
 rw [List.take_succ_eq_append_getElem hk, List.all_append, h]
 simpa using hc
set_option maxHeartbeats 8000000 in
theorem amay_any (s : ByteArray) (w : World) (hs : s.size ≤ 140737488355328) : Calls Tryz.prog 109 #[.string s] w fun e w' => e = .returned (.bool (mayA s.data.toList)) ∧ Below w.heap.size w w' := by
 have hl : s.data.toList.length = s.size := by rw [Array.length_toList]; rfl
 obtain ⟨r, hr⟩ : ∃ r, mayA s.data.toList = r := ⟨_, rfl⟩
 rw [hr]
 by_cases h24 : s.size ≤ 24
 ·have e24 : ¬ (24 : Int) < (s.size : Int) := by omega
  by_cases h0 : s.data.toList = []
  ·have HW := Lib.hid (hr.symm.trans <| maya_out (.inl h0))
   have q1 : s.toList = [] := (str_data s).trans h0
   have q2 : s.toList.isEmpty = true := by rw [q1]; rfl
   clear hr
   go_enter Tryz.func109, Tryz.ntmps109
   go_wp2
   go_ret
   exact ⟨ret_bool HW.out.symm, Below.refl _ _⟩
  have q1 : ¬ s.toList = [] := by rw [str_data]; exact h0
  have q2 : s.toList.isEmpty = false := by cases h : s.toList <;> simp_all
  have HW := Lib.hid (hr.symm.trans (maya_in h0 (by omega)))
  have HL := Lib.hid hl
  clear h0 hl hr
  go_enter Tryz.func109, Tryz.ntmps109
  go_wp2_with (refine bytes_of_str 9 44 (.tmp 12) 5 s rfl rfl rfl Tryz.underlying9 Tryz.underlying44 Tryz.underlying5 ?_; intro w2 cp hcl hb2; have HCL := Lib.hid hcl; have B2 := Lib.hid hb2; clear hcl hb2)
  clear q1 q2
  go_loopw [15] (fun j wr => ∃ k : Nat, k ≤ s.size ∧ j = .int .i64 (k : Int) ∧ wr = w2 ∧ Hid ((s.data.toList.take k).all mayD = true)) (fun j _ => s.size - (intOf j).toNat)
  case atStart => exact ⟨0, Nat.zero_le _, rfl, rfl, rfl⟩
  case round =>
   obtain ⟨k, hk, rfl, rfl, HA⟩ := hrel
   by_cases hlt : k < s.size
   ·have i1 : (k : Int) < (s.size : Int) := by omega
    have i2 : (0 : Int) ≤ (k : Int) := by omega
    have cb := HCL.out k hlt
    have HO := Lib.hid (fun h => alla_out (l := s.data.toList) (k := k) (by rw [HL.out]; exact hlt) h)
    have HI := Lib.hid (fun h => alla_step (l := s.data.toList) (k := k) (by rw [HL.out]; exact hlt) HA.out h)
    have hc : (s.data.toList.getD k 0).toNat < 256 := UInt8.toNat_lt _
    have HM : Hid (mayD (s.data.toList.getD k 0) = decide _) := rfl
    generalize mayD (s.data.toList.getD k 0) = mc at *
    generalize (s.data.toList.getD k 0).toNat = c at *
    clear HA
    go_wp2
    all_goals (try simp only [beq_eq_false_iff_ne, beq_iff_eq, ne_eq] at *)
    all_goals first
     | (go_ret
        refine ⟨ret_bool (HW.out.trans (HO.out (HM.out.trans (decide_eq_false (by omega))))).symm, B2.out⟩)
     | (refine ⟨⟨k + 1, by omega, rfl, trivial, HI.out (HM.out.trans (decide_eq_true (by omega)))⟩, ?_⟩
        simp [intOf]; omega)
   ·obtain rfl : k = s.size := by omega
    go_wp2
    go_ret
    refine ⟨ret_bool ?_, B2.out⟩
    have := HA.out
    rw [← HL.out, List.take_length] at this
    exact this.symm.trans HW.out.symm
 ·have e24 : (24 : Int) < (s.size : Int) := by omega
  have HW := Lib.hid (hr.symm.trans <| maya_out (.inr (by omega : 24 < s.data.toList.length)))
  by_cases h0 : s.data.toList = []
  ·rw [h0] at hl; simp at hl; omega
  have q1 : ¬ s.toList = [] := by rw [str_data]; exact h0
  have q2 : s.toList.isEmpty = false := by cases h : s.toList <;> simp_all
  go_enter Tryz.func109, Tryz.ntmps109
  go_wp2
  go_ret
  exact ⟨ret_bool HW.out.symm, Below.refl _ _⟩
end Go.Proofs.YtdldlendppkknaaGreatDoor
