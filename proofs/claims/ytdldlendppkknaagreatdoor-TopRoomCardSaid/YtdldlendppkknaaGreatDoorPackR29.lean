/-
  Contracts and plain laws: SpkS, SpkB, SpkC, FrameOf.
-/
import Derived.Lib.SmallJoins
import Derived.Outline
import Derived.Test.YtdldlendppkknaaGreatDoorPackR01
import Derived.Test.YtdldlendppkknaaGreatDoorPackR02
import Derived.Test.YtdldlendppkknaaGreatDoorPackR28
namespace Go.Proofs.YtdldlendppkknaaGreatDoor
open Go.RowKit
set_option linter.unusedVariables false
set_option linter.unusedSimpArgs false
set_option maxRecDepth 100000
def cpuC (R : List Nat) (pc : Nat) : Array Value := (R.map (fun r : Nat => Value.int .u32 (r : Int)) ++ [Value.int .u32 (pc : Int)]).toArray
theorem cpuC_size (R : List Nat) (pc : Nat) : (cpuC R pc).size = R.length + 1 := by simp [cpuC]
theorem cpuC_reg {R : List Nat} {pc i : Nat} (h : i < R.length) : (cpuC R pc)[i]? = some (.int .u32 (R.getD i 0 : Nat)) := by
 simp [cpuC, List.getElem?_append, h]
theorem cpuC_pc {R : List Nat} {pc : Nat} (h : R.length = 16) : (cpuC R pc)[16]? = some (.int .u32 (pc : Nat)) := by
 simp [cpuC, List.getElem?_append, h]
theorem cpuC_set {R : List Nat} {pc i v : Nat} (h : i < R.length) : (cpuC R pc).setIfInBounds i (.int .u32 (v : Nat)) = cpuC (R.set i v) pc := by
 unfold cpuC
 rw [List.setIfInBounds_toArray, List.set_append_left _ _ (by simpa using h), List.map_set]
theorem cpuC_setpc {R : List Nat} {pc v : Nat} (h : R.length = 16) : (cpuC R pc).setIfInBounds 16 (.int .u32 (v : Nat)) = cpuC R v := by
 unfold cpuC
 rw [List.setIfInBounds_toArray, List.set_append_right _ _ (by simp [h])]
 simp [h]
theorem cpuC_one (R : List Nat) (pc : Nat) : ∀ v ∈ cpuC R pc, v.oneCell' = true := by
 intro v hv
 simp [cpuC] at hv
 rcases hv with ⟨r, _, rfl⟩ | rfl <;> rfl
theorem cpu_info : (Tryz.prog.info? 79).map (·.size) = some 17 := by kernel_rfl
theorem cpu_size {R : List Nat} {pc : Nat} (h : R.length = 16) : (Tryz.prog.info? 79).map (·.size) = some (cpuC R pc).size := by rw [cpu_info, cpuC_size, h]
def Regs (R : List Nat) : Prop := R.length = 16 ∧ ∀ r ∈ R, r < 4294967296
theorem Regs.get {R : List Nat} (h : Regs R) (i : Nat) : R.getD i 0 < 4294967296 := by
 by_cases hi : i < R.length
 ·simp [hi]; exact h.2 _ (List.getElem_mem hi)
 ·simp [Nat.not_lt.1 hi]
theorem Regs.set_ {R : List Nat} (h : Regs R) (i : Nat) {v : Nat} (hv : v < 4294967296) : Regs (R.set i v) := by
 refine ⟨by simp [h.1], fun r hr => ?_⟩
 rcases List.mem_or_eq_of_mem_set hr with hr | rfl
 ·exact h.2 r hr
 ·exact hv
structure St (w wr : World) (R : List Nat) (pc : Nat) (l : List Pte) (Rw : List Nat) (pcw : Nat) (oc oe : Array Value) : Prop where
 c : Blk wr w.heap.size 79 (cpuC R pc)
 s : Blk wr (w.heap.size + 1) 76 (pteL l).toArray
 oc : Blk wr (w.heap.size + 1 + 1) 79 oc
 oe : Blk wr (w.heap.size + 1 + 1 + 1) 84 oe
 was : Blk wr (w.heap.size + 1 + 1 + 1 + 1) 79 (cpuC Rw pcw)
 below : Below w.heap.size w wr
def Cs (w wr : World) (R : List Nat) (pc : Nat) (l : List Pte) (Rw : List Nat) (pcw : Nat) (oc oe : Array Value) (v : Value) (xs : List ByteArray) : Prop :=
 St w wr R pc l Rw pcw oc oe ∧ wr.ownsRow w.heap.size 9 1 v xs.length (xs.map .string)
section
variable {w wr wr' : World} {R : List Nat} {pc : Nat} {l : List Pte} {Rw : List Nat} {pcw : Nat} {oc oe : Array Value} {v : Value} {xs : List ByteArray}
theorem St.lt (h : St w wr R pc l Rw pcw oc oe) : w.heap.size + 1 + 1 + 1 + 1 < wr.heap.size := h.was.lt
theorem St.later (h : St w wr R pc l Rw pcw oc oe) (hb : Below wr.heap.size wr wr') : St w wr' R pc l Rw pcw oc oe :=
 ⟨h.c.below hb h.c.lt, h.s.below hb h.s.lt, h.oc.below hb h.oc.lt, h.oe.below hb h.oe.lt, h.was.below hb h.was.lt, h.below.trans (hb.mono h.below.size)⟩
theorem St.reg (h : St w wr R pc l Rw pcw oc oe) {i v : Nat} (hi : i < R.length) : St w (wr.setCell ⟨w.heap.size, i, none⟩ (.int .u32 (v : Nat))) (R.set i v) pc l Rw pcw oc oe := by
 refine ⟨?_, h.s.far (by show w.heap.size + 1 ≠ w.heap.size; omega) _, h.oc.far (by show w.heap.size + 1 + 1 ≠ w.heap.size; omega) _, h.oe.far (by show w.heap.size + 1 + 1 + 1 ≠ w.heap.size; omega) _, h.was.far (by show w.heap.size + 1 + 1 + 1 + 1 ≠ w.heap.size; omega) _, h.below.setCell (Nat.le_refl _) _⟩
 rw [← cpuC_set hi]; exact h.c.set_ i _
theorem St.setpc (h : St w wr R pc l Rw pcw oc oe) {v : Nat} (hR : R.length = 16) : St w (wr.setCell ⟨w.heap.size, 16, none⟩ (.int .u32 (v : Nat))) R v l Rw pcw oc oe := by
 refine ⟨?_, h.s.far (by show w.heap.size + 1 ≠ w.heap.size; omega) _, h.oc.far (by show w.heap.size + 1 + 1 ≠ w.heap.size; omega) _, h.oe.far (by show w.heap.size + 1 + 1 + 1 ≠ w.heap.size; omega) _, h.was.far (by show w.heap.size + 1 + 1 + 1 + 1 ≠ w.heap.size; omega) _, h.below.setCell (Nat.le_refl _) _⟩
 rw [← cpuC_setpc (pc := pc) hR]; exact h.c.set_ 16 _
theorem ne_blk {a b : Nat} (h : a ≠ b) : some a ≠ some b := fun e => h (Option.some.inj e)
theorem St.putwas (h : St w wr R pc l Rw pcw oc oe) {R' : List Nat} {pc' : Nat} (hb : Blk wr' (w.heap.size + 1 + 1 + 1 + 1) 79 (cpuC R' pc')) (hg : wr.grownBy wr' (some (w.heap.size + 1 + 1 + 1 + 1))) : St w wr' R pc l R' pc' oc oe :=
 ⟨h.c.grown hg (ne_blk (by omega)), h.s.grown hg (ne_blk (by omega)), h.oc.grown hg (ne_blk (by omega)), h.oe.grown hg (ne_blk (by omega)), hb, h.below.grown hg h.below.size (fun k hk => by cases hk; omega)⟩
theorem St.putoc (h : St w wr R pc l Rw pcw oc oe) {oc' : Array Value} (hb : Blk wr' (w.heap.size + 1 + 1) 79 oc') (hg : wr.grownBy wr' (some (w.heap.size + 1 + 1))) : St w wr' R pc l Rw pcw oc' oe :=
 ⟨h.c.grown hg (ne_blk (by omega)), h.s.grown hg (ne_blk (by omega)), hb, h.oe.grown hg (ne_blk (by omega)), h.was.grown hg (ne_blk (by omega)), h.below.grown hg h.below.size (fun k hk => by cases hk; omega)⟩
theorem St.putoe (h : St w wr R pc l Rw pcw oc oe) {oe' : Array Value} (hb : Blk wr' (w.heap.size + 1 + 1 + 1) 84 oe') (hg : wr.grownBy wr' (some (w.heap.size + 1 + 1 + 1))) : St w wr' R pc l Rw pcw oc oe' :=
 ⟨h.c.grown hg (ne_blk (by omega)), h.s.grown hg (ne_blk (by omega)), h.oc.grown hg (ne_blk (by omega)), hb, h.was.grown hg (ne_blk (by omega)), h.below.grown hg h.below.size (fun k hk => by cases hk; omega)⟩
theorem Cs.later (h : Cs w wr R pc l Rw pcw oc oe v xs) (hb : Below wr.heap.size wr wr') : Cs w wr' R pc l Rw pcw oc oe v xs := ⟨h.1.later hb, own_below h.2 hb⟩
theorem Cs.alloc (h : Cs w wr R pc l Rw pcw oc oe v xs) (o : Obj) : Cs w (wr.alloc o) R pc l Rw pcw oc oe v xs := h.later ((Below.refl _ _).alloc (Nat.le_refl _) _)
theorem Cs.drew (h : Cs w wr R pc l Rw pcw oc oe v xs) : Cs w wr.drew R pc l Rw pcw oc oe v xs := h.later (Below.refl _ _).drew
theorem Cs.own_ne (h : Cs w wr R pc l Rw pcw oc oe v xs) {g : Nat} {t : TypeId} {cs : Array Value} (hg : Blk wr g t cs) (hne : 9 ≠ t) : v.ownBlock ≠ some g := fun e => Go.Proofs.YtdldlendppkknaaGreatDoor.own_ne h.2 hg hne e.symm
theorem Cs.reg (h : Cs w wr R pc l Rw pcw oc oe v xs) {i u : Nat} (hi : i < R.length) : Cs w (wr.setCell ⟨w.heap.size, i, none⟩ (.int .u32 (u : Nat))) (R.set i u) pc l Rw pcw oc oe v xs :=
 ⟨h.1.reg hi, ownsRow_setCell_other h.2 (h.own_ne h.1.c (by decide)) _⟩
theorem Cs.setpc (h : Cs w wr R pc l Rw pcw oc oe v xs) {u : Nat} (hR : R.length = 16) : Cs w (wr.setCell ⟨w.heap.size, 16, none⟩ (.int .u32 (u : Nat))) R u l Rw pcw oc oe v xs :=
 ⟨h.1.setpc hR, ownsRow_setCell_other h.2 (h.own_ne h.1.c (by decide)) _⟩
theorem Cs.putoc (h : Cs w wr R pc l Rw pcw oc oe v xs) {oc' : Array Value} (hb : Blk wr' (w.heap.size + 1 + 1) 79 oc') (hg : wr.grownBy wr' (some (w.heap.size + 1 + 1))) : Cs w wr' R pc l Rw pcw oc' oe v xs :=
 ⟨h.1.putoc hb hg, h.2.kept hg (.inr (h.own_ne h.1.oc (by decide)))⟩
theorem Cs.putoe (h : Cs w wr R pc l Rw pcw oc oe v xs) {oe' : Array Value} (hb : Blk wr' (w.heap.size + 1 + 1 + 1) 84 oe') (hg : wr.grownBy wr' (some (w.heap.size + 1 + 1 + 1))) : Cs w wr' R pc l Rw pcw oc oe' v xs :=
 ⟨h.1.putoe hb hg, h.2.kept hg (.inr (h.own_ne h.1.oe (by decide)))⟩
theorem own_read {w : World} {base n : Nat} {v : Value} {xs : List Value} (h : w.ownsRow base 9 1 v n xs) : ∃ A c, v = .slice A n c ∧ RowAt w w.heap.size A xs ∧ (A = none → n = 0 ∧ c = 0) := by
 rcases Go.Joins.ownsRow_forms h with ⟨rfl, rfl⟩ | ⟨g, cap, rfl⟩
 ·exact ⟨none, 0, rfl, RowAt.of_own h, fun _ => ⟨rfl, rfl⟩⟩
 ·exact ⟨_, cap, rfl, RowAt.of_own h, fun e => by cases e⟩
end
def zC : Array Value := #[.int .u32 0, .int .u32 0, .int .u32 0, .int .u32 0, .int .u32 0, .int .u32 0, .int .u32 0, .int .u32 0, .int .u32 0, .int .u32 0, .int .u32 0, .int .u32 0, .int .u32 0, .int .u32 0, .int .u32 0, .int .u32 0, .int .u32 0]
def zE : Array Value := #[.int .i64 0, .int .u32 0]
def evC (k : Int) (n : Nat) : Array Value := #[.int .i64 k, .int .u32 (n : Int)]
theorem evC_one (k : Int) (n : Nat) : ∀ v ∈ evC k n, v.oneCell' = true := by
 intro v hv
 simp [evC] at hv
 rcases hv with rfl | rfl <;> rfl
def RetC (w : World) (R : List Nat) (pc : Nat) (l : List Pte) (Rw : List Nat) (pcw : Nat) (nc ne : Array Value) (v : Value) (xs : List ByteArray) (F : World → Prop) (k : Nat) (w' : World) : Prop :=
 Cs w w' R pc l Rw pcw (if k = 0 then zC else nc) (if k ≤ 2 then zE else ne) v xs ∧ F w'
theorem ev_info : (Tryz.prog.info? 84).map (·.size) = some 2 := by kernel_rfl
def zeroP : ByteArray := ⟨(List.replicate 128 0).toArray⟩
def zeroA : Array Value := Array.replicate 128 (.int .u8 0)
theorem zeroA_set (k : Nat) : zeroA.setIfInBounds k (.int .u8 0) = zeroA := by
 apply Array.ext
 ·simp
 ·intro i h1 h2
  simp [zeroA, Array.getElem_setIfInBounds]
theorem zeroA_get {k : Nat} (hk : k < 128) : zeroA[k]? = some (.int .u8 0) := by simp [zeroA, hk]
theorem byte_info : (Tryz.prog.info? 5).map (fun i => (i.zero, i.size, i.bytes)) = some (some (.int .u8 0), 1, 1) := by kernel_rfl
theorem zero_back {w : World} {g : Nat} (h : Blk w g 5 zeroA) : (convert 44 9 (.slice (some ⟨g, 0, none⟩) 128 128)).run Tryz.prog w = .ok (.string zeroP) w := by
 have := run_convert_bytes_back (P := Tryz.prog) w 44 9 5 ⟨g, 0, none⟩ 128 (List.replicate 128 0) Tryz.underlying44 Tryz.underlying5 Tryz.underlying9 (fun j hj => by
  have hj : j < 128 := by simpa using hj
  rw [Addr.add_lit, Nat.zero_add, List.getElem_replicate]
  exact h.cell j (zeroA_get hj))
 rw [List.length_replicate] at this
 exact this
theorem page_any (w : World) : Calls Tryz.prog 30 #[.int .u8 0] w fun e w' => e = .returned (.string zeroP) ∧ Below w.heap.size w w' := by
 obtain ⟨i0, q1, q2, q3, q4⟩ := info_parts byte_info
 have I0 := Lib.hid (And.intro q1 (And.intro q2 (And.intro q3 q4)))
 clear q1 q2 q3 q4
 go_enter Tryz.func30, Tryz.ntmps30
 go_wp2_with (refine make_blk 44 (.const (.int .i64 128)) (.const (.int .i64 128)) 5 i0 (.int .u8 0) 128 128 128 rfl rfl Tryz.underlying44 I0.out.1 I0.out.2.1 I0.out.2.2.1 rfl rfl rfl rfl rfl (by rw [I0.out.2.2.2]; decide) (by decide) ?_; intro w1 g1 hg1; have X1 : Hid (Blk w1 w.heap.size 5 zeroA) := g1; have B1 := Lib.hid ((Below.refl w.heap.size w).grown hg1 (Nat.le_refl _) (by intro k hk; cases hk)); clear g1 hg1; go_frame)
 go_loopw [4, 8] (fun _ i wr => ∃ k : Nat, k ≤ 128 ∧ i = .int .i64 (k : Int) ∧ Hid (Blk wr w.heap.size 5 zeroA) ∧ Hid (Below w.heap.size w wr)) (fun _ i _ => 128 - (intOf i).toNat)
 case atStart => exact ⟨0, by decide, rfl, X1, B1⟩
 case round =>
  clear X1 B1
  obtain ⟨k, hk, rfl, X, B⟩ := hrel
  by_cases hlt : k < 128
  ·have q := X.out.cell k (zeroA_get hlt)
   have f := X.out.frozen k
   have i2 : (k : Int) < 128 := by omega
   have i3 : (0 : Int) ≤ (k : Int) := by omega
   go_wp2
   go_roundw
   case rel => exact ⟨k + 1, by omega, by go_num, by have := X.out.set_ k (.int .u8 0); rwa [zeroA_set] at this, B.out.setCell (by exact Nat.le_refl _) _⟩
   case measure => simp [intOf]; omega
  ·obtain rfl : k = 128 := by omega
   have hcv := zero_back X.out
   go_wp2
   go_ret
   exact ⟨rfl, B.out⟩
def wordB : ByteArray := ⟨#[0, 192, 72, 4]⟩
def codeP : ByteArray := ⟨#[0, 192, 72, 4] ++ (List.replicate 124 0).toArray⟩
theorem put_code : putB zeroP 0 wordB = codeP := by kernel_rfl
def layPages : List Pte := ⟨true, true, 1⟩ :: List.replicate 15 ⟨false, false, 0⟩
def codePages : List Pte := ⟨true, false, 1⟩ :: List.replicate 15 ⟨false, false, 0⟩
theorem code_load : loadR [zeroP, codeP] codePages 0 4 = some 71876608 := by kernel_rfl
set_option maxHeartbeats 1000000 in
theorem lay_cl (bl bd g cap base : Nat) (w : World) (h1 : Blk w bl 24 #[.slice (some ⟨g, 0, none⟩) 2 cap]) (h2 : Blk w bd 9 #[.string wordB]) (h3 : w.ownsRow base 9 1 (.slice (some ⟨g, 0, none⟩) 2 cap) 2 [.string zeroP, .string zeroP]) (hbd : base ≤ bd) (hd : bd ≠ g) (hl : bl ≠ bd) (hlg : bl ≠ g) :
  Calls Tryz.prog 77 #[.int .i64 1, .int .i64 0, .int .i64 4, .pointer (some ⟨bl, 0, none⟩), .pointer (some ⟨bd, 0, none⟩)] w fun e w' => e = .returned (.tuple #[]) ∧ (Blk w' bl 24 #[.slice (some ⟨g, 0, none⟩) 2 cap] ∧ w'.ownsRow base 9 1 (.slice (some ⟨g, 0, none⟩) 2 cap) 2 [.string zeroP, .string codeP]) ∧ Below base w w' := by
 obtain ⟨d, hdd⟩ : ∃ d, wordB = d := ⟨_, rfl⟩
 obtain ⟨z, hzz⟩ : ∃ z, zeroP = z := ⟨_, rfl⟩
 obtain ⟨y, hyy⟩ : ∃ y, codeP = y := ⟨_, rfl⟩
 have hds : d.size = 4 := by rw [← hdd]; rfl
 have hzs : z.size = 128 := by rw [← hzz]; kernel_rfl
 have HP : Hid (putB z 0 d = y) := by show _ = _; rw [← hdd, ← hzz, ← hyy]; exact put_code
 rw [hdd] at h2
 rw [hzz] at h3 ⊢
 rw [hyy]
 clear hdd hzz hyy
 have X1 := Lib.hid h1
 have X2 := Lib.hid h2
 have OW := Lib.hid h3
 have u1 : ∀ u : Ext w, u.val.cell? ⟨bl, 0, none⟩ = some (.slice (some ⟨g, 0, none⟩) 2 cap) := fun u => u.cell (h1.cell 0 rfl)
 have u2 : ∀ u : Ext w, u.val.cell? ⟨bd, 0, none⟩ = some (.string d) := fun u => u.cell (h2.cell 0 rfl)
 have u3 : ∀ u : Ext w, u.val.cell? ⟨g, 1, none⟩ = some (.string z) := fun u => u.cell (by rw [h3.cellAt 1 (by decide)]; rfl)
 have e1 : (d.extract 0 4) = d := by rw [← hds]; exact ByteArray.extract_zero_size
 have hE := Lib.hid e1
 have hbw : base ≤ w.heap.size := by have := h2.lt; omega
 clear h1 h2 h3
 go_enter Tryz.func77, Tryz.ntmps77
 go_wp2_with fail
 refine wp_region_ext_tail 12 (by kernel_rfl) (by kernel_rfl) ?_
 simp only [List.take_succ_cons, List.take_zero, List.drop_succ_cons, List.drop_zero]
 repeat (go_big_quiet_step (first
  | (go_at_call 78; exact Ext.call_drew (mput_any z d 0 _ (by omega) (by omega)))))
 refine wpQuiet_nil ?_
 rintro _ ⟨u, rfl⟩
 rw [HP.out]
 have ownu := own_below OW.out u.below
 have gu := u3 u
 have fu := ownu.frozenAt 1
 have OU := Lib.hid ownu
 have Y1 := Lib.hid (X1.out.below u.below X1.out.lt)
 have Y2 := Lib.hid (X2.out.below u.below X2.out.lt)
 have BU := Lib.hid u.below
 have hgb := (ownu.lt g rfl).1
 clear ownu u1 u2 u3 X1 X2 OW HP
 generalize u.val = w2 at *
 obtain ⟨w3, hw3⟩ : ∃ w3, w2.setCell ⟨g, 1, none⟩ (.string y) = w3 := ⟨_, rfl⟩
 obtain ⟨o1, o2⟩ := OU.out.stored 1 (.string y)
 rw [hw3] at o1
 have OO : Hid (w3.ownsRow base 9 1 (.slice (some ⟨g, 0, none⟩) 2 cap) 2 [.string z, .string y]) := o1
 have Z1 : Hid (Blk w3 bl 24 #[.slice (some ⟨g, 0, none⟩) 2 cap]) := hw3 ▸ Y1.out.far (by exact hlg) _
 have Z2 : Hid (Blk w3 bd 9 #[.string d]) := hw3 ▸ Y2.out.far (by exact hd) _
 have BZ : Hid (Below base w w3) := hw3 ▸ (BU.out.mono hbw).setCell (by exact hgb) _
 have z2 := Z2.out.cell 0 rfl
 have f2 := Z2.out.frozen 0
 clear OU Y1 Y2 BU o1 o2 e1
 go_wp2
 go_end0
 refine ⟨rfl, ⟨Z1.out.far (by exact hl) _, ?_⟩, BZ.out.setCell (by exact hbd) _⟩
 exact ownsRow_setCell_other OO.out (fun e => hd (Option.some.inj e).symm) _
theorem lay_call (x y z u v : Value) (w : World) : Sem.run Tryz.prog (callFunc 77 #[x, y, z, u, v]) w = .ok (.enter 77 #[x, y, z, u, v]) w := by kernel_rfl
set_option maxHeartbeats 1000000 in
theorem pieces_lay (A : Option Addr) (c bl bd g cap base : Nat) (w : World) (hb : base ≤ w.heap.size) (hr : RowAt w w.heap.size A ([zeroP, zeroP].map .string)) (h1 : Blk w bl 24 #[.slice (some ⟨g, 0, none⟩) 2 cap]) (h2 : Blk w bd 9 #[.string wordB]) (h3 : w.ownsRow base 9 1 (.slice (some ⟨g, 0, none⟩) 2 cap) 2 [.string zeroP, .string zeroP]) (hbd : base ≤ bd) (hd : bd ≠ g) (hl : bl ≠ bd) (hlg : bl ≠ g) :
  Calls Tryz.prog 76 #[.slice A 2 c, .agg (pteL layPages).toArray, .int .u32 0, .int .i64 4, .bool true, .func (.func 77) #[] #[.pointer (some ⟨bl, 0, none⟩), .pointer (some ⟨bd, 0, none⟩)]] w fun e w' => e = .returned (.bool true) ∧ (Blk w' bl 24 #[.slice (some ⟨g, 0, none⟩) 2 cap] ∧ w'.ownsRow base 9 1 (.slice (some ⟨g, 0, none⟩) 2 cap) 2 [.string zeroP, .string codeP]) ∧ Below base w w' := by
 have HR := Lib.hid hr
 have CF := Lib.hid (fun w => mfind_any layPages 0 1 true w rfl (.inl rfl) (by decide))
 have hfd : findR layPages 0 1 true = some (1, 0) := by kernel_rfl
 rw [hfd] at CF
 unfold FindPost findE at CF
 dsimp only at CF
 have CT := Lib.hid (fun w h => there_any A c [zeroP, zeroP] 1 w (by decide) h)
 have hft : (frame [zeroP, zeroP] 1).isSome = true := by kernel_rfl
 rw [hft] at CT
 generalize hlp : (pteL layPages).toArray = lp at *
 have hcc := fun x y z u v w => lay_call x y z u v w
 have CC : Hid (∀ w', Below w.heap.size w w' → Calls Tryz.prog 77 #[.int .i64 1, .int .i64 0, .int .i64 4, .pointer (some ⟨bl, 0, none⟩), .pointer (some ⟨bd, 0, none⟩)] w' fun e w2 => e = .returned (.tuple #[]) ∧ (Blk w2 bl 24 #[.slice (some ⟨g, 0, none⟩) 2 cap] ∧ w2.ownsRow base 9 1 (.slice (some ⟨g, 0, none⟩) 2 cap) 2 [.string zeroP, .string codeP]) ∧ Below base w' w2) := fun w' hb' =>
  lay_cl bl bd g cap base w' (h1.below hb' h1.lt) (h2.below hb' h2.lt) (own_below h3 hb') hbd hd hl hlg
 have HLP := Lib.hid hlp
 have hsz : (Tryz.prog.info? 76).map (·.size) = some lp.size := by rw [← hlp]; exact space_size rfl
 have HSZ := Lib.hid hsz
 clear hr h1 h2 h3 hfd hft hlp hsz
 have XP : Hid (Blk (w.alloc (.cells lp 76)) w.heap.size 76 lp) := Blk.new w _ _
 have B1 : Hid (Below w.heap.size w (w.alloc (.cells lp 76))) := (Below.refl _ _).alloc (Nat.le_refl _) _
 go_enter Tryz.func76, Tryz.ntmps76
 go_wp2_with fail
 go_loopw [2, 3, 13, 14, 15, 16] (fun at_ n _ _ _ _ wr => (n = .int .i64 4 ∧ at_ = .int .u32 0 ∧ Hid (Below w.heap.size w wr) ∧ Hid (Blk wr w.heap.size 76 lp)) ∨ (n = .int .i64 0 ∧ Hid (Blk wr bl 24 #[.slice (some ⟨g, 0, none⟩) 2 cap] ∧ wr.ownsRow base 9 1 (.slice (some ⟨g, 0, none⟩) 2 cap) 2 [.string zeroP, .string codeP]) ∧ Hid (Below base w wr))) (fun _ n _ _ _ _ _ => (intOf n).toNat)
 case atStart => exact .inl ⟨rfl, rfl, B1, XP⟩
 case round =>
  clear XP B1
  rcases hrel with ⟨rfl, rfl, B, X⟩ | ⟨rfl, X, B⟩
  ·go_wp2_with (refine load_blk 76 (.tmp 7) w.heap.size 76 lp _ rfl rfl rfl X.out Tryz.underlying76 rfl HSZ.out ?_; go_frame)
   refine (CF.out _).mono ?_
   rintro e w2 ⟨rfl, hb2⟩
   have B2 := Lib.hid (B.out.trans (hb2.mono B.out.size))
   clear hb2
   go_wp2_with fail
   refine (CT.out _ ((HR.out.below B2.out).mono B2.out.size)).mono ?_
   rintro e w3 ⟨rfl, rfl⟩
   go_wp2_with fail
   refine (CC.out _ B2.out).mono ?_
   rintro e w4 ⟨rfl, h4, hb4⟩
   have X4 := Lib.hid h4
   have B4 := Lib.hid ((B2.out.mono hb).trans hb4)
   clear h4 hb4
   go_wp2
   go_roundw
   case rel => exact .inr ⟨rfl, X4, B4⟩
   case measure => first | (simp [intOf]; done) | (simp [intOf]; omega)
  ·go_wp2
   go_ret
   exact ⟨rfl, X.out, B.out⟩
set_option maxHeartbeats 1000000 in
theorem slay_any (A : Option Addr) (c : Nat) (w : World) (h0 : A ≠ none) (hr : RowAt w w.heap.size A ([zeroP, zeroP].map .string)) :
  Calls Tryz.prog 29 #[.slice A 2 c, .agg (pteL layPages).toArray, .int .u32 0, .string wordB] w fun e w' => (∃ v, e = .returned (.tuple #[v, .bool true]) ∧ w'.ownsRow w.heap.size 9 1 v 2 ([zeroP, codeP].map .string)) ∧ Below w.heap.size w w' := by
 have HR := Lib.hid hr
 have CL := Lib.hid (fun w' (hb : Below w.heap.size w w') => clone_any A 2 c [zeroP, zeroP] w' rfl (by decide) ((hr.below hb).mono hb.size) (fun e => absurd e h0))
 have CP := Lib.hid (fun bl bd g cap base w' hb hr' h1 h2 h3 hbd hd hl hlg => pieces_lay A c bl bd g cap base w' hb hr' h1 h2 h3 hbd hd hl hlg)
 have hsz : (Tryz.prog.info? 76).map (·.size) = some (pteL layPages).toArray.size := space_size rfl
 generalize (pteL layPages).toArray = lp at *
 have HSZ := Lib.hid hsz
 obtain ⟨W1, hW1⟩ : ∃ W1, (w.alloc (.cells lp 76)).alloc (.cells #[.string wordB] 9) = W1 := ⟨_, rfl⟩
 have hz : (w.alloc (.cells lp 76)).heap.size = w.heap.size + 1 := by simp
 have B1 : Hid (Below w.heap.size w W1) := hW1 ▸ ((Below.refl _ _).alloc (Nat.le_refl _) _).alloc (by simp) _
 have XP : Hid (Blk W1 w.heap.size 76 lp) := hW1 ▸ (Blk.new w _ _).alloc _
 have XD : Hid (Blk W1 (w.heap.size + 1) 9 #[.string wordB]) := by show Blk _ _ _ _; rw [← hW1, ← hz]; exact Blk.new _ _ _
 have HW1 := Lib.hid hW1
 clear hr hsz hW1 hz h0
 have hws : wordB.size = 4 := rfl
 generalize wordB = d at *
 go_enter Tryz.func29, Tryz.ntmps29
 go_wp2_with fail
 rw [HW1.out]
 refine (CL.out _ B1.out).mono ?_
 rintro e w2 ⟨v2, rfl, own2, hb2⟩
 obtain ⟨g, cap, rfl⟩ := Go.Joins.ownsRow_form own2 (by decide)
 have hg := own2.lt g rfl
 obtain ⟨w3, hw3⟩ : ∃ w3, w2.alloc (.cells #[.slice (some ⟨g, 0, none⟩) 2 cap] 24) = w3 := ⟨_, rfl⟩
 have hz1 := B1.out.size
 have hxd := XD.out.lt
 have hz2 := hb2.size
 have hb3 : Below W1.heap.size W1 w3 := hw3 ▸ hb2.alloc hz2 _
 have B3 := Lib.hid (B1.out.trans (hb3.mono hz1))
 have XP3 := Lib.hid (XP.out.below hb3 XP.out.lt)
 have XD3 := Lib.hid (XD.out.below hb3 XD.out.lt)
 have XL3 : Hid (Blk w3 w2.heap.size 24 #[.slice (some ⟨g, 0, none⟩) 2 cap]) := hw3 ▸ Blk.new w2 _ _
 have O3 : Hid (w3.ownsRow w.heap.size 9 1 (.slice (some ⟨g, 0, none⟩) 2 cap) 2 [.string zeroP, .string zeroP]) := own_base (hw3 ▸ own_below own2 ((Below.refl _ _).alloc (Nat.le_refl _) _)) hz1
 have CQ := CP.out w2.heap.size (w.heap.size + 1) g cap w.heap.size w3 B3.out.size ((HR.out.below B3.out).mono B3.out.size) XL3.out XD3.out O3.out (by omega) (by omega) (by omega) (by omega)
 have CQ := Lib.hid CQ
 have x1 := XD3.out.cell 0 rfl
 clear hg hz1 hxd hz2 hb3 hb2 own2 CP CL XP XD HW1 B1
 go_wp2_with (refine load_blk 76 (.tmp 5) w.heap.size 76 lp _ rfl rfl rfl XP3.out Tryz.underlying76 rfl HSZ.out ?_; go_frame)
 refine CQ.out.mono ?_
 rintro e w4 ⟨rfl, ⟨h5, h6⟩, hb4⟩
 have x2 := h5.cell 0 rfl
 have O4 := Lib.hid h6
 have B4 := Lib.hid (B3.out.trans hb4)
 clear h5 h6 hb4 CQ x1
 go_wp2
 go_ret2
 exact ⟨⟨_, rfl, O4.out⟩, B4.out⟩
def addU (b c : Nat) : Nat := (b + c) % 4294967296
theorem rk1_any (b c : Nat) (w : World) (hb : b < 4294967296) (hc : c < 4294967296) : Calls Tryz.prog 147 #[.int .u32 b, .int .u32 c] w fun e w' => e = .returned (.int .u32 (addU b c : Nat)) ∧ w = w' := by
 go_enter Tryz.func147, Tryz.ntmps147
 go_wp2
 go_ret
 exact ⟨ret_int (by show _ = (((b + c) % 4294967296 : Nat) : Int); omega), rfl⟩
theorem reckon_add (w : World) : Calls Tryz.prog 81 #[.int .u8 1] w fun e w' => e = .returned (.func (.func 147) #[] #[]) ∧ w = w' := by
 go_enter Tryz.func81, Tryz.ntmps81
 go_wp2
 go_ret
 exact ⟨rfl, rfl⟩
theorem rk1_call (x y : Value) (w : World) : Sem.run Tryz.prog (callFunc 147 #[x, y]) w = .ok (.enter 147 #[x, y]) w := by kernel_rfl
set_option maxHeartbeats 4000000 in
theorem step_add (R : List Nat) (pc : Nat) (l : List Pte) (A : Option Addr) (c : Nat) (xs : List ByteArray) (w : World) (hR : Regs R) (hp : pc < 4294967296) (hl : l.length = 16) (hx : xs.length ≤ 1000000) (h : RowAt w w.heap.size A (xs.map .string)) (h0 : A = none → xs.length = 0 ∧ c = 0) (hld : loadR xs l pc 4 = some 71876608) :
  Calls Tryz.prog 31 #[.agg (cpuC R pc), .agg (pteL l).toArray, .slice A xs.length c] w fun e w' => (∃ v, e = .returned (.tuple #[.agg (cpuC (((R.set 0 0).set 1 (addU ((R.set 0 0).getD 2 0) ((R.set 0 0).getD 3 0))).set 0 0) ((pc + 4) % 4294967296)), v, .agg #[.int .i64 0, .int .u32 0]])) ∧ Below w.heap.size w w' := by
 have HR := Lib.hid hR
 have HL := Lib.hid hl
 have HA := Lib.hid h
 have H0 := Lib.hid h0
 have S0 : Hid (St w (((((w.alloc (.cells (cpuC R pc) 79)).alloc (.cells (pteL l).toArray 76)).alloc (.cells zC 79)).alloc (.cells zE 84)).alloc (.cells zC 79)) R pc l (List.replicate 16 0) 0 zC zE) := by
  have z1 : (w.alloc (.cells (cpuC R pc) 79)).heap.size = w.heap.size + 1 := by simp
  have z2 : ((w.alloc (.cells (cpuC R pc) 79)).alloc (.cells (pteL l).toArray 76)).heap.size = w.heap.size + 1 + 1 := by simp
  have z3 : (((w.alloc (.cells (cpuC R pc) 79)).alloc (.cells (pteL l).toArray 76)).alloc (.cells zC 79)).heap.size = w.heap.size + 1 + 1 + 1 := by simp
  have z4 : ((((w.alloc (.cells (cpuC R pc) 79)).alloc (.cells (pteL l).toArray 76)).alloc (.cells zC 79)).alloc (.cells zE 84)).heap.size = w.heap.size + 1 + 1 + 1 + 1 := by simp
  refine ⟨((((Blk.new w _ _).alloc _).alloc _).alloc _).alloc _, ?_, ?_, ?_, ?_, (((((Below.refl _ _).alloc (Nat.le_refl _) _).alloc (by simp) _).alloc (by simp; omega) _).alloc (by simp; omega) _).alloc (by simp; omega) _⟩
  ·rw [← z1]; exact (((Blk.new _ _ _).alloc _).alloc _).alloc _
  ·rw [← z2]; exact ((Blk.new _ _ _).alloc _).alloc _
  ·rw [← z3]; exact (Blk.new _ _ _).alloc _
  ·rw [← z4]; exact Blk.new _ _ _
 clear hR hl h h0
 go_enter Tryz.func31, Tryz.ntmps31
 go_wp2_with (first
  | (refine load_blk 79 (.tmp 3) w.heap.size 79 (cpuC R pc) _ rfl rfl rfl ((((Blk.new w 79 (cpuC R pc)).alloc _).alloc _).alloc _) Tryz.underlying79 rfl (cpu_size HR.out.1) ?_; go_frame)
  | (refine store_blk 79 (.tmp 9) (.tmp 23) (w.heap.size + 1 + 1 + 1 + 1) 79 (cpuC (List.replicate 16 0) 0) (cpuC R pc) rfl rfl rfl rfl S0.out.was (by rw [cpuC_size, cpuC_size, HR.out.1]; rfl) (cpu_size HR.out.1) (cpuC_one _ _) ?_; intro w1 hr1 hg1))
 have S1 : Hid (St w w1 R pc l R pc zC zE) := S0.out.putwas hr1 hg1
 clear hr1 hg1 S0
 refine (clone_any A xs.length c xs w1 rfl hx ((HA.out.below S1.out.below).mono S1.out.below.size) H0.out).mono ?_
 rintro e w2 ⟨v, rfl, hown, hb2⟩
 have K2 : Hid (Cs w w2 R pc l R pc zC zE v xs) := ⟨S1.out.later hb2, own_base hown S1.out.below.size⟩
 obtain ⟨A2, c2, hv2, hr2, h02⟩ := own_read K2.out.2
 have RV := Lib.hid hr2
 replace H0 := Lib.hid h02
 subst hv2
 have q1 : w2.cell? ⟨w.heap.size, 16, none⟩ = some (.int .u32 (pc : Nat)) := K2.out.1.c.cell 16 (cpuC_pc HR.out.1)
 clear hown hb2 hr2 h02 S1 HA
 go_wp2_with (refine load_blk 76 (.tmp 4) (w.heap.size + 1) 76 (pteL l).toArray _ rfl rfl rfl K2.out.1.s Tryz.underlying76 rfl (space_size HL.out) ?_; go_frame)
 refine (load_any A2 c2 xs l pc 4 _ hx RV.out HL.out (.inr rfl) hp).mono ?_
 rintro e w3 ⟨rfl, hb3⟩
 have K3 := Lib.hid (K2.out.later hb3)
 replace RV := Lib.hid ((RV.out.below hb3).mono hb3.size)
 clear q1 hb3 K2
 rw [hld]
 unfold loadE
 go_wp2_with fail
 refine (dec_add _).mono ?_
 rintro e w4 ⟨rfl, hb4⟩
 have K4 := Lib.hid (K3.out.later hb4)
 replace RV := Lib.hid ((RV.out.below hb4).mono hb4.size)
 clear hb4 K3
 obtain ⟨z, hz, a, b, cc, imm, ha, hb, hcc, himm⟩ : ∃ z : Value, z = .agg #[.int .u8 1, .int .u8 1, .int .u8 2, .int .u8 3, .int .i32 0] ∧ ∃ (a b cc : Nat) (imm : Int), a = 1 ∧ b = 2 ∧ cc = 3 ∧ imm = 0 := ⟨_, rfl, _, _, _, _, rfl, rfl, rfl, rfl⟩
 rw [← hz]
 have hz : z = .agg #[.int .u8 1, .int .u8 a, .int .u8 b, .int .u8 cc, .int .i32 imm] := by rw [hz, ha, hb, hcc, himm]; rfl
 rw [hz]
 clear hz
 have HX : Hid (a = 1 ∧ b = 2 ∧ cc = 3 ∧ imm = 0) := ⟨ha, hb, hcc, himm⟩
 have ba : a < 16 := by omega
 have bb : b < 16 := by omega
 have bc : cc < 16 := by omega
 have bi1 : -2147483648 ≤ imm := by omega
 have bi2 : imm ≤ 2147483647 := by omega
 clear ha hb hcc himm hld
 obtain ⟨pc1, hpc1⟩ : ∃ pc1, (pc + 4) % 4294967296 = pc1 := ⟨_, rfl⟩
 have e1 : ((pc : Int) + 4) % 4294967296 = (pc1 : Nat) := by omega
 have q0 : w4.cell? ⟨w.heap.size, 0, none⟩ = some (.int .u32 (R.getD 0 0 : Nat)) := K4.out.1.c.cell 0 (cpuC_reg (by rw [HR.out.1]; decide))
 have f0 : w4.frozen? ⟨w.heap.size, 0, none⟩ = false := K4.out.1.c.frozen 0
 have q16 : w4.cell? ⟨w.heap.size, 16, none⟩ = some (.int .u32 (pc : Nat)) := K4.out.1.c.cell 16 (cpuC_pc HR.out.1)
 have f16 : w4.frozen? ⟨w.heap.size, 16, none⟩ = false := K4.out.1.c.frozen 16
 have hz4 := K4.out.1.c.lt
 have hR0 : Regs (R.set 0 0) := HR.out.set_ 0 (by decide)
 have HR0 := Lib.hid hR0
 obtain ⟨va, hva⟩ : ∃ va, (R.set 0 0).getD a 0 = va := ⟨_, rfl⟩
 obtain ⟨vb, hvb⟩ : ∃ vb, (R.set 0 0).getD b 0 = vb := ⟨_, rfl⟩
 obtain ⟨im, him⟩ : ∃ im, (imm % 4294967296).toNat = im := ⟨_, rfl⟩
 have lva : va < 4294967296 := by rw [← hva]; exact hR0.get a
 have lvb : vb < 4294967296 := by rw [← hvb]; exact hR0.get b
 have lim : im < 4294967296 := by omega
 have e2 : imm % 4294967296 = (im : Nat) := by omega
 have lpc1 : pc1 < 4294967296 := by omega
 have HPC := Lib.hid hpc1
 have HVA := Lib.hid hva
 have HVB := Lib.hid hvb
 clear hva hvb him hpc1 hR0
 go_wp2
 have K5 : Hid (Cs w (((w4.setCell ⟨w.heap.size, 0, none⟩ (.int .u32 0)).setCell ⟨w.heap.size, 16, none⟩ (.int .u32 (pc1 : Nat))).alloc (.cells #[.int .u8 1, .int .u8 a, .int .u8 b, .int .u8 cc, .int .i32 imm] 72)) (R.set 0 0) pc1 l R pc zC zE (.slice A2 xs.length c2) xs) :=
  ((K4.out.reg (u := 0) (by rw [HR.out.1]; decide)).setpc HR0.out.1).alloc _
 have I5 : Hid (Blk (((w4.setCell ⟨w.heap.size, 0, none⟩ (.int .u32 0)).setCell ⟨w.heap.size, 16, none⟩ (.int .u32 (pc1 : Nat))).alloc (.cells #[.int .u8 1, .int .u8 a, .int .u8 b, .int .u8 cc, .int .i32 imm] 72)) w4.heap.size 72 #[.int .u8 1, .int .u8 a, .int .u8 b, .int .u8 cc, .int .i32 imm]) := by
  have := Blk.new ((w4.setCell ⟨w.heap.size, 0, none⟩ (.int .u32 0)).setCell ⟨w.heap.size, 16, none⟩ (.int .u32 (pc1 : Nat))) 72 #[.int .u8 1, .int .u8 a, .int .u8 b, .int .u8 cc, .int .i32 imm]
  rwa [show ((w4.setCell ⟨w.heap.size, 0, none⟩ (.int .u32 0)).setCell ⟨w.heap.size, 16, none⟩ (.int .u32 (pc1 : Nat))).heap.size = w4.heap.size by simp] at this
 generalize (((w4.setCell ⟨w.heap.size, 0, none⟩ (.int .u32 0)).setCell ⟨w.heap.size, 16, none⟩ (.int .u32 (pc1 : Nat))).alloc (.cells #[.int .u8 1, .int .u8 a, .int .u8 b, .int .u8 cc, .int .i32 imm] 72)) = w5 at *
 have hgw := K4.out.1.lt
 generalize w4.heap.size = gi at *
 clear q0 f0 q16 f16 hz4 K4
 have p1 : ∀ u : Ext w5, u.val.cell? ⟨gi, 1, none⟩ = some (.int .u8 a) := fun u => u.cell (I5.out.cell 1 rfl)
 have p2 : ∀ u : Ext w5, u.val.cell? ⟨gi, 2, none⟩ = some (.int .u8 b) := fun u => u.cell (I5.out.cell 2 rfl)
 have p4 : ∀ u : Ext w5, u.val.cell? ⟨gi, 4, none⟩ = some (.int .i32 imm) := fun u => u.cell (I5.out.cell 4 rfl)
 have r1 : ∀ u : Ext w5, u.val.cell? ⟨w.heap.size, a, none⟩ = some (.int .u32 va) := fun u => u.cell (by rw [K5.out.1.c.cell a (cpuC_reg (by rw [HR0.out.1]; omega)), HVA.out])
 have r2 : ∀ u : Ext w5, u.val.cell? ⟨w.heap.size, b, none⟩ = some (.int .u32 vb) := fun u => u.cell (by rw [K5.out.1.c.cell b (cpuC_reg (by rw [HR0.out.1]; omega)), HVB.out])
 have a16 : (a : Int) < 16 := by omega
 have b16 : (b : Int) < 16 := by omega
 have c16 : (cc : Int) < 16 := by omega
 refine wp_region_ext (by kernel_rfl) (by kernel_rfl) ?_
 repeat (go_big_quiet_step (fail))
 refine wpQuiet_nil ?_
 rintro _ ⟨u, rfl⟩
 have K6 := Lib.hid (K5.out.later u.below)
 have I6 := Lib.hid (I5.out.below u.below I5.out.lt)
 clear p1 p2 p4 r1 r2 K5 I5 RV
 generalize u.val = w6 at *
 rw [e2]
 have hz6 := I6.out.lt
 have hy6 := K6.out.1.lt
 have i0 : w6.cell? ⟨gi, 0, none⟩ = some (.int .u8 1) := I6.out.cell 0 rfl
 have hge : w.heap.size + 1 + 1 + 1 + 1 < w6.heap.size := hy6
 have K7 : Hid (Cs w (w6.alloc (.cells #[.int .i64 0, .int .u32 0] 84)) (R.set 0 0) pc1 l R pc zC zE (.slice A2 xs.length c2) xs) := K6.out.alloc _
 have I7 : Hid (Blk (w6.alloc (.cells #[.int .i64 0, .int .u32 0] 84)) gi 72 #[.int .u8 1, .int .u8 a, .int .u8 b, .int .u8 cc, .int .i32 imm]) := I6.out.alloc _
 have V7 : Hid (Blk (w6.alloc (.cells #[.int .i64 0, .int .u32 0] 84)) w6.heap.size 84 (evC 0 0)) := Blk.new w6 _ _
 obtain ⟨A7, c7, hv7, hr7, h07⟩ := own_read K7.out.2
 obtain ⟨rfl, rfl⟩ : A7 = A2 ∧ c7 = c2 := by cases hv7; exact ⟨rfl, rfl⟩
 have RV := Lib.hid hr7
 clear hr7 hv7 h07
 have t13 : decide ((1 : Int) ≤ 13) = true := by decide
 have t13' : (1 : Int) ≤ 13 := by omega
 obtain ⟨vc, hvc⟩ : ∃ vc, (R.set 0 0).getD cc 0 = vc := ⟨_, rfl⟩
 have lvc : vc < 4294967296 := by rw [← hvc]; exact HR0.out.get cc
 have HVC := Lib.hid hvc
 clear hvc
 go_wp2
 generalize (w6.alloc (.cells #[.int .i64 0, .int .u32 0] 84)) = w7 at *
 have hgi := I7.out.lt
 have hgel := V7.out.lt
 generalize w6.heap.size = ge at *
 clear K6 I6 i0 hz6 hy6
 have ne : Nonempty (Stg (fun k w' => Cs w w' (if k = 0 then R.set 0 0 else (R.set 0 0).set a (addU vb vc)) pc1 l R pc zC zE (.slice A7 xs.length c7) xs ∧ Blk w' gi 72 #[.int .u8 1, .int .u8 a, .int .u8 b, .int .u8 cc, .int .i32 imm] ∧ Blk w' ge 84 (evC 0 0))) := ⟨⟨0, w7, K7.out, I7.out, V7.out⟩⟩
 have ne0 : Nonempty (Stg0 (fun k w' => Cs w w' (if k = 0 then R.set 0 0 else (R.set 0 0).set a (addU vb vc)) pc1 l R pc zC zE (.slice A7 xs.length c7) xs ∧ Blk w' gi 72 #[.int .u8 1, .int .u8 a, .int .u8 b, .int .u8 cc, .int .i32 imm] ∧ Blk w' ge 84 (evC 0 0))) := ⟨⟨w7, K7.out, I7.out, V7.out⟩⟩
 have p1 : ∀ u : Stg0 (fun k w' => Cs w w' (if k = 0 then R.set 0 0 else (R.set 0 0).set a (addU vb vc)) pc1 l R pc zC zE (.slice A7 xs.length c7) xs ∧ Blk w' gi 72 #[.int .u8 1, .int .u8 a, .int .u8 b, .int .u8 cc, .int .i32 imm] ∧ Blk w' ge 84 (evC 0 0)), u.val.cell? ⟨gi, 1, none⟩ = some (.int .u8 a) := fun u => u.prf.2.1.cell 1 rfl
 have p3 : ∀ u : Stg0 (fun k w' => Cs w w' (if k = 0 then R.set 0 0 else (R.set 0 0).set a (addU vb vc)) pc1 l R pc zC zE (.slice A7 xs.length c7) xs ∧ Blk w' gi 72 #[.int .u8 1, .int .u8 a, .int .u8 b, .int .u8 cc, .int .i32 imm] ∧ Blk w' ge 84 (evC 0 0)), u.val.cell? ⟨gi, 3, none⟩ = some (.int .u8 cc) := fun u => u.prf.2.1.cell 3 rfl
 have r3 : ∀ u : Stg0 (fun k w' => Cs w w' (if k = 0 then R.set 0 0 else (R.set 0 0).set a (addU vb vc)) pc1 l R pc zC zE (.slice A7 xs.length c7) xs ∧ Blk w' gi 72 #[.int .u8 1, .int .u8 a, .int .u8 b, .int .u8 cc, .int .i32 imm] ∧ Blk w' ge 84 (evC 0 0)), u.val.cell? ⟨w.heap.size, cc, none⟩ = some (.int .u32 vc) := fun u => by rw [u.prf.1.1.c.cell cc (cpuC_reg (by rw [if_pos rfl, HR0.out.1]; omega)), if_pos rfl, HVC.out]
 have hcf := fun x y w => rk1_call x y w
 refine wp_region_late 11 13 (fun k w' => Cs w w' (if k = 0 then R.set 0 0 else (R.set 0 0).set a (addU vb vc)) pc1 l R pc zC zE (.slice A7 xs.length c7) xs ∧ Blk w' gi 72 #[.int .u8 1, .int .u8 a, .int .u8 b, .int .u8 cc, .int .i32 imm] ∧ Blk w' ge 84 (evC 0 0)) (by kernel_rfl) (by kernel_rfl) ⟨K7.out.drew, I7.out, V7.out⟩ ?_
 simp only [List.take_succ_cons, List.take_zero, List.drop_succ_cons, List.drop_zero]
 repeat (go_big_quiet_step (first
  | (go_at_call 81; with_reducible exact Stg0.call_same (reckon_add _))
  | (with_reducible exact Stg0.call_same (rk1_any vb vc _ lvb lvc))))
 refine wpQuiet_nil ?_
 repeat (go_big_quiet_step (fail))
 refine wpQuiet_nil ?_
 refine wpT_cons #[] undef rfl (by intro d h; cases h) (fun w8 hw8 => ?_) ?_
 ·have q0 := hw8.1.1.c.cell a (cpuC_reg (by rw [if_pos rfl, HR0.out.1]; omega))
  have f0 := hw8.1.1.c.frozen a
  refine store_cell 68 (.tmp 91) (.tmp 89) w.heap.size a .u32 _ _ rfl rfl rfl rfl (by intro; kernel_rfl) q0 f0 ?_
  intro w9 hw9
  refine ⟨rfl, ?_⟩
  rw [← hw9]
  exact ⟨hw8.1.reg (by rw [if_pos rfl, HR0.out.1]; omega), hw8.2.1.far (by show gi ≠ w.heap.size; omega) _, hw8.2.2.far (by show ge ≠ w.heap.size; omega) _⟩
 refine wpT_nil ?_
 intro w8 hw8
 have K8 : Hid (Cs w w8 ((R.set 0 0).set a (addU vb vc)) pc1 l R pc zC zE (.slice A7 xs.length c7) xs) := hw8.1
 have V8 := Lib.hid hw8.2.2
 have RL8 : Hid (((R.set 0 0).set a (addU vb vc)).length = 16) := by show _ = _; rw [List.length_set]; exact HR0.out.1
 clear hw8 p1 p3 r3 ne ne0 K7 I7 V7 hcf
 have q0 := K8.out.1.c.cell 0 (cpuC_reg (by rw [RL8.out]; decide))
 have f0 := K8.out.1.c.frozen 0
 go_wp2_with (first
  | (refine store_cell 68 (.tmp 207) (.const (.int .u32 0)) w.heap.size 0 .u32 0 _ rfl rfl rfl rfl (by intro; kernel_rfl) q0 f0 ?_; intro w9 hw9; go_frame))
 have K9 : Hid (Cs w w9 (((R.set 0 0).set a (addU vb vc)).set 0 0) pc1 l R pc zC zE (.slice A7 xs.length c7) xs) := by show Cs _ _ _ _ _ _ _ _ _ _ _; rw [← hw9]; exact K8.out.reg (u := 0) (by rw [RL8.out]; decide)
 have V9 : Hid (Blk w9 ge 84 (evC 0 0)) := by show Blk _ _ _ _; rw [← hw9]; exact V8.out.far (by show ge ≠ w.heap.size; omega) _
 have RL9 : Hid ((((R.set 0 0).set a (addU vb vc)).set 0 0).length = 16) := by show _ = _; rw [List.length_set]; exact RL8.out
 clear q0 f0 hw9 K8 V8
 have ne : Nonempty (Stg (RetC w (((R.set 0 0).set a (addU vb vc)).set 0 0) pc1 l R pc (cpuC (((R.set 0 0).set a (addU vb vc)).set 0 0) pc1) (evC 0 0) (.slice A7 xs.length c7) xs (fun w' => Blk w' ge 84 (evC 0 0)))) := ⟨⟨0, w9, K9.out, V9.out⟩⟩
 refine wp_region_late 0 3 (RetC w (((R.set 0 0).set a (addU vb vc)).set 0 0) pc1 l R pc (cpuC (((R.set 0 0).set a (addU vb vc)).set 0 0) pc1) (evC 0 0) (.slice A7 xs.length c7) xs (fun w' => Blk w' ge 84 (evC 0 0))) (by kernel_rfl) (by kernel_rfl) ⟨K9.out.drew, V9.out⟩ ?_
 simp only [List.take_succ_cons, List.take_zero, List.drop_succ_cons, List.drop_zero]
 refine wpQuiet_nil ?_
 repeat (first
  | go_big_quiet_step (fail)
  | (go_big_quiet_want; refine quiet_load_blk 79 (.tmp 3) w.heap.size 79 (cpuC (((R.set 0 0).set a (addU vb vc)).set 0 0) pc1) _ rfl rfl (by rintro _ ⟨u, rfl⟩; exact u.prf.1.1.c) Tryz.underlying79 rfl (cpu_size RL9.out) ?_; go_frame; go_big_quiet_on)
  | (go_big_quiet_want; refine quiet_load_blk 84 (.tmp 17) ge 84 (evC 0 0) _ rfl rfl (by rintro _ ⟨u, rfl⟩; exact u.prf.2) Tryz.underlying84 rfl ev_info ?_; go_frame; go_big_quiet_on))
 refine wpQuiet_nil ?_
 refine wpT_store 79 (.tmp 6) (.tmp 208) (w.heap.size + 1 + 1) 79 (cpuC (((R.set 0 0).set a (addU vb vc)).set 0 0) pc1) rfl rfl rfl rfl rfl (cpu_size RL9.out) (cpuC_one _ _) (fun w' hw => ⟨_, hw.1.1.oc, by rw [cpuC_size, RL9.out]; rfl⟩) (fun w' w2 hw hb hg => ⟨hw.1.putoc hb hg, hw.2.grown hg (ne_blk (by omega))⟩) ?_
 refine wpT_assign (.tmp 209) rfl (fun w' hw => hw) ?_
 refine wpT_store 84 (.tmp 8) (.tmp 210) (w.heap.size + 1 + 1 + 1) 84 (evC 0 0) rfl rfl rfl rfl rfl ev_info (evC_one _ _) (fun w' hw => ⟨_, hw.1.1.oe, rfl⟩) (fun w' w2 hw hb hg => ⟨hw.1.putoe hb hg, hw.2.grown hg (ne_blk (by omega))⟩) ?_
 refine wpT_nil ?_
 intro w10 hw10
 have KF := Lib.hid hw10.1
 go_wp2
 refine bodyPost_ret (results_ctc rfl rfl rfl rfl KF.out.1.oc Tryz.underlying79 rfl (cpu_size RL9.out) KF.out.1.oe Tryz.underlying84 rfl ev_info) rfl ?_
 obtain ⟨x1, x2, x3, x4⟩ := HX.out
 rw [HPC.out]
 have y1 := HVB.out
 have y2 := HVC.out
 subst x1
 subst x2
 subst x3
 rw [y1, y2]
 exact ⟨⟨_, rfl⟩, KF.out.1.below⟩
def putsD (b : Act) : List (Nat × Value) → Act
 | [] => b
 | (d, v) :: r => putsD (b.put (some d) v) r
theorem frame_of {a' : Act} : ∀ (ds : List Nat) {a : Act}, a'.defers = a.defers → a'.tmps.size = a.tmps.size → (∀ t, t ∉ ds → a'.tmps[t]? = a.tmps[t]?) → a' = putsD a (ds.map fun d => (d, a'.tmps.getD d undef))
 | [], a, hd, hs, hr => by
  cases a'; cases a
  simp only at hd hs hr
  subst hd
  have : ∀ (x y : Array Value), (∀ t, x[t]? = y[t]?) → x = y := fun x y h => Array.ext_getElem? h
  rw [this _ _ (fun t => hr t (by simp))]
  rfl
 | d :: r, a, hd, hs, hr => by
  show a' = putsD (a.put (some d) (a'.tmps.getD d undef)) (r.map fun d => (d, a'.tmps.getD d undef))
  refine frame_of r hd (by rw [hs]; simp [Act.put]) (fun t ht => ?_)
  by_cases e : t = d
  ·subst e
   by_cases hlt : t < a.tmps.size
   ·have : t < a'.tmps.size := by omega
    simp [Act.put, Array.getElem?_setIfInBounds, hlt, this, Array.getD_eq_getD_getElem?]
   ·rw [Array.getElem?_eq_none (by omega), Array.getElem?_eq_none (by simp [Act.put]; omega)]
  ·rw [hr t (by simp [e, ht])]
   simp [Act.put, Array.getElem?_setIfInBounds, Ne.symm e]
theorem notDst_of {l : List Oper} {n : Nat} {ds : List Nat} (h : (l.take n).filterMap (fun o => o.dst) = ds) {t : Nat} (ht : t ∉ ds) : ∀ (j : Nat) (oj : Oper), j < n → l[j]? = some oj → oj.dst ≠ some t := by
 intro j oj hj ho e
 apply ht
 rw [← h, List.mem_filterMap]
 refine ⟨oj, List.mem_of_getElem? (i := j) ?_, e⟩
 rw [List.getElem?_take, if_pos hj]; exact ho
theorem notDstQ {l : List Oper} {t : Nat} (h : l.all (fun o => o.dst != some t) = true) : ∀ (j : Nat) (oj : Oper), l.toArray[j]? = some oj → oj.dst ≠ some t := fun j oj hj => by
 have := List.all_eq_true.1 h oj (List.mem_of_getElem? (by simpa using hj))
 simpa using this
end Go.Proofs.YtdldlendppkknaaGreatDoor
