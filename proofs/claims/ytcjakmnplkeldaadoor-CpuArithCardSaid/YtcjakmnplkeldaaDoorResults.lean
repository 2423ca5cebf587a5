/-
  What is handed back out of cells.
-/
import Derived.Test.YtcjakmnplkeldaaDoorRowOps
namespace Go.Proofs.YtcjakmnplkeldaaDoor
open Go.RowKit
set_option linter.unusedVariables false
set_option linter.unusedSimpArgs false

theorem results_ct {P : Program} {f : Func} {ts : Array Value} {s k g : Nat} {ty t : TypeId} {cs : Array Value} {d : TypeDesc} {w : World} {v : Value} (hf : f.results = #[.cell s ty, .tmp k]) (hs : ts.getD s undef = .pointer (some ⟨g, 0, none⟩)) (hk : ts.getD k undef = v) (hg : Blk w g t cs)
    (hu : P.underlying ty = some d) (hd : (match d with | .struct _ | .array _ _ => true | _ => false) = true) (hi : (P.info? ty).map (·.size) = some cs.size) :
    (results f ts).run P w = .ok (.tuple #[.agg cs, v]) w := by
  have hr := run_loadVar_row (P := P) w g t ty cs (0, 0) d hg hu hd hi
  simp only [Array.getD_eq_getD_getElem?] at hs hk
  unfold results
  rw [hf]
  simp [hs, hk, asAddr, hr, Sem.run_bind, Sem.run_pure, Result.andThen_ok]
theorem results_ctc {P : Program} {f : Func} {ts : Array Value} {s k s2 g g2 : Nat} {ty t ty2 t2 : TypeId} {cs cs2 : Array Value} {d d2 : TypeDesc} {w : World} {v : Value} (hf : f.results = #[.cell s ty, .tmp k, .cell s2 ty2]) (hs : ts.getD s undef = .pointer (some ⟨g, 0, none⟩)) (hk : ts.getD k undef = v) (hs2 : ts.getD s2 undef = .pointer (some ⟨g2, 0, none⟩)) (hg : Blk w g t cs)
    (hu : P.underlying ty = some d) (hd : (match d with | .struct _ | .array _ _ => true | _ => false) = true) (hi : (P.info? ty).map (·.size) = some cs.size)
    (hg2 : Blk w g2 t2 cs2) (hu2 : P.underlying ty2 = some d2) (hd2 : (match d2 with | .struct _ | .array _ _ => true | _ => false) = true) (hi2 : (P.info? ty2).map (·.size) = some cs2.size) :
    (results f ts).run P w = .ok (.tuple #[.agg cs, v, .agg cs2]) w := by
  have hr := run_loadVar_row (P := P) w g t ty cs (0, 0) d hg hu hd hi
  have hr2 := run_loadVar_row (P := P) w g2 t2 ty2 cs2 (0, 0) d2 hg2 hu2 hd2 hi2
  simp only [Array.getD_eq_getD_getElem?] at hs hk hs2
  unfold results
  rw [hf]
  simp [hs, hk, hs2, asAddr, hr, hr2, Sem.run_bind, Sem.run_pure, Result.andThen_ok]
section
variable {P : Program} {ops : Array Oper} {rest : List Oper} {o : Oper} {a : Act} {w : World} {Q : Exit → Act → World → Prop}
/-- a number that is turned into another kind, of which it is known what comes of it -/
theorem conv_int (kd k : IntKind) (n z : Int) (src dst : TypeId) (x : Operand) (hgd : o.guard = none) (ho : o.op = .convert src dst x) (hx : a.eval x = .int k n) (hs : (P.underlying src).isSome = true)
    (hk : P.intKind dst = kd) (hd : P.underlying dst = some (.int kd)) (hz : kd.wrap n = z) (h : wpList P ops Q rest (a.put o.dst (.int kd z)) w) : wpList P ops Q (o :: rest) a w := by
  refine wpList_plain hgd fun K hK => ?_
  unfold Oper.wp execOp
  subst hk
  simp only [ho, hx, run_convert_int w src dst k n hs hd, Sem.run_bind, Sem.run_pure, Result.andThen_ok, hz]
  exact hK _ _ h
/-- a number into one cell: the world behind it is a letter -/
theorem store_cell (ty : TypeId) (x y : Operand) (g i : Nat) (k : IntKind) (n : Int) (v0 : Value) (hgd : o.guard = none) (ho : o.op = .store ty x y) (hx : a.eval x = .pointer (some ⟨g, i, none⟩)) (hy : a.eval y = .int k n)
    (hs : ∀ w, Sem.run P (sizeOf ty) w = .ok 1 w) (hc : w.cell? ⟨g, i, none⟩ = some v0) (hf : w.frozen? ⟨g, i, none⟩ = false) (h : ∀ w', w.setCell ⟨g, i, none⟩ (.int k n) = w' → wpList P ops Q rest (a.put o.dst undef) w') : wpList P ops Q (o :: rest) a w := by
  refine wpList_plain hgd fun K hK => ?_
  unfold Oper.wp execOp
  simp only [ho, hx, hy]
  simp [go_sem, hs, hc, hf]
  exact hK _ _ (h _ rfl)
theorem store_str (ty : TypeId) (x y : Operand) (g i : Nat) (n : ByteArray) (v0 : Value) (hgd : o.guard = none) (ho : o.op = .store ty x y) (hx : a.eval x = .pointer (some ⟨g, i, none⟩)) (hy : a.eval y = .string n)
    (hs : ∀ w, Sem.run P (sizeOf ty) w = .ok 1 w) (hc : w.cell? ⟨g, i, none⟩ = some v0) (hf : w.frozen? ⟨g, i, none⟩ = false) (h : ∀ w', w.setCell ⟨g, i, none⟩ (.string n) = w' → wpList P ops Q rest (a.put o.dst undef) w') : wpList P ops Q (o :: rest) a w := by
  refine wpList_plain hgd fun K hK => ?_
  unfold Oper.wp execOp
  simp only [ho, hx, hy]
  simp [go_sem, hs, hc, hf]
  exact hK _ _ (h _ rfl)
end
end Go.Proofs.YtcjakmnplkeldaaDoor
