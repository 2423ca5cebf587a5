/-
  Structs that come in by value.
-/
import Derived.Test.YtcjakmnplkeldaaDoorShell
namespace Go.Proofs.YtcjakmnplkeldaaDoor
open Go.ChangeShapes Go.WideShapes Go.ChangeAt Go.RowKit
set_option linter.unusedVariables false
set_option linter.unusedSimpArgs false
section
variable {H : Type} {enc : TypeId × Value → H} {P : Program} {W : World} {r : Reach} {base b0 : Nat} {spare : Nat → Bool} {held : Bool} {v : Value} {d : DataW H} {p : List MemPlace}
/-- a struct: its cells, and each field's reading -/
theorem open_struct {t : TypeId} {fs : Array Field} (hs : P.underlying t = some (.struct fs)) (hv : Value.okWide P W r b0 t v) (h : DataW.Trod enc P W base spare held t v d p) :
    ∃ (cs : Array Value) (n : Nat), v = .agg cs ∧ cs.size = P.cellsOf t ∧ ∀ (i : Nat) (f : Field), fs[i]? = some f → ∃ y, DataW.trod enc P W base spare held n f.type ((cs.toList.drop f.offset).take (P.cellsOf f.type)) = some y := by
  obtain ⟨cs, rfl, hsz⟩ := okWide_struct hs hv
  obtain ⟨fuel, hf⟩ := h
  obtain ⟨xs, n, _, _, _, hl, hi⟩ := DataW.trod_struct hs hf
  refine ⟨cs, n, rfl, hsz, fun i f hf => ?_⟩
  have := hi i f hf
  have hlt : i < xs.length := by rw [hl]; exact (Array.getElem?_eq_some_iff.1 hf).1
  rw [List.getElem?_eq_getElem hlt] at this
  exact ⟨_, this⟩
/-- a field that is a number -/
theorem field_int {f : Field} {cs : Array Value} {n : Nat} {k : IntKind} {y : DataW H × List MemPlace} (hk : P.underlying f.type = some (.int k)) (hc : P.cellsOf f.type = 1)
    (h : DataW.trod enc P W base spare held n f.type ((cs.toList.drop f.offset).take (P.cellsOf f.type)) = some y) : ∃ z, cs[f.offset]? = some (.int k z) ∧ (Lit.int k z).wf = true := by
  obtain ⟨z, e, _, hw⟩ := DataW.trod_int hk h
  refine ⟨z, ?_, hw⟩
  rw [hc] at e
  have := congrArg (·[0]?) e
  simpa [List.getElem?_take, List.getElem?_drop] using this
end
theorem wf_u8 {z : Int} (h : (Lit.int .u8 z).wf = true) : ∃ n : Nat, z = n ∧ n < 256 := by
  simp [Lit.wf, IntKind.min, IntKind.max, IntKind.signed, IntKind.bits] at h
  exact ⟨z.toNat, by omega, by omega⟩
theorem wf_u32 {z : Int} (h : (Lit.int .u32 z).wf = true) : ∃ n : Nat, z = n ∧ n < 4294967296 := by
  simp [Lit.wf, IntKind.min, IntKind.max, IntKind.signed, IntKind.bits] at h
  exact ⟨z.toNat, by omega, by omega⟩
theorem wf_i32 {z : Int} (h : (Lit.int .i32 z).wf = true) : -2147483648 ≤ z ∧ z < 2147483648 := by
  simp [Lit.wf, IntKind.min, IntKind.max, IntKind.signed, IntKind.bits] at h
  omega
theorem wf_i64 {z : Int} (h : (Lit.int .i64 z).wf = true) : -9223372036854775808 ≤ z ∧ z ≤ 9223372036854775807 := by
  simp [Lit.wf, IntKind.min, IntKind.max, IntKind.signed, IntKind.bits] at h
  omega
theorem size5 {cs : Array Value} (h : cs.size = 5) : ∃ a b c d e, cs = #[a, b, c, d, e] := by
  obtain ⟨l⟩ := cs
  match l, h with
  | [a, b, c, d, e], _ => exact ⟨a, b, c, d, e, rfl⟩
theorem insC : Tryd.prog.cellsOf 41 = 5 := by kernel_rfl
theorem u8C : Tryd.prog.cellsOf 5 = 1 := by kernel_rfl
theorem i32C : Tryd.prog.cellsOf 21 = 1 := by kernel_rfl
/-- an instruction that comes in -/
theorem open_ins {H : Type} {enc : TypeId × Value → H} {W : World} {r : Reach} {base b0 : Nat} {spare : Nat → Bool} {held : Bool} {v : Value} {d : DataW H} {p : List MemPlace}
    (hv : Value.okWide Tryd.prog W r b0 41 v) (h : DataW.Trod enc Tryd.prog W base spare held 41 v d p) : ∃ op a b c : Nat, ∃ imm : Int, v = .agg #[.int .u8 op, .int .u8 a, .int .u8 b, .int .u8 c, .int .i32 imm] ∧ (op < 256 ∧ a < 256 ∧ b < 256 ∧ c < 256) ∧ -2147483648 ≤ imm ∧ imm < 2147483648 := by
  obtain ⟨cs, n, rfl, hsz, hf⟩ := open_struct Tryd.underlying41 hv h
  obtain ⟨c0, c1, c2, c3, c4, rfl⟩ := size5 (hsz.trans insC)
  obtain ⟨y0, h0⟩ := hf 0 _ rfl
  obtain ⟨y1, h1⟩ := hf 1 _ rfl
  obtain ⟨y2, h2⟩ := hf 2 _ rfl
  obtain ⟨y3, h3⟩ := hf 3 _ rfl
  obtain ⟨y4, h4⟩ := hf 4 _ rfl
  obtain ⟨z0, e0, w0⟩ := field_int Tryd.underlying5 u8C h0
  obtain ⟨z1, e1, w1⟩ := field_int Tryd.underlying5 u8C h1
  obtain ⟨z2, e2, w2⟩ := field_int Tryd.underlying5 u8C h2
  obtain ⟨z3, e3, w3⟩ := field_int Tryd.underlying5 u8C h3
  obtain ⟨z4, e4, w4⟩ := field_int Tryd.underlying21 i32C h4
  obtain ⟨op, rfl, b0⟩ := wf_u8 w0
  obtain ⟨a, rfl, b1⟩ := wf_u8 w1
  obtain ⟨b, rfl, b2⟩ := wf_u8 w2
  obtain ⟨c, rfl, b3⟩ := wf_u8 w3
  have b4 := wf_i32 w4
  simp at e0 e1 e2 e3 e4
  subst e0 e1 e2 e3 e4
  exact ⟨op, a, b, c, z4, rfl, ⟨b0, b1, b2, b3⟩, b4.1, b4.2⟩
end Go.Proofs.YtcjakmnplkeldaaDoor
