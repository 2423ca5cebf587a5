/-
  What the rows' list of variables gives: isa.names and strconv's table.
-/
import Derived.Test.YtnaknooefjiahaaDoorCards
import Derived.Test.YtnaknooefjiahaaDoorTie
import Derived.Test.YtnaknooefjiahaaDoorOpen
import Derived.Test.YtnaknooefjiahaaDoorText
import Derived.Deep.DeepHandedRow
import Derived.Lib.LaidTab
import Derived.Lay
namespace Go.Proofs.YtnaknooefjiahaaDoor
open Go.ChangeShapes Go.WideShapes Go.ChangeAt Go.RowKit
set_option linter.unusedVariables false
set_option linter.unusedSimpArgs false

/-- an array of strings that reads as a list of texts holds them, cell for cell -/
theorem cells_of_strs {H : Type} {enc : TypeId × Value → H} {P : Program} {w : World} {base : Nat} {sp : Nat → Bool} {held : Bool} {fuel : Nat} {t e : TypeId} {n : Nat} {cs : List Value} {zs : List (List UInt8)} {p : List MemPlace}
    (ht : P.underlying t = some (.array n e)) (he : P.underlying e = some .string) (hce : P.cellsOf e = 1) (hct : P.cellsOf t = n)
    (h : DataW.trod enc P w base sp held fuel t cs = some (.agg (zs.map fun z => .lit (.string z)), p)) : cs = zs.map fun z => Value.string ⟨z.toArray⟩ := by
  cases fuel with
  | zero => simp [DataW.trod] at h
  | succ fuel =>
    simp only [DataW.trod, ht, hce, hct, Nat.mul_one] at h
    split at h
    · rename_i hl
      obtain ⟨xs, hm, hx⟩ := Option.map_eq_some_iff.1 h
      have hxs : xs.map (·.1) = zs.map fun z => (DataW.lit (.string z) : DataW H) := by
        have := congrArg Prod.fst hx
        simpa using this
      have hxl : xs.length = n := by simpa using Lib.mapM_length hm
      have hzl : zs.length = n := by
        have := congrArg List.length hxs
        simp at this
        omega
      apply List.ext_getElem?
      intro i
      by_cases hi : i < n
      · obtain ⟨b, hb, hf⟩ := Lib.mapM_at hm i i (by simp [hi])
        obtain ⟨s, hc, rfl, _⟩ := DataW.trod_string he hf
        have h1 : cs[i]? = some (.string s) := by
          have := congrArg (·[0]?) hc
          simpa [List.getElem?_take, List.getElem?_drop] using this
        have h2 : (xs.map (·.1))[i]? = some (DataW.lit (.string s.data.toList) : DataW H) := by simp [hb]
        rw [hxs] at h2
        simp only [List.getElem?_map, Option.map_eq_some_iff, DataW.lit.injEq, Lit.string.injEq] at h2
        obtain ⟨z', hz', rfl⟩ := h2
        simp [h1, hz']
      · rw [List.getElem?_eq_none (by omega), List.getElem?_eq_none (by simp; omega)]
    · cases h
theorem namesG : (Tryd.prog.globals[0]?).map (·.type) = some 51 := by kernel_rfl
theorem namesC : Tryd.prog.cellsOf 51 = 32 := by kernel_rfl
theorem strC : Tryd.prog.cellsOf 9 = 1 := by kernel_rfl
theorem powN : Tryd.prog.globalNamed "internal/strconv.uint64pow10" = some 1 := by kernel_rfl
theorem powG : (Tryd.prog.globals[1]?).map (·.type) = some 77 := by kernel_rfl
theorem powC : Tryd.prog.cellsOf 77 = 20 := by kernel_rfl
theorem u64C : Tryd.prog.cellsOf 69 = 1 := by kernel_rfl

theorem laid_of {W : World} (h : laidMetH Tryd.prog Rows.isaEncRow.laid W) : Laid W := by
  rw [MakeChecks.laidMetH_plain _ _ _ (by kernel_rfl)] at h
  obtain ⟨ps, ⟨g0, t0, cs0, f0, p0, q0, _, _, _, _, ⟨g1, t1, cs1, f1, p1, q1, _, _, _, _, ⟨g2, t2, cs2, f2, p2, q2, hg2, ht2, hv2, hd2, ⟨g3, t3, cs3, f3, p3, q3, hg3, ht3, hv3, hd3, _, _⟩, _⟩, _⟩, _⟩, _, _⟩ := h
  obtain rfl := Option.some.inj (powN.symm.trans hg2)
  obtain rfl := Option.some.inj (powG.symm.trans ht2)
  obtain rfl := Option.some.inj (gNames.symm.trans hg3)
  obtain rfl := Option.some.inj (namesG.symm.trans ht3)
  constructor
  · rw [hv3]
    have := cells_of_strs (zs := nmT) Tryd.underlying51 Tryd.underlying9 strC namesC hd3
    rw [← this]
  · unfold Lib.TabIs
    rw [hv2]
    have := Lib.cells_of_tab (zs := Lib.pow10Tab) Tryd.underlying77 Tryd.underlying69 u64C powC hd2
    rw [← this]
noncomputable def laidWorld (os : Os) : World := World.laidAll Tryd.prog os Rows.isaEncRow.laid
theorem laid_met (os : Os) (args : Array Value) : laidMetH Tryd.prog Rows.isaEncRow.laid ((laidWorld os).forCall (fun _ _ => 0) ⟨#[], args, []⟩).memory := by
  rw [MakeChecks.laidMetH_plain _ _ _ (by kernel_rfl)]
  exact laidMet_laidAll _ (by kernel_rfl) (by kernel_rfl)
end Go.Proofs.YtnaknooefjiahaaDoor
