/-
  The contract of sort.Search at this translation.
-/
import Derived.Shelf.SlSorted.Search
import Derived.Test.YtoanladhikdcaaaGreatProg
namespace Go.Proofs
open Go.Shelf Go.RowKit Go.Lib Go.Sort
def Tryz.laysSearch_ren : Go.Shelf.Ren := ⟨fun | 16 => 30 | n => n, fun | 3 => 3 | 4 => 4 | 35 => 64 | 38 => 113 | n => n, fun | n => n⟩
theorem Tryz.laysSearch : SlLaysO.n16 Tryz.prog Tryz.laysSearch_ren := {
  mixed := by kernel_rfl
  f16 := Tryz.func30.trans (congrArg some (by kernel_rfl))
  t3 := Tryz.underlying3
  a3 := Tryz.isAgg3
  z3 := Tryz.sizeOf3
  v3 := Tryz.zeroValue3
  t4 := Tryz.underlying4
  a4 := Tryz.isAgg4
  z4 := Tryz.sizeOf4
  v4 := Tryz.zeroValue4
  t35 := Tryz.underlying64
  a35 := Tryz.isAgg64
  z35 := Tryz.sizeOf64
  v35 := Tryz.zeroValue64
  t38 := Tryz.underlying113
  a38 := Tryz.isAgg113
  z38 := Tryz.sizeOf113
  v38 := Tryz.zeroValue113 }
theorem Tryz.sort_Search (g : FuncId) (cb : Array Value) (n : Nat) (p : Nat → Bool) (w : World) (eg : ∀ args w, (callFunc g args).run Tryz.prog w = .ok (.enter g args) w) (hsz : n < 4611686018427387904)
    (hf : ∀ (m : Nat) (os : Array Obj) (i : Nat), i < n → Calls Tryz.prog g (#[.int .i64 i] ++ cb) (grow (w.drewN m) os) fun e w' => e = .returned (.bool (p i)) ∧ ∃ q os', w' = grow ((grow (w.drewN m) os).drewN q) os')
    (hmono : ∀ a b, a ≤ b → b < n → p a = true → p b = true) :
    Calls Tryz.prog 30 #[.int .i64 n, .func (.func g) #[] cb] w fun e w' => e = .returned (.int .i64 ((List.range n).countP (fun i => !p i) : Nat)) ∧ ∃ q os, w' = grow (w.drewN q) os := Any.sort_Search Tryz.laysSearch g cb n p w eg hsz hf hmono
end Go.Proofs
