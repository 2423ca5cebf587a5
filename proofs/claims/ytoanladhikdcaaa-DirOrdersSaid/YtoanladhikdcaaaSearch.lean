/-
  The contract of sort.Search at this translation.
-/
import Derived.Shelf.SlSorted.Search
import Derived.Test.YtoanladhikdcaaaProg
namespace Go.Proofs
open Go.Shelf Go.RowKit Go.Lib Go.Sort
def Try.laysSearch_ren : Go.Shelf.Ren := ⟨fun | 16 => 51 | n => n, fun | 3 => 3 | 4 => 4 | 35 => 81 | 38 => 125 | n => n, fun | n => n⟩
theorem Try.laysSearch : SlLaysO.n16 Try.prog Try.laysSearch_ren := {
  mixed := by kernel_rfl
  f16 := Try.func51.trans (congrArg some (by kernel_rfl))
  t3 := Try.underlying3
  a3 := Try.isAgg3
  z3 := Try.sizeOf3
  v3 := Try.zeroValue3
  t4 := Try.underlying4
  a4 := Try.isAgg4
  z4 := Try.sizeOf4
  v4 := Try.zeroValue4
  t35 := Try.underlying81
  a35 := Try.isAgg81
  z35 := Try.sizeOf81
  v35 := Try.zeroValue81
  t38 := Try.underlying125
  a38 := Try.isAgg125
  z38 := Try.sizeOf125
  v38 := Try.zeroValue125 }
theorem Try.sort_Search (g : FuncId) (cb : Array Value) (n : Nat) (p : Nat → Bool) (w : World) (eg : ∀ args w, (callFunc g args).run Try.prog w = .ok (.enter g args) w) (hsz : n < 4611686018427387904)
    (hf : ∀ (m : Nat) (os : Array Obj) (i : Nat), i < n → Calls Try.prog g (#[.int .i64 i] ++ cb) (grow (w.drewN m) os) fun e w' => e = .returned (.bool (p i)) ∧ ∃ q os', w' = grow ((grow (w.drewN m) os).drewN q) os')
    (hmono : ∀ a b, a ≤ b → b < n → p a = true → p b = true) :
    Calls Try.prog 51 #[.int .i64 n, .func (.func g) #[] cb] w fun e w' => e = .returned (.int .i64 ((List.range n).countP (fun i => !p i) : Nat)) ∧ ∃ q os, w' = grow (w.drewN q) os := Any.sort_Search Try.laysSearch g cb n p w eg hsz hf hmono
end Go.Proofs
