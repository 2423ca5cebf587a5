/-
  Contracts of the library at this translation, as the tools of the kit lay them.
-/
import Derived.Shelf.Strings.Builder1
import Derived.Shelf.Strings.Builder2
import Derived.Shelf.Small.Bits
import Derived.Shelf.Strings.BuilderF
import Derived.Shelf.Strings.Prefix
import Derived.Shelf.Bits.Mul64
import Derived.Shelf.Strings.Repeat
import Derived.Test.YtclmocppphojfaaProg
namespace Go.Proofs
open Go.Shelf
def Try.lays135_ren : Go.Shelf.Ren := ⟨fun | 135 => 51 | n => n, fun | 5 => 5 | 3 => 3 | 9 => 9 | n => n, fun | n => n⟩
theorem Try.lays135 : Go.Proofs.Lays.n135 Try.prog Try.lays135_ren := {
  mixed := by kernel_rfl
  f135 := Try.func51.trans (congrArg some (by kernel_rfl))
  t3 := Try.underlying3
  a3 := Try.isAgg3
  z3 := Try.sizeOf3
  v3 := Try.zeroValue3
  t5 := Try.underlying5
  a5 := Try.isAgg5
  z5 := Try.sizeOf5
  v5 := Try.zeroValue5
  t9 := Try.underlying9
  a9 := Try.isAgg9
  z9 := Try.sizeOf9
  v9 := Try.zeroValue9 }
theorem Try.bits_OnesCount8 (x : Int) (w : World) (h0 : 0 ≤ x) (h1 : x ≤ 255) :
    Calls Try.prog 51 #[.int .u8 x] w fun e w' => e = .returned (.int .i64 (Lib.onesCount x.toNat)) ∧ w' = w := Any.bits_OnesCount8 Try.lays135 x w h0 h1
def Try.lays105_ren : Go.Shelf.Ren := ⟨fun | 105 => 63 | 212 => 71 | 99 => 72 | 165 => 73 | 166 => 74 | 170 => 75 | 169 => 76 | 263 => 78 | 264 => 79 | 206 => 80 | 240 => 81 | 241 => 82 | 276 => 83 | 277 => 84 | n => n, fun | 9 => 9 | 3 => 3 | 4 => 4 | 20 => 20 | 0 => 0 | 46 => 88 | 109 => 89 | 5 => 5 | 72 => 94 | 76 => 98 | 51 => 104 | 146 => 105 | 53 => 64 | 148 => 107 | 70 => 92 | 37 => 62 | 75 => 97 | 127 => 109 | 164 => 110 | 80 => 60 | n => n, fun | n => n⟩
theorem Try.lays105 : Go.Proofs.Lays.n105 Try.prog Try.lays105_ren := {
  mixed := by kernel_rfl
  f99 := Try.func72.trans (congrArg some (by kernel_rfl))
  f105 := Try.func63.trans (congrArg some (by kernel_rfl))
  f165 := Try.func73.trans (congrArg some (by kernel_rfl))
  f166 := Try.func74.trans (congrArg some (by kernel_rfl))
  f169 := Try.func76.trans (congrArg some (by kernel_rfl))
  f170 := Try.func75.trans (congrArg some (by kernel_rfl))
  f206 := Try.func80.trans (congrArg some (by kernel_rfl))
  f212 := Try.func71.trans (congrArg some (by kernel_rfl))
  f240 := Try.func81.trans (congrArg some (by kernel_rfl))
  f241 := Try.func82.trans (congrArg some (by kernel_rfl))
  f263 := Try.func78.trans (congrArg some (by kernel_rfl))
  f264 := Try.func79.trans (congrArg some (by kernel_rfl))
  f276 := Try.func83.trans (congrArg some (by kernel_rfl))
  f277 := Try.func84.trans (congrArg some (by kernel_rfl))
  t0 := Try.underlying0
  a0 := Try.isAgg0
  z0 := Try.sizeOf0
  v0 := Try.zeroValue0
  t3 := Try.underlying3
  a3 := Try.isAgg3
  z3 := Try.sizeOf3
  v3 := Try.zeroValue3
  t4 := Try.underlying4
  a4 := Try.isAgg4
  z4 := Try.sizeOf4
  v4 := Try.zeroValue4
  t5 := Try.underlying5
  a5 := Try.isAgg5
  z5 := Try.sizeOf5
  v5 := Try.zeroValue5
  t9 := Try.underlying9
  a9 := Try.isAgg9
  z9 := Try.sizeOf9
  v9 := Try.zeroValue9
  t20 := Try.underlying20
  a20 := Try.isAgg20
  z20 := Try.sizeOf20
  v20 := Try.zeroValue20
  t37 := Try.underlying62
  a37 := Try.isAgg62
  z37 := Try.sizeOf62
  v37 := Try.zeroValue62
  t46 := Try.underlying88
  a46 := Try.isAgg88
  z46 := Try.sizeOf88
  v46 := Try.zeroValue88
  t51 := Try.underlying104
  a51 := Try.isAgg104
  z51 := Try.sizeOf104
  v51 := Try.zeroValue104
  t53 := Try.underlying64
  a53 := Try.isAgg64
  z53 := Try.sizeOf64
  v53 := Try.zeroValue64
  t70 := Try.underlying92
  a70 := Try.isAgg92
  z70 := Try.sizeOf92
  v70 := Try.zeroValue92
  t72 := Try.underlying94
  a72 := Try.isAgg94
  z72 := Try.sizeOf94
  v72 := Try.zeroValue94
  t75 := Try.underlying97
  a75 := Try.isAgg97
  z75 := Try.sizeOf97
  v75 := Try.zeroValue97
  t76 := Try.underlying98
  a76 := Try.isAgg98
  z76 := Try.sizeOf98
  v76 := Try.zeroValue98
  t109 := Try.underlying89
  a109 := Try.isAgg89
  z109 := Try.sizeOf89
  v109 := Try.zeroValue89
  t127 := Try.underlying109
  a127 := Try.isAgg109
  z127 := Try.sizeOf109
  v127 := Try.zeroValue109
  t146 := Try.underlying105
  a146 := Try.isAgg105
  z146 := Try.sizeOf105
  v146 := Try.zeroValue105
  t148 := Try.underlying107
  a148 := Try.isAgg107
  z148 := Try.sizeOf107
  v148 := Try.zeroValue107
  t164 := Try.underlying110
  a164 := Try.isAgg110
  z164 := Try.sizeOf110
  v164 := Try.zeroValue110 }
theorem Try.Builder_Extra_105 : Builder.Extra Try.prog Try.lays105_ren := {
  sizeBuilder := by kernel_rfl
  liesBuilder := by kernel_rfl
  t5 := Try.underlying5
  a5 := Try.isAgg5
  z5 := Try.sizeOf5
  v5 := Try.zeroValue5
  infoByte := by kernel_rfl
  cellsByte := by kernel_rfl
  sizeByte := by kernel_rfl
  neB5 := by decide }
open Go.RowKit Go.Lib in
theorem Try.strings_Repeat (s : ByteArray) (c : Nat) (w : World) (hc : c ≤ 9223372036854775807) (hlen : s.size * c ≤ 140737488355328) :
    Calls Try.prog 63 #[.string s, .int .i64 c] w fun e w' => e = .returned (.string ⟨(Lib.repeatL s.data.toList c).toArray⟩) ∧ Below w.heap.size w w' := Any.strings_Repeat Try.lays105 Try.Builder_Extra_105 s c w hc hlen
end Go.Proofs
