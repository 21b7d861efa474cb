/-
  LAYINGS: what the kit's shelf says of strings.Compare, at this program (written by the kit's tools, numbers by name).
-/
import Derived.Shelf.Small.Strs
import Derived.Test.YtelckbphbkebkaaGreatDoorProg
set_option linter.unusedVariables false
namespace Go.Proofs
def Tryz.lays106_ren : Go.Shelf.Ren := ⟨fun | 106 => 115 | 213 => 145 | 265 => 156 | n => n, fun | 9 => 9 | 3 => 3 | n => n, fun | n => n⟩
theorem Tryz.lays106 : Go.Proofs.Lays.n106 Tryz.prog Tryz.lays106_ren := {
  mixed := by kernel_rfl
  f106 := Tryz.func115.trans (congrArg some (by kernel_rfl))
  f213 := Tryz.func145.trans (congrArg some (by kernel_rfl))
  f265 := Tryz.func156.trans (congrArg some (by kernel_rfl))
  t3 := Tryz.underlying3
  a3 := Tryz.isAgg3
  z3 := Tryz.sizeOf3
  v3 := Tryz.zeroValue3
  t9 := Tryz.underlying9
  a9 := Tryz.isAgg9
  z9 := Tryz.sizeOf9
  v9 := Tryz.zeroValue9 }
open Go.RowKit in
theorem Tryz.strings_Compare (a b : ByteArray) (w : World) :
    Calls Tryz.prog 115 #[.string a, .string b] w fun e w' => e = .returned (.int .i64 (Lib.compareBytes a.data.toList b.data.toList)) ∧ w' = w := Any.strings_Compare Tryz.lays106 a b w
end Go.Proofs
