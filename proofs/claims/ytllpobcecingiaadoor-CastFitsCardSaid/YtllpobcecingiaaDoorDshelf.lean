/-
  What the shelf asks of this program, as the shelf's own tool printed it (no walk).
-/
import Derived.Test.YtllpobcecingiaaDoorProg
import Derived.Shelf.Strconv.Itoa3
import Derived.Shelf.LaysM
import Derived.Shelf.Bits.Mul64
set_option linter.unusedVariables false
namespace Go.Proofs
def Tryd.laysM171_ren : Go.Shelf.Ren := ⟨fun | 171 => 43 | 243 => 57 | 246 => 69 | 283 => 78 | 284 => 79 | 285 => 80 | 286 => 81 | 129 => 90 | 317 => 89 | 318 => 91 | 319 => 92 | 320 => 93 | 337 => 98 | 338 => 99 | n => n, fun | 3 => 3 | 9 => 9 | 2 => 2 | 4 => 4 | 171 => 103 | 0 => 0 | 53 => 75 | 37 => 96 | 5 => 5 | 173 => 106 | 212 => 117 | 51 => 118 | 20 => 20 | 213 => 119 | 46 => 62 | 232 => 129 | 233 => 130 | n => n, fun | 17 => 5 | 18 => 6 | 19 => 7 | n => n⟩
theorem Tryd.laysM171 : Go.Proofs.LaysM.n171 Tryd.prog Tryd.laysM171_ren := {
  mixed := by kernel_rfl
  f129 := Tryd.func90.trans (congrArg some (by kernel_rfl))
  f171 := Tryd.func43.trans (congrArg some (by kernel_rfl))
  f243 := Tryd.func57.trans (congrArg some (by kernel_rfl))
  f246 := Tryd.func69.trans (congrArg some (by kernel_rfl))
  f283 := Tryd.func78.trans (congrArg some (by kernel_rfl))
  f284 := Tryd.func79.trans (congrArg some (by kernel_rfl))
  f285 := Tryd.func80.trans (congrArg some (by kernel_rfl))
  f286 := Tryd.func81.trans (congrArg some (by kernel_rfl))
  f317 := Tryd.func89.trans (congrArg some (by kernel_rfl))
  f318 := Tryd.func91.trans (congrArg some (by kernel_rfl))
  f319 := Tryd.func92.trans (congrArg some (by kernel_rfl))
  f320 := Tryd.func93.trans (congrArg some (by kernel_rfl))
  f337 := Tryd.func98.trans (congrArg some (by kernel_rfl))
  f338 := Tryd.func99.trans (congrArg some (by kernel_rfl))
  t0 := Tryd.underlying0
  a0 := Tryd.isAgg0
  z0 := Tryd.sizeOf0
  v0 := Tryd.zeroValue0
  t2 := Tryd.underlying2
  a2 := Tryd.isAgg2
  z2 := Tryd.sizeOf2
  v2 := Tryd.zeroValue2
  t3 := Tryd.underlying3
  a3 := Tryd.isAgg3
  z3 := Tryd.sizeOf3
  v3 := Tryd.zeroValue3
  t4 := Tryd.underlying4
  a4 := Tryd.isAgg4
  z4 := Tryd.sizeOf4
  v4 := Tryd.zeroValue4
  t5 := Tryd.underlying5
  a5 := Tryd.isAgg5
  z5 := Tryd.sizeOf5
  v5 := Tryd.zeroValue5
  t9 := Tryd.underlying9
  a9 := Tryd.isAgg9
  z9 := Tryd.sizeOf9
  v9 := Tryd.zeroValue9
  t20 := Tryd.underlying20
  a20 := Tryd.isAgg20
  z20 := Tryd.sizeOf20
  v20 := Tryd.zeroValue20
  t37 := Tryd.underlying96
  a37 := Tryd.isAgg96
  z37 := Tryd.sizeOf96
  v37 := Tryd.zeroValue96
  t46 := Tryd.underlying62
  a46 := Tryd.isAgg62
  z46 := Tryd.sizeOf62
  v46 := Tryd.zeroValue62
  t51 := Tryd.underlying118
  a51 := Tryd.isAgg118
  z51 := Tryd.sizeOf118
  v51 := Tryd.zeroValue118
  t53 := Tryd.underlying75
  a53 := Tryd.isAgg75
  z53 := Tryd.sizeOf75
  v53 := Tryd.zeroValue75
  t171 := Tryd.underlying103
  a171 := Tryd.isAgg103
  z171 := Tryd.sizeOf103
  v171 := Tryd.zeroValue103
  t173 := Tryd.underlying106
  a173 := Tryd.isAgg106
  z173 := Tryd.sizeOf106
  v173 := Tryd.zeroValue106
  t212 := Tryd.underlying117
  a212 := Tryd.isAgg117
  z212 := Tryd.sizeOf117
  v212 := Tryd.zeroValue117
  t213 := Tryd.underlying119
  a213 := Tryd.isAgg119
  z213 := Tryd.sizeOf119
  t232 := Tryd.underlying129
  a232 := Tryd.isAgg129
  z232 := Tryd.sizeOf129
  v232 := Tryd.zeroValue129
  t233 := Tryd.underlying130
  a233 := Tryd.isAgg130
  z233 := Tryd.sizeOf130
  v233 := Tryd.zeroValue130
  g17 := by kernel_rfl
  g18 := by kernel_rfl
  g19 := by kernel_rfl
  i0 := by kernel_rfl
  i2 := by kernel_rfl
  i3 := by kernel_rfl
  i4 := by kernel_rfl
  i5 := by kernel_rfl
  i9 := by kernel_rfl
  i20 := by kernel_rfl
  i37 := by kernel_rfl
  i46 := by kernel_rfl
  i51 := by kernel_rfl
  i53 := by kernel_rfl
  i171 := by kernel_rfl
  i173 := by kernel_rfl
  i212 := by kernel_rfl
  i232 := by kernel_rfl
  i233 := by kernel_rfl
  m17 := by kernel_rfl
  m18 := by kernel_rfl
  m19 := by kernel_rfl }
def Tryd.lays264_ren : Go.Shelf.Ren := ⟨fun | 264 => 61 | n => n, fun | 53 => 75 | 46 => 62 | n => n, fun | n => n⟩
theorem Tryd.lays264 : Go.Proofs.Lays.n264 Tryd.prog Tryd.lays264_ren := {
  mixed := by kernel_rfl
  f264 := Tryd.func61.trans (congrArg some (by kernel_rfl))
  t46 := Tryd.underlying62
  a46 := Tryd.isAgg62
  z46 := Tryd.sizeOf62
  v46 := Tryd.zeroValue62
  t53 := Tryd.underlying75
  a53 := Tryd.isAgg75
  z53 := Tryd.sizeOf75
  v53 := Tryd.zeroValue75 }
end Go.Proofs
