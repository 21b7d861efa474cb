/-
  Bytes to a string, in every later world.
-/
import Derived.Test.YtclhnfalebiieaaDoorLay
set_option linter.unusedVariables false
set_option linter.unusedSimpArgs false
namespace Go.Proofs.YtclhnfalebiieaaDoor
open Go.RowKit

/-- a conversion of bytes that lie in an old world, in every later world -/
def ConvIn (w : World) (A : Option Addr) (n c : Nat) (l : List UInt8) : Prop := ∀ W, Below w.heap.size w W → (convert 25 9 (.slice A n c)).run Tryd.prog W = .ok (.string ⟨l.toArray⟩) W
theorem Sl.conv {w : World} {A : Option Addr} {n c : Nat} {l : List UInt8} (h : Sl w 1 A n c (bvs l)) : ConvIn w A n c l := fun W hb =>
  run_sl_string W _ _ _ Tryd.underlying25 Tryd.underlying5 Tryd.underlying9 A n c l (h.mono hb)

end Go.Proofs.YtclhnfalebiieaaDoor
