/-
  (*tree.node).split: its raw run.
-/
import Derived.Test.YtmacjkiamejcnaaTc
set_option linter.unusedVariables false
set_option linter.unusedSimpArgs false
set_option maxRecDepth 100000
namespace Go.Proofs.Ytmacjkiamejcnaa
open Go.RowKit
noncomputable def lSp : List (FuncId × PFn) := [(71, p_leaf), (98, p_size), (67, p_leafOf), (69, p_above)]
theorem okl_sp : AllOK NGt Wt lSp := allOK_cons ok_leaf (allOK_cons ok_size (allOK_cons ok_leafOf (allOK_cons ok_above allOK_nil)))
def ndV (kn : Option Bool) (kl : Nat) (kc : List PV) (vn : Option Bool) (vl : Nat) (vc : List PV) (ni : Bool) (il : Nat) (ic : List PV) (c : Int) : PV := .eptr [.sl kn 1 kl kc, .sl vn 1 vl vc, .sl (some ni) 1 il ic, .int .i64 c]
noncomputable def spK (a : Int) (kn : Option Bool) (kl : Nat) (kc : List PV) (vn : Option Bool) (vl : Nat) (vc : List PV) (ni : Bool) (il : Nat) (ic : List PV) : Option PV :=
  bif ni then
    bif decide (0 ≤ a) && decide (a ≤ (kl : Int)) then bif decide (0 ≤ a) && decide (a ≤ (a.toNat : Int)) then
    bif decide (0 ≤ a) && decide (a ≤ (vl : Int)) then bif decide (0 ≤ a) && decide (a ≤ (a.toNat : Int)) then
    bif decide (0 ≤ a) && decide (a ≤ (kl : Int)) then bif decide (0 ≤ a) && decide (a ≤ (vl : Int)) then
      some (.sl (some false) 1 2 [.eptr [.sl kn 1 (a.toNat - 0) (List.drop (0 * 1) (List.take (a.toNat * 1) kc)), .sl vn 1 (a.toNat - 0) (List.drop (0 * 1) (List.take (a.toNat * 1) vc)), .sl (some true) 1 0 [], .int .i64 ((a.toNat - 0 : Nat) : Int)],
        .eptr [.sl kn 1 (kl - a.toNat) (List.drop (a.toNat * 1) (List.take (kl * 1) kc)), .sl vn 1 (vl - a.toNat) (List.drop (a.toNat * 1) (List.take (vl * 1) vc)), .sl (some true) 1 0 [], .int .i64 ((kl - a.toNat : Nat) : Int)]])
    else none else none else none else none else none else none
  else
    bif decide (0 ≤ a) && decide (a ≤ (il : Int)) then bif decide (0 ≤ a) && decide (a ≤ (a.toNat : Int)) then
      p_above.F [.sl (some ni) 1 (a.toNat - 0) (List.drop (0 * 1) (List.take (a.toNat * 1) ic))] fun x =>
      bif decide (0 ≤ a) && decide (a ≤ (il : Int)) then
        p_above.F [.sl (some ni) 1 (il - a.toNat) (List.drop (a.toNat * 1) (List.take (il * 1) ic))] fun y => some (.sl (some false) 1 2 [x, y])
      else none
    else none else none
theorem sp_raw (kn : Option Bool) (kl : Nat) (kc : List PV) (vn : Option Bool) (vl : Nat) (vc : List PV) (ni : Bool) (il : Nat) (ic : List PV) (c : Int) :
    prun (en lSp) ⟨[], []⟩ 0 false Try.f84 [ndV kn kl kc vn vl vc ni il ic c] =
      bif decide ((kl : Int) ≤ 8) then some (.sl (some false) 1 1 [ndV kn kl kc vn vl vc ni il ic c]) else spK (IntKind.i64.wrap ((kl : Int).tdiv 2)) kn kl kc vn vl vc ni il ic := by kernel_rfl
end Go.Proofs.Ytmacjkiamejcnaa
