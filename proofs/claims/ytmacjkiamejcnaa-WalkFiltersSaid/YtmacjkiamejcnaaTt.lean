/-
  The raw runs of joined, mend, put and remove of a tree's nodes.
-/
import Derived.Test.YtmacjkiamejcnaaTs
import Derived.Test.YtmacjkiamejcnaaSa
import Derived.Test.YtmacjkiamejcnaaSb
import Derived.Test.YtmacjkiamejcnaaSGf
set_option linter.unusedVariables false
set_option linter.unusedSimpArgs false
set_option maxRecDepth 100000
namespace Go.Proofs.Ytmacjkiamejcnaa
open Go.RowKit
def tSize (g : List PV → Option Int) : PFn := ⟨fun xs k => match xs with | [.eptr cs] => (g cs).bind fun n => k (.int .i64 n) | _ => none, false⟩
def tJoin (g : List PV → List PV → Option (Nat × List PV)) : PFn := ⟨fun xs k => match xs with | [.eptr a, .eptr b] => (g a b).bind fun r => k (.sl (some false) 1 r.1 r.2) | _ => none, false⟩
def tMend (g : Nat → List PV → Int → Option (Nat × List PV)) : PFn := ⟨fun xs k => match xs with | [.sl (some false) 1 n c, .int .i64 i] => (g n c i).bind fun r => k (.sl (some false) 1 r.1 r.2) | _ => none, false⟩
def tPlace (g : List PV → Ky → Option (Int × Bool)) : PFn := ⟨fun xs k => match xs with | [.eptr cs, .str s] => (g cs s).bind fun r => k (.tuple [.int .i64 r.1, .bool r.2]) | _ => none, false⟩
def tKid (g : List PV → Ky → Option Int) : PFn := ⟨fun xs k => match xs with | [.eptr cs, .str s] => (g cs s).bind fun r => k (.int .i64 r) | _ => none, false⟩
def tPut (g : List PV → Ky → PV → Option (Nat × List PV × Bool)) : PFn := ⟨fun xs k => match xs with | [.eptr cs, .str s, .int .i64 v] => (g cs s (.int .i64 v)).bind fun r => k (.tuple [.sl (some false) 1 r.1 r.2.1, .bool r.2.2]) | _ => none, false⟩
def tRem (g : List PV → Ky → Option (Bool × List PV)) : PFn := ⟨fun xs k => match xs with | [.eptr cs, .str s] => (g cs s).bind fun r => bif r.1 then k .nilptr else k (.eptr r.2) | _ => none, false⟩
/-! ## joined -/
noncomputable def lJn (gs : List PV → Option (Nat × List PV)) : List (FuncId × PFn) := [(71, p_leaf), (109, p_cat_s), (110, p_cat_i), (111, p_cat_n), (67, p_lf), (69, p_ab), (84, tSplit gs)]
noncomputable def enJn (gs : List PV → Option (Nat × List PV)) : Env := enR (enA (lJn gs) [] [] [] []) []
theorem jn_raw0 (gs : List PV → Option (Nat × List PV)) (k1 v1 k2 v2 : Nat) (kc1 vc1 kc2 vc2 : List PV) (c1 c2 : Int) :
    prun (enJn gs) ⟨[], []⟩ 0 false Try.f103 [ndV none k1 kc1 none v1 vc1 true 0 [] c1, ndV none k2 kc2 none v2 vc2 true 0 [] c2] =
      p_cat_s.F [.sl (some false) 1 2 [.sl none 1 k1 kc1, .sl none 1 k2 kc2]] fun x => p_cat_i.F [.sl (some false) 1 2 [.sl none 1 v1 vc1, .sl none 1 v2 vc2]] fun y => p_lf.F [x, y] fun z => (tSplit gs).F [z] some := by kernel_rfl
theorem jn_rawS (gs : List PV → Option (Nat × List PV)) (k1 k2 i1 i2 : Nat) (kc1 kc2 ic1 ic2 : List PV) (c1 c2 : Int) :
    prun (enJn gs) ⟨[], []⟩ 0 false Try.f103 [ndV none k1 kc1 (some true) 0 [] false i1 ic1 c1, ndV none k2 kc2 (some true) 0 [] false i2 ic2 c2] =
      p_cat_n.F [.sl (some false) 1 2 [.sl (some false) 1 i1 ic1, .sl (some false) 1 i2 ic2]] fun x => p_ab.F [x] fun z => (tSplit gs).F [z] some := by kernel_rfl
/-! ## mend -/
noncomputable def lMd (gz : List PV → Option Int) (gj : List PV → List PV → Option (Nat × List PV)) : List (FuncId × PFn) := [(98, tSize gz), (103, tJoin gj)]
noncomputable def lnN : List (FuncId × NFn) := [(86, p_clone_n)]
noncomputable def lcN : List (FuncId × CFn) := [(85, p_replace), (89, p_delete_n)]
noncomputable def enMd (gz : List PV → Option Int) (gj : List PV → List PV → Option (Nat × List PV)) : Env := enR (enA (lMd gz gj) [] [] lnN lcN) [93]
def kidAt {R : Type} (n : Nat) (c : List PV) (i : Int) (k : List PV → Option R) : Option R :=
  bif decide (0 ≤ i) && decide (i < (n : Int)) then ((c.drop (i.toNat * 1)).take 1).head?.bind fun v => v.asE.bind fun es => k es else none
def endC (n : Nat) (c : List PV) (k : PV → Option PV) : Option PV := bif decide (n * 1 ≤ c.length) then k (.sl (some false) 1 n (c.take (n * 1))) else none
def mdK (gj : List PV → List PV → Option (Nat × List PV)) (n : Nat) (c : List PV) (j : Int) : Option PV :=
  bif decide (0 < n) && decide (n ≤ 1000000) then kidAt n c j fun es => kidAt n c (IntKind.i64.wrap (j + 1)) fun fs => (gj es fs).bind fun r =>
    p_replace.F 1 n c [.int .i64 j, .int .i64 (IntKind.i64.wrap (j + 2)), .sl (some false) 1 r.1 r.2] fun n' c' => endC n' c' some
  else none
theorem md_raw (gz : List PV → Option Int) (gj : List PV → List PV → Option (Nat × List PV)) (n : Nat) (c : List PV) (i : Int) :
    prun (enMd gz gj) ⟨[], []⟩ 0 false Try.f90 [.sl (some false) 1 n c, .int .i64 i] =
      bif !decide ((n : Int) ≤ i) then kidAt n c i fun es => (gz es).bind fun z =>
        bif !decide (4 ≤ z) then bif (n : Int) == 1 then some (.sl (some false) 1 n c) else mdK gj n c (if 0 > IntKind.i64.wrap (i - 1) then 0 else IntKind.i64.wrap (i - 1))
        else some (.sl (some false) 1 n c)
      else some (.sl (some false) 1 n c) := by kernel_rfl
end Go.Proofs.Ytmacjkiamejcnaa
