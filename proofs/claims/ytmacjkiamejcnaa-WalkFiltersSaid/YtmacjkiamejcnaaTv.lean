/-
  The raw runs of put and remove of a tree's nodes.
-/
import Derived.Test.YtmacjkiamejcnaaTu
import Derived.Test.YtmacjkiamejcnaaSd
set_option linter.unusedVariables false
set_option linter.unusedSimpArgs false
set_option maxRecDepth 100000
namespace Go.Proofs.Ytmacjkiamejcnaa
open Go.RowKit
noncomputable def lnP : List (FuncId × NFn) := [(80, p_clone_s), (81, p_clone_i), (86, p_clone_n)]
noncomputable def lcP : List (FuncId × CFn) := [(82, p_insert_s), (83, p_insert_i), (85, p_replace), (87, p_delete_s), (88, p_delete_i), (89, p_delete_n)]
/-! ## put -/
noncomputable def lPu (gp : List PV → Ky → Option (Int × Bool)) (gk : List PV → Ky → Option Int) (gs : List PV → Option (Nat × List PV)) (gu : List PV → Ky → PV → Option (Nat × List PV × Bool)) : List (FuncId × PFn) :=
  [(71, p_leaf), (73, tPlace gp), (74, tKid gk), (67, p_lf), (69, p_ab), (84, tSplit gs), (68, tPut gu)]
noncomputable def enPu (gp : List PV → Ky → Option (Int × Bool)) (gk : List PV → Ky → Option Int) (gs : List PV → Option (Nat × List PV)) (gu : List PV → Ky → PV → Option (Nat × List PV × Bool)) : Env := enR (enA (lPu gp gk gs gu) [] [] lnP lcP) [93]
def hPu : Hints := ⟨[(1000007, ⟨[(10, false), (11, false)], []⟩)], []⟩
def clG {R : Type} (n : Nat) (k : Option R) : Option R := bif decide (0 < n) && decide (n ≤ 1000000) then k else none
/-- a slice in place becomes data -/
def frC (n : Nat) (c : List PV) (k : PV → Option PV) : Option PV := bif decide (0 + n * 1 ≤ c.length) then k (.sl (some false) 1 n ((c.drop 0).take (n * 1))) else none
def puSt (v1 : Nat) (vc : List PV) (i : Int) (v : PV) (k : List PV → Option PV) : Option PV :=
  bif decide (0 ≤ i) && decide (i < (v1 : Int)) then bif decide (0 + i.toNat * 1 + 1 ≤ vc.length) then k (vc.take (0 + i.toNat * 1) ++ [v] ++ vc.drop (0 + i.toNat * 1 + 1)) else none else none
theorem pu_raw0 (gp : List PV → Ky → Option (Int × Bool)) (gk : List PV → Ky → Option Int) (gs : List PV → Option (Nat × List PV)) (gu : List PV → Ky → PV → Option (Nat × List PV × Bool)) (k1 v1 : Nat) (kc vc : List PV) (c : Int) (s : Ky) (v : Int) :
    prun (enPu gp gk gs gu) hPu 0 false Try.f68 [ndV none k1 kc none v1 vc true 0 [] c, .str s, .int .i64 v] =
      (gp [.sl none 1 k1 kc, .sl none 1 v1 vc, .sl (some true) 1 0 [], .int .i64 c] s).bind fun r => clG k1 (clG v1 (
        bif r.2 then puSt v1 vc r.1 (.int .i64 v) fun vc' => frC k1 kc fun x => frC v1 vc' fun y => p_lf.F [x, y] fun z => (tSplit gs).F [z] fun q => some (.tuple [q, .bool (!r.2)])
        else p_insert_s.F 1 k1 kc [.int .i64 r.1, .sl (some false) 1 1 [.str s]] fun n c => endC n c fun x => p_insert_i.F 1 v1 vc [.int .i64 r.1, .sl (some false) 1 1 [.int .i64 v]] fun m e => endC m e fun y =>
          p_lf.F [x, y] fun z => (tSplit gs).F [z] fun q => some (.tuple [q, .bool (!r.2)]))) := by kernel_rfl
theorem pu_rawS (gp : List PV → Ky → Option (Int × Bool)) (gk : List PV → Ky → Option Int) (gs : List PV → Option (Nat × List PV)) (gu : List PV → Ky → PV → Option (Nat × List PV × Bool)) (k1 i1 : Nat) (kc ic : List PV) (c : Int) (s : Ky) (v : Int) :
    prun (enPu gp gk gs gu) hPu 0 false Try.f68 [ndV none k1 kc (some true) 0 [] false i1 ic c, .str s, .int .i64 v] =
      (gk [.sl none 1 k1 kc, .sl (some true) 1 0 [], .sl (some false) 1 i1 ic, .int .i64 c] s).bind fun i => kidAt i1 ic i fun es => (gu es s (.int .i64 v)).bind fun r => clG i1 (
        p_replace.F 1 i1 ic [.int .i64 i, .int .i64 (IntKind.i64.wrap (i + 1)), .sl (some false) 1 r.1 r.2.1] fun n' c' => endC n' c' fun x => p_ab.F [x] fun z => (tSplit gs).F [z] fun q => some (.tuple [q, .bool r.2.2])) := by kernel_rfl
/-! ## remove -/
noncomputable def lRm (gp : List PV → Ky → Option (Int × Bool)) (gk : List PV → Ky → Option Int) (gm : Nat → List PV → Int → Option (Nat × List PV)) (gr : List PV → Ky → Option (Bool × List PV)) : List (FuncId × PFn) :=
  [(71, p_leaf), (73, tPlace gp), (74, tKid gk), (67, p_lf), (69, p_ab), (90, tMend gm), (70, tRem gr)]
noncomputable def enRm (gp : List PV → Ky → Option (Int × Bool)) (gk : List PV → Ky → Option Int) (gm : Nat → List PV → Int → Option (Nat × List PV)) (gr : List PV → Ky → Option (Bool × List PV)) : Env := enR (enA (lRm gp gk gm gr) [] [] lnP lcP) [93]
def hRm : Hints := ⟨[(1000014, ⟨[(10, false)], []⟩)], []⟩
theorem rm_raw0 (gp : List PV → Ky → Option (Int × Bool)) (gk : List PV → Ky → Option Int) (gm : Nat → List PV → Int → Option (Nat × List PV)) (gr : List PV → Ky → Option (Bool × List PV)) (k1 v1 : Nat) (kc vc : List PV) (c : Int) (s : Ky) :
    prun (enRm gp gk gm gr) hRm 0 false Try.f70 [ndV none k1 kc none v1 vc true 0 [] c, .str s] =
      (gp [.sl none 1 k1 kc, .sl none 1 v1 vc, .sl (some true) 1 0 [], .int .i64 c] s).bind fun r => clG k1 (clG v1 (
        p_delete_s.F 1 k1 kc [.int .i64 r.1, .int .i64 (IntKind.i64.wrap (r.1 + 1))] fun n c => endC n c fun x => p_delete_i.F 1 v1 vc [.int .i64 r.1, .int .i64 (IntKind.i64.wrap (r.1 + 1))] fun m e => endC m e fun y =>
          bif (n : Int) == 0 then some .nilptr else p_lf.F [x, y] some)) := by kernel_rfl
theorem rm_rawS (gp : List PV → Ky → Option (Int × Bool)) (gk : List PV → Ky → Option Int) (gm : Nat → List PV → Int → Option (Nat × List PV)) (gr : List PV → Ky → Option (Bool × List PV)) (k1 i1 : Nat) (kc ic : List PV) (c : Int) (s : Ky) :
    prun (enRm gp gk gm gr) hRm 0 false Try.f70 [ndV none k1 kc (some true) 0 [] false i1 ic c, .str s] =
      (gk [.sl none 1 k1 kc, .sl (some true) 1 0 [], .sl (some false) 1 i1 ic, .int .i64 c] s).bind fun i => clG i1 (
        bif decide (0 ≤ i) && decide (i < (i1 : Int)) then (ic.drop (0 + i.toNat * 1)).head?.bind fun x => x.asE.bind fun es => (gr es s).bind fun r =>
          bif r.1 then p_delete_n.F 1 i1 ic [.int .i64 i, .int .i64 (IntKind.i64.wrap (i + 1))] fun n c => endC n c fun y => (tMend gm).F [y, .int .i64 i] fun z => p_ab.F [z] some
          else puSt i1 ic i (.eptr r.2) fun c' => frC i1 c' fun y => (tMend gm).F [y, .int .i64 i] fun z => p_ab.F [z] some
        else none) := by kernel_rfl
end Go.Proofs.Ytmacjkiamejcnaa
