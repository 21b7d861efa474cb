/-
  Nodes: Passes and All, the program's and the reference's; the law EvalLists.
-/
import Derived.Test.YtelckbphbkebkaaGreatDoorVo
set_option linter.unusedVariables false
set_option linter.unusedSimpArgs false
set_option maxRecDepth 100000
namespace Go.Proofs.YtelckbphbkebkaaGreatDoor
open Go.RowKit

abbrev PaT := Nat → List PV → Nat → List PV → Option (Bool × Int)
def p_pa (g : PaT) : PFn := ⟨fun xs k => match xs with | [.sl _ 11 n c, .sl _ 4 rl rc] => (g n c rl rc).bind fun r => k (.tuple [.bool r.1, .int .i64 r.2]) | _ => none, false⟩
theorem p_pa_nat (g : PaT) : (p_pa g).nat := by
  intro R xs k
  simp only [p_pa]
  split
  · rename_i z n c y rl rc
    cases g n c rl rc <;> rfl
  · rfl
def paS (g : Ev1) : List NdC → Option (Bool × Int)
  | [] => some (true, 0)
  | y :: ys => (g y).bind fun a => bif !(a.2 == 0) then some (false, a.2) else bif !(trS a.1 == 1) then some (false, 0) else paS g ys
def paG (g : EvT) : PaT := fun n c rl rc => (decG 11 ndG n c).bind fun l => bif decide (l.length ≤ 1000000) then paS (fun y => g y rl rc) l else none
def resPB (r : Bool × Int) : PV := .tuple [.bool r.1, .int .i64 r.2]
def hPa : Hints := ⟨[], [(0, ⟨[(1, false), (10, false), (11, false), (12, false)], []⟩)]⟩
/-! ## Passes -/
def frPa (y1 : Option Bool) (rl : Nat) (rc : List PV) (z : Option Bool) (m : Nat) (d : List PV) (L i : Int) : St :=
  frame 31 [(1, (.sl y1 4 rl rc, 0)), (10, (.sl z 11 m d, 0)), (11, (.int .i64 L, 0)), (12, (.int .i64 i, 0))] []
noncomputable def lPa (g : EvT) : List (FuncId × PFn) := [(10, p_ev g), (35, p_tr)]
noncomputable def paLoop (g : EvT) (fu n : Nat) (st : St) : Option PV := loopF (en (lPa g)) hPa fu false Tryz.f17 [1, 0, 1, 0] 0 n st
theorem pa_raw (g : EvT) (fu : Nat) (z : Option Bool) (m : Nat) (d : List PV) (y1 : Option Bool) (rl : Nat) (rc : List PV) : prun (en (lPa g)) hPa fu false Tryz.f17 [.sl z 11 m d, .sl y1 4 rl rc] = paLoop g fu fu (frPa y1 rl rc z m d (m : Int) 0) := prunN_eq.trans (by kernel_rfl)
theorem pa_step (g : EvT) (fu : Nat) (y1 : Option Bool) (rl : Nat) (rc : List PV) (z : Option Bool) (m : Nat) (d : List PV) (L i : Int) (K : St → Option PV) :
    stepF (en (lPa g)) hPa fu false Tryz.f17 [1, 0, 1, 0] (frPa y1 rl rc z m d L i) (fun st => pnorm (hPa.loop.lookup 0) st K) =
    bif decide (i < L) then at11 m d i fun y => (g y rl rc).bind fun a => bif !!(a.2 == 0) then (trO a.1 fun t => bif !(t == 1) then some (resPB (false, a.2)) else K (frPa y1 rl rc z m d L (IntKind.i64.wrap (i + 1)))) else some (resPB (false, a.2))
    else some (resPB (true, 0)) := by kernel_rfl
/-! ## Passes of the reference -/
def frRp (y1 : Option Bool) (rl : Nat) (rc : List PV) (z : Option Bool) (m : Nat) (d : List PV) (L i : Int) : St :=
  frame 29 [(1, (.sl y1 4 rl rc, 0)), (10, (.sl z 11 m d, 0)), (11, (.int .i64 L, 0)), (12, (.int .i64 i, 0))] []
noncomputable def lRp (g : EvT) : List (FuncId × PFn) := [(36, p_ev g), (13, p_rtr)]
noncomputable def rpaLoop (g : EvT) (fu n : Nat) (st : St) : Option PV := loopF (en (lRp g)) hPa fu false Tryz.f18 [1, 0, 1, 0] 0 n st
theorem rpa_raw (g : EvT) (fu : Nat) (z : Option Bool) (m : Nat) (d : List PV) (y1 : Option Bool) (rl : Nat) (rc : List PV) : prun (en (lRp g)) hPa fu false Tryz.f18 [.sl z 11 m d, .sl y1 4 rl rc] = rpaLoop g fu fu (frRp y1 rl rc z m d (m : Int) 0) := prunN_eq.trans (by kernel_rfl)
theorem rpa_step (g : EvT) (fu : Nat) (y1 : Option Bool) (rl : Nat) (rc : List PV) (z : Option Bool) (m : Nat) (d : List PV) (L i : Int) (K : St → Option PV) :
    stepF (en (lRp g)) hPa fu false Tryz.f18 [1, 0, 1, 0] (frRp y1 rl rc z m d L i) (fun st => pnorm (hPa.loop.lookup 0) st K) =
    bif decide (i < L) then at11 m d i fun y => (g y rl rc).bind fun a => bif !(a.2 == 0) then some (resPB (false, a.2)) else bif !(rtrS a.1 == 1) then some (resPB (false, 0)) else K (frRp y1 rl rc z m d L (IntKind.i64.wrap (i + 1)))
    else some (resPB (true, 0)) := by kernel_rfl
/-! ## All of the reference -/
noncomputable def raLoop (g : EvT) (fu n : Nat) (st : St) : Option PV := loopF (en [(36, p_ev g)]) hAl fu false Tryz.f20 [1, 1, 0, 1, 0] 0 n st
theorem ra_raw (g : EvT) (fu : Nat) (z : Option Bool) (m : Nat) (d : List PV) (y1 : Option Bool) (rl : Nat) (rc : List PV) : prun (en [(36, p_ev g)]) hAl fu false Tryz.f20 [.sl z 11 m d, .sl y1 4 rl rc] = raLoop g fu fu (frAl y1 rl rc (some true) 0 [] z m d (m : Int) 0) := prunN_eq.trans (by kernel_rfl)
theorem ra_step (g : EvT) (fu : Nat) (y1 : Option Bool) (rl : Nat) (rc : List PV) (n6 : Option Bool) (l6 : Nat) (c6 : List PV) (z : Option Bool) (m : Nat) (d : List PV) (L i : Int) (K : St → Option PV) :
    stepF (en [(36, p_ev g)]) hAl fu false Tryz.f20 [1, 1, 0, 1, 0] (frAl y1 rl rc n6 l6 c6 z m d L i) (fun st => pnorm (hAl.loop.lookup 0) st K) =
    bif decide (i < L) then at11 m d i fun y => (g y rl rc).bind fun a => bif !(a.2 == 0) then some (.tuple [.sl (some true) 4 0 [], .int .i64 a.2]) else roomA l6 1 (K (frAl y1 rl rc (n6.map (· && false)) (l6 + 1) (c6 ++ vqs a.1) z m d L (IntKind.i64.wrap (i + 1))))
    else some (.tuple [.sl n6 4 l6 c6, .int .i64 0]) := by kernel_rfl
/-! ## the law -/
def hEs : Hints := ⟨[], [(2, ⟨[(11, false), (13, false), (81, false), (82, false)], []⟩), (0, ⟨[(0, false), (1, false), (26, false), (27, false), (28, false)], []⟩)]⟩
def frE0 (y1 : Option Bool) (rl : Nat) (rc : List PV) (z : Option Bool) (m : Nat) (d : List PV) (L i : Int) : St :=
  frame 95 [(0, (.sl z 11 m d, 0)), (1, (.sl y1 4 rl rc, 0)), (26, (.sl z 11 m d, 0)), (27, (.int .i64 L, 0)), (28, (.int .i64 i, 0))] []
def frE2 (n1 : Option Bool) (l1 : Nat) (c1 : List PV) (n2 : Option Bool) (l2 : Nat) (c2 : List PV) (L i : Int) : St :=
  frame 95 [(11, (.sl n1 4 l1 c1, 0)), (13, (.sl n2 4 l2 c2, 0)), (81, (.int .i64 L, 0)), (82, (.int .i64 i, 0))] []
noncomputable def lEs (gz : SzT) (pa : PaT) (al : AlT) : List (FuncId × PFn) := [(7, p_true0), (8, p_sz gz), (9, p_sm), (17, p_pa pa), (18, p_pa pa), (19, p_al al), (20, p_al al)]
noncomputable def e0Loop (gz : SzT) (pa : PaT) (al : AlT) (fu n : Nat) (st : St) : Option PV := loopF (en (lEs gz pa al)) hEs fu false Tryz.f5 [1, 1, 1, 0, 1, 0] 0 n st
noncomputable def e2Loop (gz : SzT) (pa : PaT) (al : AlT) (fu n : Nat) (st : St) : Option PV := loopF (en (lEs gz pa al)) hEs fu false Tryz.f5 [1, 1, 1, 1, 1, 1, 1, 1, 1, 0, 1, 0] 2 n st
theorem es_raw (gz : SzT) (pa : PaT) (al : AlT) (fu : Nat) (z : Option Bool) (m : Nat) (d : List PV) (y1 : Option Bool) (rl : Nat) (rc : List PV) : prun (en (lEs gz pa al)) hEs fu false Tryz.f5 [.sl z 11 m d, .sl y1 4 rl rc] =
    bif !decide (20 < (m : Int)) then (smO rl rc fun b => bif !b then some (.bool true) else e0Loop gz pa al fu fu (frE0 y1 rl rc z m d (m : Int) 0)) else some (.bool true) := prunN_eq.trans (by kernel_rfl)
noncomputable def esB (gz : SzT) (pa : PaT) (al : AlT) (fu : Nat) (y1 : Option Bool) (rl : Nat) (rc : List PV) (z : Option Bool) (m : Nat) (d : List PV) : Option PV :=
  (pa m d rl rc).bind fun r1 => (pa m d rl rc).bind fun r2 => (al m d rl rc).bind fun r3 => (al m d rl rc).bind fun r4 =>
  bif !(bif (bif !(r1.1 == r2.1) then true else !(r1.2 == r2.2)) then true else !(r3.2 == r4.2)) then (bif !((r3.1.length : Int) == (r4.1.length : Int)) then some (.bool false) else e2Loop gz pa al fu fu (frE2 (some r3.1.isEmpty) r3.1.length (rowC r3.1) (some r4.1.isEmpty) r4.1.length (rowC r4.1) (r3.1.length : Int) 0)) else some (.bool false)
theorem es_step0 (gz : SzT) (pa : PaT) (al : AlT) (fu : Nat) (y1 : Option Bool) (rl : Nat) (rc : List PV) (z : Option Bool) (m : Nat) (d : List PV) (L i : Int) (K : St → Option PV) :
    stepF (en (lEs gz pa al)) hEs fu false Tryz.f5 [1, 1, 1, 0, 1, 0] (frE0 y1 rl rc z m d L i) (fun st => pnorm (hEs.loop.lookup 0) st K) =
    bif decide (i < L) then at11 m d i fun y => (gz y 60).bind fun s => bif decide (500 < s) then some (.bool true) else K (frE0 y1 rl rc z m d L (IntKind.i64.wrap (i + 1)))
    else esB gz pa al fu y1 rl rc z m d := (stepF_eq rfl).trans (by kernel_rfl)
theorem es_step2 (gz : SzT) (pa : PaT) (al : AlT) (fu : Nat) (n1 : Option Bool) (l1 : Nat) (c1 : List PV) (n2 : Option Bool) (l2 : Nat) (c2 : List PV) (L i : Int) (K : St → Option PV) :
    stepF (en (lEs gz pa al)) hEs fu false Tryz.f5 [1, 1, 1, 1, 1, 1, 1, 1, 1, 0, 1, 0] (frE2 n1 l1 c1 n2 l2 c2 L i) (fun st => pnorm (hEs.loop.lookup 2) st K) =
    bif decide (i < L) then at4 l1 c1 i fun v => at4 l2 c2 i fun w => bif !eqV v w then some (.bool false) else K (frE2 n1 l1 c1 n2 l2 c2 L (IntKind.i64.wrap (i + 1)))
    else some (.bool true) := by kernel_rfl
end Go.Proofs.YtelckbphbkebkaaGreatDoor
