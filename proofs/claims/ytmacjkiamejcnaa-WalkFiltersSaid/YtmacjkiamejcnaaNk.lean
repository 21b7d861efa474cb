/-
  WalkFilters: List over Take over Map over Values over Filter over From: raw runs (printed by gen/wf.py).
-/
import Derived.Test.YtmacjkiamejcnaaNh
set_option linter.unusedVariables false
set_option linter.unusedSimpArgs false
set_option maxRecDepth 100000
namespace Go.Proofs.Ytmacjkiamejcnaa.Wf
open Go.RowKit
def nil1 : PV := .sl (some true) 1 0 []
def bsL (nn a u m : Int) (x : PV) : List (List PV) := [[.clo 62 [.ptr 2 0, .ptr 3 0]], [.int .i64 nn], [.clo 63 [.ptr 4 0]], [.clo 27 [.ptr 5 0]], [.clo 59 [.ptr 6 0, .ptr 7 0]], [.int .i64 u], [.clo 60 [.ptr 8 0, .ptr 9 0]], [.clo 24 [.ptr 10 0, .ptr 11 0]], [.ptr 12 0], [.str []], [.int .i64 a], [.int .i64 m], [x]]
def bsT (nn a u m : Int) (x : PV) : List (List PV) := [[.clo 62 [.ptr 2 0, .ptr 3 0]], [.int .i64 nn], [.clo 63 [.ptr 4 0]], [.clo 27 [.ptr 5 0]], [.clo 59 [.ptr 6 0, .ptr 7 0]], [.int .i64 u], [.clo 60 [.ptr 8 0, .ptr 9 0]], [.clo 24 [.ptr 10 0, .ptr 11 0]], [.ptr 12 0], [.str []], [.int .i64 a], [.int .i64 m], [x]]
def bsM (nn a u m : Int) (x : PV) : List (List PV) := [[.clo 63 [.ptr 2 0]], [.clo 27 [.ptr 3 0]], [.clo 59 [.ptr 4 0, .ptr 5 0]], [.int .i64 u], [.clo 60 [.ptr 6 0, .ptr 7 0]], [.clo 24 [.ptr 8 0, .ptr 9 0]], [.ptr 10 0], [.str []], [.int .i64 a], [.int .i64 m], [x]]
def bsV (nn a u m : Int) (x : PV) : List (List PV) := [[.clo 59 [.ptr 1 0, .ptr 2 0]], [.clo 60 [.ptr 3 0, .ptr 4 0]], [.clo 24 [.ptr 5 0, .ptr 6 0]], [.ptr 7 0], [.str []], [.int .i64 a], [.int .i64 m], [x]]
def bsF (nn a u m : Int) (x : PV) : List (List PV) := [[.clo 60 [.ptr 2 0, .ptr 3 0]], [.clo 24 [.ptr 4 0, .ptr 5 0]], [.ptr 6 0], [.str []], [.int .i64 a], [.int .i64 m], [x]]
def rhoL : List TV := (List.range 22).map fun i => (([(0, (.clo 64 [.ptr 22 0, .ptr 23 0], 0)), (1, (.int .i64 1000, 0)), (3, (.ptr 35 0, 0)), (4, (.ptr 36 0, 0)), (5, (.ptr 37 0, 0)), (6, (.ptr 38 0, 0)), (8, (.clo 64 [.ptr 22 0, .ptr 23 0], 0)), (9, (.bool false, 0)), (10, (.clo 64 [.ptr 22 0, .ptr 23 0], 0))] : List (Nat × TV)).lookup i).getD (.tuple [], 0)
def rhoT (nn : Int) : List TV := (List.range 25).map fun i => (([(0, (.yld, 0)), (1, (.ptr 25 0, 0)), (2, (.ptr 26 0, 0)), (3, (.ptr 38 0, 0)), (4, (.ptr 39 0, 0)), (6, (.clo 62 [.ptr 27 0, .ptr 28 0], 0)), (7, (.bool false, 0)), (8, (.bool false, 0)), (9, (.int .i64 nn, 0)), (10, (.bool (decide (nn ≤ 0)), 0)), (11, (.bool (decide (nn ≤ 0)), 0)), (12, (.int .i64 nn, 0)), (13, (.clo 62 [.ptr 27 0, .ptr 28 0], 0))] : List (Nat × TV)).lookup i).getD (.tuple [], 0)
def rhoM : List TV := (List.range 19).map fun i => (([(0, (.yld, 0)), (1, (.ptr 19 0, 0)), (2, (.ptr 20 0, 0)), (3, (.ptr 30 0, 0)), (5, (.clo 63 [.ptr 21 0], 0)), (6, (.bool false, 0)), (7, (.bool false, 0)), (8, (.clo 27 [.ptr 22 0], 0)), (9, (.bool false, 0)), (10, (.bool false, 0)), (11, (.clo 63 [.ptr 21 0], 0))] : List (Nat × TV)).lookup i).getD (.tuple [], 0)
def rhoV : List TV := (List.range 14).map fun i => (([(0, (.yld, 0)), (1, (.ptr 14 0, 0)), (2, (.ptr 22 0, 0)), (5, (.clo 59 [.ptr 15 0, .ptr 16 0], 0)), (6, (.bool false, 0)), (7, (.clo 59 [.ptr 15 0, .ptr 16 0], 0))] : List (Nat × TV)).lookup i).getD (.tuple [], 0)
def rhoF : List TV := (List.range 26).map fun i => (([(0, (.yld, 0)), (1, (.ptr 26 0, 0)), (2, (.ptr 27 0, 0)), (3, (.ptr 33 0, 0)), (6, (.clo 60 [.ptr 28 0, .ptr 29 0], 0)), (7, (.bool false, 0)), (8, (.clo 60 [.ptr 28 0, .ptr 29 0], 0))] : List (Nat × TV)).lookup i).getD (.tuple [], 0)
def bxL (nn a u m : Int) (x : PV) (out : PV) : List (Option (List TV)) := [some [(.clo 62 [.ptr 24 0, .ptr 25 0], 0)], some [(.int .i64 nn, 0)], some [(.clo 63 [.ptr 26 0], 0)], some [(.clo 27 [.ptr 27 0], 0)], some [(.clo 59 [.ptr 28 0, .ptr 29 0], 0)], some [(.int .i64 u, 0)], some [(.clo 60 [.ptr 30 0, .ptr 31 0], 0)], some [(.clo 24 [.ptr 32 0, .ptr 33 0], 0)], some [(.ptr 34 0, 0)], some [(.str [], 0)], some [(.int .i64 a, 0)], some [(.int .i64 m, 0)], some [(x, 0)], some [(.int .i64 1000, 0)], some [(nil1, 60)], some [(.bool false, 0)], some [(out, 62)]]
def bxT (nn a u m : Int) (x : PV) (k : Int) : List (Option (List TV)) := [some [(.clo 62 [.ptr 27 0, .ptr 28 0], 0)], some [(.int .i64 nn, 0)], some [(.clo 63 [.ptr 29 0], 0)], some [(.clo 27 [.ptr 30 0], 0)], some [(.clo 59 [.ptr 31 0, .ptr 32 0], 0)], some [(.int .i64 u, 0)], some [(.clo 60 [.ptr 33 0, .ptr 34 0], 0)], some [(.clo 24 [.ptr 35 0, .ptr 36 0], 0)], some [(.ptr 37 0, 0)], some [(.str [], 0)], some [(.int .i64 a, 0)], some [(.int .i64 m, 0)], some [(x, 0)], some [(.yld, 0)], some [(.int .i64 k, 0)]]
def bxM (nn a u m : Int) (x : PV) : List (Option (List TV)) := [some [(.clo 63 [.ptr 21 0], 0)], some [(.clo 27 [.ptr 22 0], 0)], some [(.clo 59 [.ptr 23 0, .ptr 24 0], 0)], some [(.int .i64 u, 0)], some [(.clo 60 [.ptr 25 0, .ptr 26 0], 0)], some [(.clo 24 [.ptr 27 0, .ptr 28 0], 0)], some [(.ptr 29 0, 0)], some [(.str [], 0)], some [(.int .i64 a, 0)], some [(.int .i64 m, 0)], some [(x, 0)], some [(.yld, 0)]]
def bxV (nn a u m : Int) (x : PV) : List (Option (List TV)) := [some [(.clo 59 [.ptr 15 0, .ptr 16 0], 0)], some [(.clo 60 [.ptr 17 0, .ptr 18 0], 0)], some [(.clo 24 [.ptr 19 0, .ptr 20 0], 0)], some [(.ptr 21 0, 0)], some [(.str [], 0)], some [(.int .i64 a, 0)], some [(.int .i64 m, 0)], some [(x, 0)], some [(.yld, 0)]]
def bxF (nn a u m : Int) (x : PV) : List (Option (List TV)) := [some [(.clo 60 [.ptr 28 0, .ptr 29 0], 0)], some [(.clo 24 [.ptr 30 0, .ptr 31 0], 0)], some [(.ptr 32 0, 0)], some [(.str [], 0)], some [(.int .i64 a, 0)], some [(.int .i64 m, 0)], some [(x, 0)], some [(.yld, 0)]]
noncomputable def fnL : Func := Try.f28
noncomputable def fnT : Func := Try.f64
noncomputable def fnM : Func := Try.f62
noncomputable def fnV : Func := Try.f63
noncomputable def fnF : Func := Try.f59
noncomputable def hKeep : HFn := hE0 Try.f24
noncomputable def hTurn : HFn := hE0 Try.f27
variable {R : Type} (gf : List PV → Ky → Option (List (Ky × PV)))
noncomputable def iFil : IFn := evalJ [] [(24, hKeep)] [(60, iWalk gf)] h0 0 fnF
noncomputable def iVal : IFn := evalJ [] [] [(59, iFil gf)] h0 0 fnV
noncomputable def iMap : IFn := evalJ [] [(27, hTurn)] [(63, iVal gf)] h0 0 fnM
noncomputable def iTak : IFn := evalJ [] [] [(62, iMap gf)] h0 0 fnT
noncomputable def enFL : Env := enH [] [] [(64, iTak gf)]
noncomputable def enFTp (p : IFn) : Env := enH [] [] [(62, p)]
noncomputable def enFT : Env := enFTp (iMap gf)
noncomputable def enFM : Env := enH [] [(27, hTurn)] [(63, iVal gf)]
noncomputable def enFV : Env := enH [] [] [(59, iFil gf)]
noncomputable def enFF : Env := enH [] [(24, hKeep)] [(60, iWalk gf)]
noncomputable def yL : YFn := rangeY [22, 23, 24, 25, 26, 27, 28, 29, 30, 31, 32, 33, 34] #[11] rhoL (fun {S} st k => rfRun (S := S) (enFL gf) h0 0 (subC [1, 1, 1, 0, 1, 0] (fnL.body.getD .skip)) [0] st k)
noncomputable def yTp (p : IFn) (nn : Int) : YFn := rangeY [27, 28, 29, 30, 31, 32, 33, 34, 35, 36, 37] #[14] (rhoT nn) (fun {S} st k => rfRun (S := S) { enFTp p with Y := some (13, yL gf) } h0 0 (subC [1, 1, 1, 1, 0] (fnT.body.getD .skip)) [0] st k)
noncomputable def yT (nn : Int) : YFn := yTp gf (iMap gf) nn
noncomputable def yM (nn : Int) : YFn := rangeY [21, 23, 24, 25, 26, 27, 28, 29] #[12] rhoM (fun {S} st k => rfRun (S := S) { enFM gf with Y := some (11, yT gf nn) } h0 0 (subC [1, 1, 1, 0] (fnM.body.getD .skip)) [0] st k)
noncomputable def yV (nn : Int) : YFn := rangeY [15, 16, 17, 18, 19, 20, 21] #[8, 9] rhoV (fun {S} st k => rfRun (S := S) { enFV gf with Y := some (8, yM gf nn) } h0 0 (subC [1, 1, 1, 0] (fnV.body.getD .skip)) [0] st k)
noncomputable def yFl (nn : Int) : YFn := rangeY [28, 29, 32] #[9, 10] rhoF (fun {S} st k => rfRun (S := S) { enFF gf with Y := some (7, yV gf nn) } h0 0 (subC [1, 1, 1, 0] (fnF.body.getD .skip)) [0] st k)
noncomputable def krL (kk : List (List PV) → PV → Option R) (st : St) : Option R := pfinH (enFL gf) 13 fnL st fun bs _ v => kk bs v
noncomputable def kL (kk : List (List PV) → PV → Option R) : List (List PV) → Out → PV → Option R := fun bs o _ => rangeEnd 22 [22, 23, 24, 25, 26, 27, 28, 29, 30, 31, 32, 33, 34] rhoL (jumpK 0 (fun st => pcode (enFL gf) h0 0 (subC [1, 1, 1, 1] (fnL.body.getD .skip)) (krL gf kk) 0 st (krL gf kk) []) (krL gf kk)) bs o
noncomputable def krTp (p : IFn) (kk : List (List PV) → PV → Option R) (st : St) : Option R := pfinH (enFTp p) 13 fnT st fun bs o v => if bs.length = 13 then kL gf kk bs o v else none
noncomputable def kTp (p : IFn) (nn : Int) (kk : List (List PV) → PV → Option R) : List (List PV) → Out → PV → Option R := fun bs o _ => rangeEnd 25 [27, 28, 29, 30, 31, 32, 33, 34, 35, 36, 37] (rhoT nn) (jumpK 0 (krTp gf p kk) (krTp gf p kk)) bs o
noncomputable def kT (nn : Int) (kk : List (List PV) → PV → Option R) : List (List PV) → Out → PV → Option R := kTp gf (iMap gf) nn kk
noncomputable def krM (nn : Int) (kk : List (List PV) → PV → Option R) (st : St) : Option R := pfinH (enFM gf) 11 fnM st fun bs o v => if bs.length = 11 then kT gf nn kk bs o v else none
noncomputable def kM (nn : Int) (kk : List (List PV) → PV → Option R) : List (List PV) → Out → PV → Option R := fun bs o _ => rangeEnd 19 [21, 23, 24, 25, 26, 27, 28, 29] rhoM (jumpK 0 (krM gf nn kk) (krM gf nn kk)) bs o
noncomputable def krV (nn : Int) (kk : List (List PV) → PV → Option R) (st : St) : Option R := pfinH (enFV gf) 8 fnV st fun bs o v => if bs.length = 8 then kM gf nn kk bs o v else none
noncomputable def kV (nn : Int) (kk : List (List PV) → PV → Option R) : List (List PV) → Out → PV → Option R := fun bs o _ => rangeEnd 14 [15, 16, 17, 18, 19, 20, 21] rhoV (jumpK 0 (krV gf nn kk) (krV gf nn kk)) bs o
noncomputable def krF (nn : Int) (kk : List (List PV) → PV → Option R) (st : St) : Option R := pfinH (enFF gf) 7 fnF st fun bs o v => if bs.length = 7 then kV gf nn kk bs o v else none
noncomputable def kF (nn : Int) (kk : List (List PV) → PV → Option R) : List (List PV) → Out → PV → Option R := fun bs o _ => rangeEnd 26 [28, 29, 32] rhoF (jumpK 0 (krF gf nn kk) (krF gf nn kk)) bs o
theorem wf_raw0 (kk : List (List PV) → PV → Option R) (nn a u m : Int) {x : PV} (hx : IsR x) :
    prunH (enFL gf) h0 0 fnL (bsL nn a u m x) [.clo 64 [.ptr 0 0, .ptr 1 0], .int .i64 1000] kk = (iTak gf).F (bsT nn a u m x) (.fr (bxL nn a u m x nil1) none .nil) [.yld, .ptr 0 0, .ptr 1 0] (yL gf) (kL gf kk) := by
  rcases hx with rfl | ⟨cx, rfl⟩ <;> kernel_rfl
theorem wf_raw1p (p : IFn) (kk : List (List PV) → PV → Option R) (nn a u m : Int) {x : PV} (hx : IsR x) :
    prunI (enFTp p) h0 0 fnT (bsT nn a u m x) (.fr (bxL nn a u m x nil1) none .nil) [.yld, .ptr 0 0, .ptr 1 0] (yL gf) (kL gf kk) = bif decide (nn ≤ 0) then kL gf kk (bsT nn a u m x) (.fr (bxL nn a u m x nil1) none .nil) (.tuple []) else p.F (bsM nn a u m x) (.fr (bxT nn a u m x nn) none (.fr (bxL nn a u m x nil1) none .nil)) [.yld, .ptr 0 0, .ptr 1 0] (yTp gf p nn) (kTp gf p nn kk) := by
  rcases hx with rfl | ⟨cx, rfl⟩ <;> kernel_rfl
theorem wf_raw1 (kk : List (List PV) → PV → Option R) (nn a u m : Int) {x : PV} (hx : IsR x) :
    prunI (enFT gf) h0 0 fnT (bsT nn a u m x) (.fr (bxL nn a u m x nil1) none .nil) [.yld, .ptr 0 0, .ptr 1 0] (yL gf) (kL gf kk) = bif decide (nn ≤ 0) then kL gf kk (bsT nn a u m x) (.fr (bxL nn a u m x nil1) none .nil) (.tuple []) else (iMap gf).F (bsM nn a u m x) (.fr (bxT nn a u m x nn) none (.fr (bxL nn a u m x nil1) none .nil)) [.yld, .ptr 0 0, .ptr 1 0] (yT gf nn) (kT gf nn kk) := by
  exact wf_raw1p gf (iMap gf) kk nn a u m hx
theorem wf_raw2 (kk : List (List PV) → PV → Option R) (nn a u m : Int) {x : PV} (hx : IsR x) :
    prunI (enFM gf) h0 0 fnM (bsM nn a u m x) (.fr (bxT nn a u m x nn) none (.fr (bxL nn a u m x nil1) none .nil)) [.yld, .ptr 0 0, .ptr 1 0] (yT gf nn) (kT gf nn kk) = (iVal gf).F (bsV nn a u m x) (.fr (bxM nn a u m x) none (.fr (bxT nn a u m x nn) none (.fr (bxL nn a u m x nil1) none .nil))) [.yld, .ptr 0 0] (yM gf nn) (kM gf nn kk) := by
  rcases hx with rfl | ⟨cx, rfl⟩ <;> kernel_rfl
theorem wf_raw3 (kk : List (List PV) → PV → Option R) (nn a u m : Int) {x : PV} (hx : IsR x) :
    prunI (enFV gf) h0 0 fnV (bsV nn a u m x) (.fr (bxM nn a u m x) none (.fr (bxT nn a u m x nn) none (.fr (bxL nn a u m x nil1) none .nil))) [.yld, .ptr 0 0] (yM gf nn) (kM gf nn kk) = (iFil gf).F (bsF nn a u m x) (.fr (bxV nn a u m x) none (.fr (bxM nn a u m x) none (.fr (bxT nn a u m x nn) none (.fr (bxL nn a u m x nil1) none .nil)))) [.yld, .ptr 0 0, .ptr 1 0] (yV gf nn) (kV gf nn kk) := by
  rcases hx with rfl | ⟨cx, rfl⟩ <;> kernel_rfl
theorem wf_raw4 (kk : List (List PV) → PV → Option R) (nn a u m : Int) {x : PV} (hx : IsR x) :
    prunI (enFF gf) h0 0 fnF (bsF nn a u m x) (.fr (bxV nn a u m x) none (.fr (bxM nn a u m x) none (.fr (bxT nn a u m x nn) none (.fr (bxL nn a u m x nil1) none .nil)))) [.yld, .ptr 0 0, .ptr 1 0] (yV gf nn) (kV gf nn kk) = (iWalk gf).F [[.ptr 2 0], [.str []], [x]] (.fr (bxF nn a u m x) none (.fr (bxV nn a u m x) none (.fr (bxM nn a u m x) none (.fr (bxT nn a u m x nn) none (.fr (bxL nn a u m x nil1) none .nil))))) [.yld, .ptr 0 0, .ptr 1 0] (yFl gf nn) (kF gf nn kk) := by
  rcases hx with rfl | ⟨cx, rfl⟩ <;> kernel_rfl
/-- all that wait, while the walk goes on -/
def outW (nn b a u m : Int) (x : PV) (k : Int) (out : PV) (j : Option Jump) : Out := .fr (bxF nn b u m x) j (.fr (bxV nn a u m x) j (.fr (bxM nn a u m x) j (.fr (bxT nn a u m x k) j (.fr (bxL nn a u m x out) none .nil))))
noncomputable def apI {S : Type} (n m : Nat) (k : Option S) : Option S := bif decide (n + m ≤ 9223372036854775807) && decide ((n + m) * bytesOf Try.prog 3 ≤ roomB) then k else none
theorem wf_step (nn b a u m : Int) {x : PV} (hx : IsR x) (kl : Int) (no : Option Bool) (lo : Nat) (co : List PV) (s : Ky) (v : Int) (G : List (List PV) → Out → Bool → Option R) :
    (yFl gf nn).F [[.ptr 2 0], [.str []], [x]] (outW nn b a u m x kl (.sl no 1 lo co) none) [.str s, .int .i64 v] G =
      bif m == 0 then none else bif (v.tmod m == 0) then
        bif decide (1000 ≤ (lo : Int)) then none else apI lo 1 (bif (IntKind.i64.wrap (kl - 1) == 0) then G [[.ptr 2 0], [.str []], [x]] (outW nn (IntKind.i64.wrap (b + 1)) (IntKind.i64.wrap (b + 1)) (IntKind.i64.wrap (u + 1)) m x (IntKind.i64.wrap (kl - 1)) (.sl (no.map (· && (1 == 0))) 1 (lo + 1) (co ++ [.int .i64 (IntKind.i64.wrap (2 * v))])) (some .ret)) false
          else G [[.ptr 2 0], [.str []], [x]] (outW nn (IntKind.i64.wrap (b + 1)) (IntKind.i64.wrap (b + 1)) (IntKind.i64.wrap (u + 1)) m x (IntKind.i64.wrap (kl - 1)) (.sl (no.map (· && (1 == 0))) 1 (lo + 1) (co ++ [.int .i64 (IntKind.i64.wrap (2 * v))])) none) true)
      else G [[.ptr 2 0], [.str []], [x]] (outW nn (IntKind.i64.wrap (b + 1)) a u m x kl (.sl no 1 lo co) none) true := by
  rcases hx with rfl | ⟨cx, rfl⟩ <;> kernel_rfl
theorem wf_end (kk : List (List PV) → PV → Option R) (nn b a u m : Int) {x : PV} (hx : IsR x) (kl : Int) (no : Option Bool) (lo : Nat) (co : List PV) :
    kF gf nn kk [[.ptr 2 0], [.str []], [x]] (outW nn b a u m x kl (.sl no 1 lo co) none) (.tuple []) = kk (bsL nn b u m x) (.tuple [.sl no 1 lo co, .bool true]) := by
  rcases hx with rfl | ⟨cx, rfl⟩ <;> kernel_rfl
theorem wf_endR (kk : List (List PV) → PV → Option R) (nn b a u m : Int) {x : PV} (hx : IsR x) (kl : Int) (no : Option Bool) (lo : Nat) (co : List PV) :
    kF gf nn kk [[.ptr 2 0], [.str []], [x]] (outW nn b a u m x kl (.sl no 1 lo co) (some .ret)) (.tuple []) = kk (bsL nn b u m x) (.tuple [.sl no 1 lo co, .bool true]) := by
  rcases hx with rfl | ⟨cx, rfl⟩ <;> kernel_rfl
theorem wf_end0 (kk : List (List PV) → PV → Option R) (nn a u m : Int) {x : PV} (hx : IsR x) :
    kL gf kk (bsT nn a u m x) (.fr (bxL nn a u m x nil1) none .nil) (.tuple []) = kk (bsL nn a u m x) (.tuple [nil1, .bool true]) := by
  rcases hx with rfl | ⟨cx, rfl⟩ <;> kernel_rfl
end Go.Proofs.Ytmacjkiamejcnaa.Wf
