/-
  WalkFilters: List over Keys over Filter (all pass) over From: raw runs (printed by gen/wf2.py).
-/
import Derived.Test.YtmacjkiamejcnaaNh
set_option linter.unusedVariables false
set_option linter.unusedSimpArgs false
set_option maxRecDepth 100000
namespace Go.Proofs.Ytmacjkiamejcnaa.Wk
open Go.RowKit
def nil1 : PV := .sl (some true) 1 0 []
def bsL (x : PV) : List (List PV) := [[.clo 59 [.ptr 1 0, .ptr 2 0]], [.clo 60 [.ptr 3 0, .ptr 4 0]], [.nilFunc], [.ptr 5 0], [.str []], [x]]
def bsK (x : PV) : List (List PV) := [[.clo 59 [.ptr 1 0, .ptr 2 0]], [.clo 60 [.ptr 3 0, .ptr 4 0]], [.nilFunc], [.ptr 5 0], [.str []], [x]]
def bsF (x : PV) : List (List PV) := [[.clo 60 [.ptr 2 0, .ptr 3 0]], [.nilFunc], [.ptr 4 0], [.str []], [x]]
def rhoL : List TV := (List.range 22).map fun i => (([(0, (.clo 65 [.ptr 22 0], 0)), (1, (.int .i64 1000, 0)), (3, (.ptr 28 0, 0)), (4, (.ptr 29 0, 0)), (5, (.ptr 30 0, 0)), (6, (.ptr 31 0, 0)), (8, (.clo 65 [.ptr 22 0], 0)), (9, (.bool false, 0)), (10, (.clo 65 [.ptr 22 0], 0))] : List (Nat × TV)).lookup i).getD (.tuple [], 0)
def rhoK : List TV := (List.range 13).map fun i => (([(0, (.yld, 0)), (1, (.ptr 13 0, 0)), (2, (.ptr 19 0, 0)), (4, (.clo 59 [.ptr 14 0, .ptr 15 0], 0)), (5, (.bool false, 0)), (6, (.clo 59 [.ptr 14 0, .ptr 15 0], 0))] : List (Nat × TV)).lookup i).getD (.tuple [], 0)
def rhoF : List TV := (List.range 26).map fun i => (([(0, (.yld, 0)), (1, (.ptr 26 0, 0)), (2, (.ptr 27 0, 0)), (3, (.ptr 31 0, 0)), (6, (.clo 60 [.ptr 28 0, .ptr 29 0], 0)), (7, (.bool false, 0)), (8, (.clo 60 [.ptr 28 0, .ptr 29 0], 0))] : List (Nat × TV)).lookup i).getD (.tuple [], 0)
def bxL (x : PV) (out : PV) : List (Option (List TV)) := [some [(.clo 59 [.ptr 23 0, .ptr 24 0], 0)], some [(.clo 60 [.ptr 25 0, .ptr 26 0], 0)], some [(.nilFunc, 0)], some [(.ptr 27 0, 0)], some [(.str [], 0)], some [(x, 0)], some [(.int .i64 1000, 0)], some [(nil1, 53)], some [(.bool false, 0)], some [(out, 55)]]
def bxK (x : PV) : List (Option (List TV)) := [some [(.clo 59 [.ptr 14 0, .ptr 15 0], 0)], some [(.clo 60 [.ptr 16 0, .ptr 17 0], 0)], some [(.nilFunc, 0)], some [(.ptr 18 0, 0)], some [(.str [], 0)], some [(x, 0)], some [(.yld, 0)]]
def bxF (x : PV) : List (Option (List TV)) := [some [(.clo 60 [.ptr 28 0, .ptr 29 0], 0)], some [(.nilFunc, 0)], some [(.ptr 30 0, 0)], some [(.str [], 0)], some [(x, 0)], some [(.yld, 0)]]
noncomputable def fnL : Func := Try.f31
noncomputable def fnK : Func := Try.f65
noncomputable def fnF : Func := Try.f59
variable {R : Type} (gf : List PV → Ky → Option (List (Ky × PV)))
noncomputable def iFil : IFn := evalJ [] [] [(60, iWalk gf)] h0 0 fnF
noncomputable def iKey : IFn := evalJ [] [] [(59, iFil gf)] h0 0 fnK
noncomputable def enFL : Env := enH [] [] [(65, iKey gf)]
noncomputable def enFK : Env := enH [] [] [(59, iFil gf)]
noncomputable def enFF : Env := enH [] [] [(60, iWalk gf)]
noncomputable def yL : YFn := rangeY [22, 23, 24, 25, 26, 27] #[11] rhoL (fun {S} st k => rfRun (S := S) (enFL gf) h0 0 (subC [1, 1, 1, 0, 1, 0] (fnL.body.getD .skip)) [0] st k)
noncomputable def yK : YFn := rangeY [14, 15, 16, 17, 18] #[7, 8] rhoK (fun {S} st k => rfRun (S := S) { enFK gf with Y := some (6, yL gf) } h0 0 (subC [1, 1, 1, 0] (fnK.body.getD .skip)) [0] st k)
noncomputable def yFl : YFn := rangeY [28, 29, 30] #[9, 10] rhoF (fun {S} st k => rfRun (S := S) { enFF gf with Y := some (5, yK gf) } h0 0 (subC [1, 1, 1, 0] (fnF.body.getD .skip)) [0] st k)
noncomputable def krL (kk : List (List PV) → PV → Option R) (st : St) : Option R := pfinH (enFL gf) 6 fnL st fun bs _ v => kk bs v
noncomputable def kL (kk : List (List PV) → PV → Option R) : List (List PV) → Out → PV → Option R := fun bs o _ => rangeEnd 22 [22, 23, 24, 25, 26, 27] rhoL (jumpK 0 (fun st => pcode (enFL gf) h0 0 (subC [1, 1, 1, 1] (fnL.body.getD .skip)) (krL gf kk) 0 st (krL gf kk) []) (krL gf kk)) bs o
noncomputable def krK (kk : List (List PV) → PV → Option R) (st : St) : Option R := pfinH (enFK gf) 6 fnK st fun bs o v => if bs.length = 6 then kL gf kk bs o v else none
noncomputable def kK (kk : List (List PV) → PV → Option R) : List (List PV) → Out → PV → Option R := fun bs o _ => rangeEnd 13 [14, 15, 16, 17, 18] rhoK (jumpK 0 (krK gf kk) (krK gf kk)) bs o
noncomputable def krF (kk : List (List PV) → PV → Option R) (st : St) : Option R := pfinH (enFF gf) 5 fnF st fun bs o v => if bs.length = 5 then kK gf kk bs o v else none
noncomputable def kF (kk : List (List PV) → PV → Option R) : List (List PV) → Out → PV → Option R := fun bs o _ => rangeEnd 26 [28, 29, 30] rhoF (jumpK 0 (krF gf kk) (krF gf kk)) bs o
theorem wk_raw0 (kk : List (List PV) → PV → Option R) {x : PV} (hx : IsR x) : prunH (enFL gf) h0 0 fnL (bsL x) [.clo 65 [.ptr 0 0], .int .i64 1000] kk = (iKey gf).F (bsK x) (.fr (bxL x nil1) none .nil) [.yld, .ptr 0 0] (yL gf) (kL gf kk) := by
  rcases hx with rfl | ⟨cx, rfl⟩ <;> kernel_rfl
theorem wk_raw1 (kk : List (List PV) → PV → Option R) {x : PV} (hx : IsR x) : prunI (enFK gf) h0 0 fnK (bsK x) (.fr (bxL x nil1) none .nil) [.yld, .ptr 0 0] (yL gf) (kL gf kk) = (iFil gf).F (bsF x) (.fr (bxK x) none (.fr (bxL x nil1) none .nil)) [.yld, .ptr 0 0, .ptr 1 0] (yK gf) (kK gf kk) := by
  rcases hx with rfl | ⟨cx, rfl⟩ <;> kernel_rfl
theorem wk_raw2 (kk : List (List PV) → PV → Option R) {x : PV} (hx : IsR x) : prunI (enFF gf) h0 0 fnF (bsF x) (.fr (bxK x) none (.fr (bxL x nil1) none .nil)) [.yld, .ptr 0 0, .ptr 1 0] (yK gf) (kK gf kk) = (iWalk gf).F [[.ptr 2 0], [.str []], [x]] (.fr (bxF x) none (.fr (bxK x) none (.fr (bxL x nil1) none .nil))) [.yld, .ptr 0 0, .ptr 1 0] (yFl gf) (kF gf kk) := by
  rcases hx with rfl | ⟨cx, rfl⟩ <;> kernel_rfl
def outK (x : PV) (out : PV) : Out := .fr (bxF x) none (.fr (bxK x) none (.fr (bxL x out) none .nil))
noncomputable def apT {S : Type} (n m : Nat) (k : Option S) : Option S := bif decide (n + m ≤ 9223372036854775807) && decide ((n + m) * bytesOf Try.prog 9 ≤ roomB) then k else none
theorem wk_step {x : PV} (hx : IsR x) (no : Option Bool) (lo : Nat) (co : List PV) (s : Ky) (v : Int) (G : List (List PV) → Out → Bool → Option R) :
    (yFl gf).F [[.ptr 2 0], [.str []], [x]] (outK x (.sl no 1 lo co)) [.str s, .int .i64 v] G = bif decide (1000 ≤ (lo : Int)) then none else apT lo 1 (G [[.ptr 2 0], [.str []], [x]] (outK x (.sl (no.map (· && (1 == 0))) 1 (lo + 1) (co ++ [.str s]))) true) := by
  rcases hx with rfl | ⟨cx, rfl⟩ <;> kernel_rfl
theorem wk_end (kk : List (List PV) → PV → Option R) {x : PV} (hx : IsR x) (no : Option Bool) (lo : Nat) (co : List PV) : kF gf kk [[.ptr 2 0], [.str []], [x]] (outK x (.sl no 1 lo co)) (.tuple []) = kk (bsL x) (.tuple [.sl no 1 lo co, .bool true]) := by
  rcases hx with rfl | ⟨cx, rfl⟩ <;> kernel_rfl
end Go.Proofs.Ytmacjkiamejcnaa.Wk
