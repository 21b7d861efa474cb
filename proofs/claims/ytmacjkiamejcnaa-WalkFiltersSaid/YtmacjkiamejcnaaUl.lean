/-
  taken: the first pairs of a walk: raw runs.
-/
import Derived.Test.YtmacjkiamejcnaaUGa
import Derived.Test.YtmacjkiamejcnaaUGi
set_option linter.unusedVariables false
set_option linter.unusedSimpArgs false
set_option maxRecDepth 100000
namespace Go.Proofs.Ytmacjkiamejcnaa
open Go.RowKit
/-- the code at a path -/
def subC : List Nat → Code → Code
  | 0 :: p, .seq a _ => subC p a
  | _ :: p, .seq _ b => subC p b
  | 0 :: p, .cond _ a _ => subC p a
  | _ :: p, .cond _ _ b => subC p b
  | _ :: p, .block _ a => subC p a
  | _ :: p, .loop a => subC p a
  | _, c => c
def rfA : Code → Code
  | .rangeFunc _ _ a _ => a
  | _ => .skip
def rfB : Code → Code
  | .rangeFunc _ _ _ b => b
  | _ => .skip
/-- a round of a loop over a function -/
def rfRun (en : Env) (h : Hints) (fu : Nat) (c : Code) (ids : List Nat) {S : Type} (st : St) (k : Option Jump → St → Option S) : Option S :=
  pcode en h fu (rfA c) (fun _ => none) 0 st (fun st => pcode en h fu (rfB c) (fun st => k (some .ret) st) 0 st (fun st => k none st) (ids.map fun id => (id, fun st => k (some (.exit id)) st))) []
section
variable {R : Type} (gf gb : List PV → Ky → Option (List (Ky × PV)))
noncomputable def enTk : Env := enR (enA [] [] [(60, iWalk gf), (75, iWalk gb)] [] []) [93]
noncomputable def tkBody : Code := Try.f38.body.getD .skip
def tkBx (q : Ky) (r : PV) (most : Int) (out : PV) : List (Option (List TV)) := [some [(.ptr 30 0, 0)], some [(.str q, 0)], some [(r, 0)], some [(.int .i64 most, 0)], some [(out, 62)]]
/-- the slots when the walk begins -/
def tkρ (f : FuncId) (most : Int) : List TV :=
  [(.clo f [.ptr 28 0, .ptr 29 0], 0), (.int .i64 most, 0), (.tuple [], 0), (.ptr 31 0, 0), (.sl (some true) 2 0 [], 1), (.ptr 32 0, 0), (.tuple [], 0), (.tuple [], 0), (.clo f [.ptr 28 0, .ptr 29 0], 0), (.bool false, 0), (.bool false, 0), (.int .i64 most, 0), (.bool (decide (most ≤ 0)), 0), (.bool (decide (most ≤ 0)), 0), (.clo f [.ptr 28 0, .ptr 29 0], 0)] ++ List.replicate 13 (.tuple [], 0)
noncomputable def tkY (f : FuncId) (most : Int) : YFn := rangeY [28, 29, 30] #[15, 16] (tkρ f most) (fun {S} st k => rfRun (S := S) (enTk gf gb) h0 0 (subC [1, 1, 1, 0, 1, 0] tkBody) [0] st k)
noncomputable def tkEnd (f : FuncId) (most : Int) (kk : List (List PV) → PV → Option R) (bs : List (List PV)) (o : Out) : Option R :=
  match o with
  | .fr bx j o' =>
    if bs.length = [28, 29, 30].length then
      match mapO (mapO (renP (fun j => [28, 29, 30][j]?) false 4)) bs with
      | some bs =>
        match j with
        | none => pcode (enTk gf gb) h0 0 (subC [1, 1, 1, 1] tkBody) (fun st => pfinH (enTk gf gb) 3 Try.f38 st fun bs _ v => kk bs v) 0 ⟨tkρ f most, setBoxes (zipN [28, 29, 30] bs) (bxOf 28 bx), o'⟩ (fun st => pfinH (enTk gf gb) 3 Try.f38 st fun bs _ v => kk bs v) []
        | some .ret => pfinH (enTk gf gb) 3 Try.f38 ⟨tkρ f most, setBoxes (zipN [28, 29, 30] bs) (bxOf 28 bx), o'⟩ fun bs _ v => kk bs v
        | some (.exit id) => match ([(0, fun st => pcode (enTk gf gb) h0 0 (subC [1, 1, 1, 1] tkBody) (fun st => pfinH (enTk gf gb) 3 Try.f38 st fun bs _ v => kk bs v) 0 st (fun st => pfinH (enTk gf gb) 3 Try.f38 st fun bs _ v => kk bs v) [])] : List (Nat × (St → Option R))).lookup id with
          | some k => k ⟨tkρ f most, setBoxes (zipN [28, 29, 30] bs) (bxOf 28 bx), o'⟩
          | none => none
      | none => none
    else none
  | .nil => none
theorem tk_rawF1 (cs : List PV) (q : Ky) (most : Int) (kk : List (List PV) → PV → Option R) :
    prunH (enTk gf gb) h0 0 Try.f38 [[.ptr 2 0], [.str q], [.eptr cs]] [.clo 60 [.ptr 0 0, .ptr 1 0], .int .i64 most] kk =
      bif decide (most ≤ 0) then kk [[.ptr 2 0], [.str q], [.eptr cs]] (.sl (some true) 2 0 []) else
        (iWalk gf).F [[.ptr 2 0], [.str q], [.eptr cs]] (.fr (tkBx q (.eptr cs) most (.sl (some true) 2 0 [])) none .nil) [.yld, .ptr 0 0, .ptr 1 0] (tkY gf gb 60 most) fun bs o _ => tkEnd gf gb 60 most kk bs o := by kernel_rfl
theorem tk_rawB1 (cs : List PV) (q : Ky) (most : Int) (kk : List (List PV) → PV → Option R) :
    prunH (enTk gf gb) h0 0 Try.f38 [[.ptr 2 0], [.str q], [.eptr cs]] [.clo 75 [.ptr 0 0, .ptr 1 0], .int .i64 most] kk =
      bif decide (most ≤ 0) then kk [[.ptr 2 0], [.str q], [.eptr cs]] (.sl (some true) 2 0 []) else
        (iWalk gb).F [[.ptr 2 0], [.str q], [.eptr cs]] (.fr (tkBx q (.eptr cs) most (.sl (some true) 2 0 [])) none .nil) [.yld, .ptr 0 0, .ptr 1 0] (tkY gf gb 75 most) fun bs o _ => tkEnd gf gb 75 most kk bs o := by kernel_rfl
theorem tk_rawF0 (q : Ky) (most : Int) (kk : List (List PV) → PV → Option R) :
    prunH (enTk gf gb) h0 0 Try.f38 [[.ptr 2 0], [.str q], [.nilptr]] [.clo 60 [.ptr 0 0, .ptr 1 0], .int .i64 most] kk =
      bif decide (most ≤ 0) then kk [[.ptr 2 0], [.str q], [.nilptr]] (.sl (some true) 2 0 []) else kk [[.ptr 2 0], [.str q], [.nilptr]] (.sl (some true) 2 0 []) := by kernel_rfl
theorem tk_rawB0 (q : Ky) (most : Int) (kk : List (List PV) → PV → Option R) :
    prunH (enTk gf gb) h0 0 Try.f38 [[.ptr 2 0], [.str q], [.nilptr]] [.clo 75 [.ptr 0 0, .ptr 1 0], .int .i64 most] kk =
      bif decide (most ≤ 0) then kk [[.ptr 2 0], [.str q], [.nilptr]] (.sl (some true) 2 0 []) else kk [[.ptr 2 0], [.str q], [.nilptr]] (.sl (some true) 2 0 []) := by kernel_rfl
theorem tk_rawFN (q : Ky) (most : Int) (kk : List (List PV) → PV → Option R) :
    prunH (enTk gf gb) h0 0 Try.f38 [[.nilptr], [.str q]] [.clo 60 [.ptr 0 0, .ptr 1 0], .int .i64 most] kk =
      bif decide (most ≤ 0) then kk [[.nilptr], [.str q]] (.sl (some true) 2 0 []) else kk [[.nilptr], [.str q]] (.sl (some true) 2 0 []) := by kernel_rfl
theorem tk_rawBN (q : Ky) (most : Int) (kk : List (List PV) → PV → Option R) :
    prunH (enTk gf gb) h0 0 Try.f38 [[.nilptr], [.str q]] [.clo 75 [.ptr 0 0, .ptr 1 0], .int .i64 most] kk =
      bif decide (most ≤ 0) then kk [[.nilptr], [.str q]] (.sl (some true) 2 0 []) else kk [[.nilptr], [.str q]] (.sl (some true) 2 0 []) := by kernel_rfl
/-- a round -/
theorem tk_step1 (f : FuncId) (most : Int) (q : Ky) (r : List PV) (q0 : Ky) (r0 : List PV) (no : Option Bool) (lo : Nat) (co : List PV) (k : Ky) (v : Int) (G : List (List PV) → Out → Bool → Option R) :
    (tkY gf gb f most).F [[.ptr 2 0], [.str q], [.eptr r]] (.fr (tkBx q0 (.eptr r0) most (.sl no 2 lo co)) none .nil) [.str k, .int .i64 v] G =
      apR lo 1 (bif decide (most ≤ ((lo + 1 : Nat) : Int)) then G [[.ptr 2 0], [.str q], [.eptr r]] (.fr (tkBx q (.eptr r) most (.sl (no.map (· && (1 == 0))) 2 (lo + 1) (co ++ [.str k, .int .i64 v]))) (some (.exit 0)) .nil) false
        else G [[.ptr 2 0], [.str q], [.eptr r]] (.fr (tkBx q (.eptr r) most (.sl (no.map (· && (1 == 0))) 2 (lo + 1) (co ++ [.str k, .int .i64 v]))) none .nil) true) := by kernel_rfl
theorem tk_end1 (f : FuncId) (most : Int) (q : Ky) (r : List PV) (no : Option Bool) (lo : Nat) (co : List PV) (kk : List (List PV) → PV → Option R) :
    tkEnd gf gb f most kk [[.ptr 2 0], [.str q], [.eptr r]] (.fr (tkBx q (.eptr r) most (.sl no 2 lo co)) none .nil) = kk [[.ptr 2 0], [.str q], [.eptr r]] (.sl no 2 lo co) := by kernel_rfl
theorem tk_end1x (f : FuncId) (most : Int) (q : Ky) (r : List PV) (no : Option Bool) (lo : Nat) (co : List PV) (kk : List (List PV) → PV → Option R) :
    tkEnd gf gb f most kk [[.ptr 2 0], [.str q], [.eptr r]] (.fr (tkBx q (.eptr r) most (.sl no 2 lo co)) (some (.exit 0)) .nil) = kk [[.ptr 2 0], [.str q], [.eptr r]] (.sl no 2 lo co) := by kernel_rfl
end
end Go.Proofs.Ytmacjkiamejcnaa
