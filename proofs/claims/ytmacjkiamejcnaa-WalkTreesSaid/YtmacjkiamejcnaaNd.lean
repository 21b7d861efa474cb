/-
  Diff of two trees: raw runs.
-/
import Derived.Test.YtmacjkiamejcnaaNc
set_option linter.unusedVariables false
set_option linter.unusedSimpArgs false
set_option maxRecDepth 100000
namespace Go.Proofs.Ytmacjkiamejcnaa
open Go.RowKit
def p_eqI : PFn := ⟨fun xs k => match xs with | [.int .i64 a, .int .i64 b] => k (.bool (a == b)) | _ => none, false⟩
theorem ok_eqI : FOK NGt Wt 19 p_eqI := by
  refine fok wokt allOK_nil (h := h0) Try.func19 rfl (by decide) ?_ ?_
  · intro R xs k
    simp only [p_eqI]
    split <;> rfl
  · intro xs r h
    simp only [p_eqI] at h
    split at h
    · rename_i a b
      have e : ∀ (a b : Int) , prun (en []) h0 0 false Try.f19 [.int .i64 a, .int .i64 b] = some (.bool (a == b)) := fun a b => by kernel_rfl
      exact ⟨0, (e a b).trans h⟩
    · cases h
section
variable {R : Type} (gf : List PV → Ky → Option (List (Ky × PV))) (gg : List PV → Ky → Option (Int × Bool))
noncomputable def enDf : Env := enR (enA [(19, p_eqI)] [(45, hGet gg), (23, hFrom 60)] [(60, iWalk gf)] [] []) [93]
noncomputable def fDf : Func := Try.f18
noncomputable def dfBody : Code := fDf.body.getD .skip
def cEq : PV := .clo 19 []
/-- all boxes in the first walk: a, b, the key; a's variable, b's, same's; gone, fresh, changed; From's variable -/
def dfBx (q : Ky) (x y c : PV) (g f e : PV) : List (Option (List TV)) :=
  [some [(x, 0)], some [(y, 0)], some [(.str q, 0)], some [(.ptr 66 0, 0)], some [(.ptr 67 0, 0)], some [(c, 0)], some [(g, 140)], some [(f, 141)], some [(e, 142)], some [(.ptr 66 0, 0)]]
def dfρ (c : PV) : List TV := [(.ptr 66 0, 0), (.ptr 67 0, 0), (c, 0), (.ptr 69 0, 0), (.ptr 70 0, 0), (.ptr 71 0, 0), (.ptr 72 0, 0), (.ptr 73 0, 0), (.ptr 74 0, 0)] ++ List.replicate 7 (.tuple [], 0) ++ [(.ptr 66 0, 0), (.clo 60 [.ptr 75 0, .ptr 68 0], 0)] ++ List.replicate 48 (.tuple [], 0)
noncomputable def dfY (c : PV) : YFn := rangeY [75, 68, 66] #[18, 19] (dfρ c) (fun {S} st k => rfRun (S := S) (enDf gf gg) h0 0 (subC [1, 0, 1, 0] dfBody) [0] st k)
/-- behind the first walk -/
noncomputable def dfK (kk : List (List PV) → PV → Option R) (st : St) : Option R := pcode (enDf gf gg) h0 0 (subC [1, 1] dfBody) (fun st => pfinH (enDf gf gg) 2 fDf st fun bs _ v => kk bs v) 0 st (fun st => pfinH (enDf gf gg) 2 fDf st fun bs _ v => kk bs v) []
noncomputable def dfEnd (c : PV) (kk : List (List PV) → PV → Option R) (bs : List (List PV)) (o : Out) : Option R :=
  match o with
  | .fr bx j o' =>
    if bs.length = [75, 68, 66].length then
      match mapO (mapO (renP (fun j => [75, 68, 66][j]?) false 4)) bs with
      | some bs =>
        match j with
        | none => dfK gf gg kk ⟨dfρ c, setBoxes (zipN [75, 68, 66] bs) (bxOf 66 bx), o'⟩
        | some .ret => pfinH (enDf gf gg) 2 fDf ⟨dfρ c, setBoxes (zipN [75, 68, 66] bs) (bxOf 66 bx), o'⟩ fun bs _ v => kk bs v
        | some (.exit id) => match ([(0, dfK gf gg kk)] : List (Nat × (St → Option R))).lookup id with
          | some k => k ⟨dfρ c, setBoxes (zipN [75, 68, 66] bs) (bxOf 66 bx), o'⟩
          | none => none
      | none => none
    else none
  | .nil => none
def nilS : PV := .sl (some true) 1 0 []
theorem df_raw (kk : List (List PV) → PV → Option R) {x y : PV} (hx : IsR x) (hy : IsR y) :
    prunH (enDf gf gg) h0 0 fDf [[x], [y]] [.ptr 0 0, .ptr 1 0, cEq] kk =
      (iWalk gf).F [[.ptr 2 0], [.str []], [x]] (.fr (dfBx [] x y cEq nilS nilS nilS) none .nil) [.yld, .ptr 0 0, .ptr 1 0] (dfY gf gg cEq) fun bs o _ => dfEnd gf gg cEq kk bs o := by
  rcases hx with rfl | ⟨cx, rfl⟩ <;> rcases hy with rfl | ⟨cy, rfl⟩ <;> kernel_rfl
/-- a round -/
theorem df_step (q q0 : Ky) {x x0 y : PV} (hx : IsR x) (hy : IsR y) (ng nf ne : Option Bool) (lg lf le : Nat) (cg cf ce : List PV) (k : Ky) (v : Int) (G : List (List PV) → Out → Bool → Option R) :
    (dfY gf gg cEq).F [[.ptr 2 0], [.str q], [x]] (.fr (dfBx q0 x0 y cEq (.sl ng 1 lg cg) (.sl nf 1 lf cf) (.sl ne 1 le ce)) none .nil) [.str k, .int .i64 v] G =
      (hGet gg).F [[y]] [.ptr 0 0, .str k] fun _ u => onG u fun w has =>
        bif !has then apS lg 1 (G [[.ptr 2 0], [.str q], [x]] (.fr (dfBx q x y cEq (.sl (ng.map (· && (1 == 0))) 1 (lg + 1) (cg ++ [.str k])) (.sl nf 1 lf cf) (.sl ne 1 le ce)) none .nil) true)
        else bif !(v == w) then apS le 1 (G [[.ptr 2 0], [.str q], [x]] (.fr (dfBx q x y cEq (.sl ng 1 lg cg) (.sl nf 1 lf cf) (.sl (ne.map (· && (1 == 0))) 1 (le + 1) (ce ++ [.str k]))) none .nil) true)
        else G [[.ptr 2 0], [.str q], [x]] (.fr (dfBx q x y cEq (.sl ng 1 lg cg) (.sl nf 1 lf cf) (.sl ne 1 le ce)) none .nil) true := by
  rcases hx with rfl | ⟨cx, rfl⟩ <;> rcases hy with rfl | ⟨cy, rfl⟩ <;> kernel_rfl
/-! ## the second walk -/
def dfBx2 (q q2 : Ky) (x y c : PV) (g f e : PV) : List (Option (List TV)) :=
  [some [(x, 0)], some [(y, 0)], some [(.str q, 0)], some [(.ptr 66 0, 0)], some [(.ptr 67 0, 0)], some [(c, 0)], some [(g, 140)], some [(f, 141)], some [(e, 142)], some [(.ptr 66 0, 0)], some [(.str q2, 0)], some [(.ptr 67 0, 0)]]
def dfρ2 (c : PV) : List TV := ((dfρ c).set 47 (.ptr 67 0, 0)).set 48 (.clo 60 [.ptr 77 0, .ptr 76 0], 0)
noncomputable def dfY2 (c : PV) : YFn := rangeY [77, 76, 67] #[49, 50] (dfρ2 c) (fun {S} st k => rfRun (S := S) (enDf gf gg) h0 0 (subC [1, 1, 0, 1, 0] dfBody) [3] st k)
noncomputable def dfK2 (kk : List (List PV) → PV → Option R) (st : St) : Option R := pcode (enDf gf gg) h0 0 (subC [1, 1, 1] dfBody) (fun st => pfinH (enDf gf gg) 2 fDf st fun bs _ v => kk bs v) 0 st (fun st => pfinH (enDf gf gg) 2 fDf st fun bs _ v => kk bs v) []
noncomputable def dfEnd2 (c : PV) (kk : List (List PV) → PV → Option R) (bs : List (List PV)) (o : Out) : Option R :=
  match o with
  | .fr bx j o' =>
    if bs.length = [77, 76, 67].length then
      match mapO (mapO (renP (fun j => [77, 76, 67][j]?) false 4)) bs with
      | some bs =>
        match j with
        | none => dfK2 gf gg kk ⟨dfρ2 c, setBoxes (zipN [77, 76, 67] bs) (bxOf 66 bx), o'⟩
        | some .ret => pfinH (enDf gf gg) 2 fDf ⟨dfρ2 c, setBoxes (zipN [77, 76, 67] bs) (bxOf 66 bx), o'⟩ fun bs _ v => kk bs v
        | some (.exit id) => match ([(3, dfK2 gf gg kk)] : List (Nat × (St → Option R))).lookup id with
          | some k => k ⟨dfρ2 c, setBoxes (zipN [77, 76, 67] bs) (bxOf 66 bx), o'⟩
          | none => none
      | none => none
    else none
  | .nil => none
theorem df_end1 (kk : List (List PV) → PV → Option R) (q : Ky) {x y : PV} (hx : IsR x) (hy : IsR y) (ng nf ne : Option Bool) (lg lf le : Nat) (cg cf ce : List PV) :
    dfEnd gf gg cEq kk [[.ptr 2 0], [.str q], [x]] (.fr (dfBx q x y cEq (.sl ng 1 lg cg) (.sl nf 1 lf cf) (.sl ne 1 le ce)) none .nil) =
      (iWalk gf).F [[.ptr 2 0], [.str []], [y]] (.fr (dfBx2 q [] x y cEq (.sl ng 1 lg cg) (.sl nf 1 lf cf) (.sl ne 1 le ce)) none .nil) [.yld, .ptr 0 0, .ptr 1 0] (dfY2 gf gg cEq) fun bs o _ => dfEnd2 gf gg cEq kk bs o := by
  rcases hx with rfl | ⟨cx, rfl⟩ <;> rcases hy with rfl | ⟨cy, rfl⟩ <;> kernel_rfl
theorem df_step2 (q q2 q0 : Ky) {x y y0 : PV} (hx : IsR x) (hy : IsR y) (ng nf ne : Option Bool) (lg lf le : Nat) (cg cf ce : List PV) (k : Ky) (v : Int) (G : List (List PV) → Out → Bool → Option R) :
    (dfY2 gf gg cEq).F [[.ptr 2 0], [.str q2], [y]] (.fr (dfBx2 q q0 x y0 cEq (.sl ng 1 lg cg) (.sl nf 1 lf cf) (.sl ne 1 le ce)) none .nil) [.str k, .int .i64 v] G =
      (hGet gg).F [[x]] [.ptr 0 0, .str k] fun _ u => onG u fun w has =>
        bif !has then apS lf 1 (G [[.ptr 2 0], [.str q2], [y]] (.fr (dfBx2 q q2 x y cEq (.sl ng 1 lg cg) (.sl (nf.map (· && (1 == 0))) 1 (lf + 1) (cf ++ [.str k])) (.sl ne 1 le ce)) none .nil) true)
        else G [[.ptr 2 0], [.str q2], [y]] (.fr (dfBx2 q q2 x y cEq (.sl ng 1 lg cg) (.sl nf 1 lf cf) (.sl ne 1 le ce)) none .nil) true := by
  rcases hx with rfl | ⟨cx, rfl⟩ <;> rcases hy with rfl | ⟨cy, rfl⟩ <;> kernel_rfl
theorem df_end2 (kk : List (List PV) → PV → Option R) (q q2 : Ky) {x y : PV} (hx : IsR x) (hy : IsR y) (ng nf ne : Option Bool) (lg lf le : Nat) (cg cf ce : List PV) :
    dfEnd2 gf gg cEq kk [[.ptr 2 0], [.str q2], [y]] (.fr (dfBx2 q q2 x y cEq (.sl ng 1 lg cg) (.sl nf 1 lf cf) (.sl ne 1 le ce)) none .nil) = kk [[x], [y]] (.tuple [.sl ng 1 lg cg, .sl nf 1 lf cf, .sl ne 1 le ce]) := by
  rcases hx with rfl | ⟨cx, rfl⟩ <;> rcases hy with rfl | ⟨cy, rfl⟩ <;> kernel_rfl
/-! ## the other tree nil -/
def dnBx (q : Ky) (x : PV) (g : PV) : List (Option (List TV)) :=
  [some [(x, 0)], some [(.str q, 0)], some [(.ptr 66 0, 0)], some [(.nilptr, 0)], some [(.nilFunc, 0)], some [(g, 139)], some [(nilS, 140)], some [(nilS, 141)], some [(.ptr 66 0, 0)]]
def dnρ : List TV := [(.ptr 66 0, 0), (.nilptr, 0), (.nilFunc, 0), (.ptr 68 0, 0), (.ptr 69 0, 0), (.ptr 70 0, 0), (.ptr 71 0, 0), (.ptr 72 0, 0), (.ptr 73 0, 0)] ++ List.replicate 7 (.tuple [], 0) ++ [(.ptr 66 0, 0), (.clo 60 [.ptr 74 0, .ptr 67 0], 0)] ++ List.replicate 48 (.tuple [], 0)
noncomputable def dnY : YFn := rangeY [74, 67, 66] #[18, 19] dnρ (fun {S} st k => rfRun (S := S) (enDf gf gg) h0 0 (subC [1, 0, 1, 0] dfBody) [0] st k)
noncomputable def dnK (kk : List (List PV) → PV → Option R) (st : St) : Option R := pcode (enDf gf gg) h0 0 (subC [1, 1] dfBody) (fun st => pfinH (enDf gf gg) 1 fDf st fun bs _ v => kk bs v) 0 st (fun st => pfinH (enDf gf gg) 1 fDf st fun bs _ v => kk bs v) []
noncomputable def dnEnd (kk : List (List PV) → PV → Option R) (bs : List (List PV)) (o : Out) : Option R :=
  match o with
  | .fr bx j o' =>
    if bs.length = [74, 67, 66].length then
      match mapO (mapO (renP (fun j => [74, 67, 66][j]?) false 4)) bs with
      | some bs =>
        match j with
        | none => dnK gf gg kk ⟨dnρ, setBoxes (zipN [74, 67, 66] bs) (bxOf 66 bx), o'⟩
        | some .ret => pfinH (enDf gf gg) 1 fDf ⟨dnρ, setBoxes (zipN [74, 67, 66] bs) (bxOf 66 bx), o'⟩ fun bs _ v => kk bs v
        | some (.exit id) => match ([(0, dnK gf gg kk)] : List (Nat × (St → Option R))).lookup id with
          | some k => k ⟨dnρ, setBoxes (zipN [74, 67, 66] bs) (bxOf 66 bx), o'⟩
          | none => none
      | none => none
    else none
  | .nil => none
theorem dn_raw (kk : List (List PV) → PV → Option R) {x : PV} (hx : IsR x) :
    prunH (enDf gf gg) h0 0 fDf [[x]] [.ptr 0 0, .nilptr, .nilFunc] kk =
      (iWalk gf).F [[.ptr 2 0], [.str []], [x]] (.fr (dnBx [] x nilS) none .nil) [.yld, .ptr 0 0, .ptr 1 0] (dnY gf gg) fun bs o _ => dnEnd gf gg kk bs o := by
  rcases hx with rfl | ⟨cx, rfl⟩ <;> kernel_rfl
theorem dn_step (q q0 : Ky) {x x0 : PV} (hx : IsR x) (ng : Option Bool) (lg : Nat) (cg : List PV) (k : Ky) (v : Int) (G : List (List PV) → Out → Bool → Option R) :
    (dnY gf gg).F [[.ptr 2 0], [.str q], [x]] (.fr (dnBx q0 x0 (.sl ng 1 lg cg)) none .nil) [.str k, .int .i64 v] G =
      apS lg 1 (G [[.ptr 2 0], [.str q], [x]] (.fr (dnBx q x (.sl (ng.map (· && (1 == 0))) 1 (lg + 1) (cg ++ [.str k]))) none .nil) true) := by
  rcases hx with rfl | ⟨cx, rfl⟩ <;> kernel_rfl
theorem dn_end (kk : List (List PV) → PV → Option R) (q : Ky) {x : PV} (hx : IsR x) (ng : Option Bool) (lg : Nat) (cg : List PV) :
    dnEnd gf gg kk [[.ptr 2 0], [.str q], [x]] (.fr (dnBx q x (.sl ng 1 lg cg)) none .nil) = kk [[x]] (.tuple [.sl ng 1 lg cg, nilS, nilS]) := by
  rcases hx with rfl | ⟨cx, rfl⟩ <;> kernel_rfl
end
end Go.Proofs.Ytmacjkiamejcnaa
