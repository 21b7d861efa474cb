/-
  Runs whose loops stand by name: the same as the evaluator's own.
-/
import Derived.Test.YtclhnfalebiieaaDoorPw
set_option linter.unusedVariables false
set_option linter.unusedSimpArgs false
namespace Go.Proofs.YtclhnfalebiieaaDoor
open Go.RowKit

/-- as pcode, but a loop is given by its place in the whole code -/
def pcodeN {R : Type} (en : Env) (h : Hints) (kr : St → Option R) (nm : List Nat → Nat → St → Option R) : Code → List Nat → Nat → St → (St → Option R) → List (Nat × (St → Option R)) → Option R
  | .skip, _, _, st, kn, _ => kn st
  | .region _ ops draw, _, _, st, kn, _ => pregion en ops draw st kn
  | .seq a b, p, cur, st, kn, kx => pcodeN en h kr nm a (0 :: p) cur st (fun st' => pcodeN en h kr nm b (1 :: p) cur st' kn kx) kx
  | .cond c a b, p, cur, st, kn, kx =>
    match (ev en st 0 c).1 with
    | .bool t => bif t then pcodeN en h kr nm a (0 :: p) cur st kn kx else pcodeN en h kr nm b (1 :: p) cur st kn kx
    | _ => none
  | .block id a, p, _, st, kn, kx => pcodeN en h kr nm a (0 :: p) id st (fun st' => pnorm (h.block.lookup id) st' kn) ((id, fun st' => pnorm (h.block.lookup id) st' kn) :: kx)
  | .loop a, p, cur, st, kn, kx => pnorm (h.loop.lookup cur) st fun st' => nm p.reverse cur st'
  | .exit id, _, _, st, _, kx =>
    match kx.lookup id with
    | some k => k st
    | none => none
  | .ret, _, _, st, _, _ => kr st
  | .label _, _, _, st, kn, _ => kn st
  | _, _, _, _, _, _ => none
theorem pcodeN_eq {en : Env} {h : Hints} {fuel : Nat} {kr : St → Option PV} {root : Code} {k0 : St → Option PV} {kl : St → Option PV} : ∀ (c : Code) (p : List Nat) (cur : Nat) (st : St) (kn : St → Option PV) (kx : List (Nat × (St → Option PV))),
    (∀ q, stepAt en h fuel kr (p.reverse ++ q) root 0 k0 [] kl = stepAt en h fuel kr q c cur kn kx kl) →
    pcodeN en h kr (fun p cur st => ploop (h.loop.lookup cur) (stepAt en h fuel kr p root 0 k0 [] kl) fuel st) c p cur st kn kx = pcode en h fuel kr c cur st kn kx
  | .skip, p, cur, st, kn, kx, hp => rfl
  | .region id ops draw, p, cur, st, kn, kx, hp => rfl
  | .seq a b, p, cur, st, kn, kx, hp => by
    simp only [pcodeN, pcode]
    have hb : (fun st' => pcodeN en h kr (fun p cur st => ploop (h.loop.lookup cur) (stepAt en h fuel kr p root 0 k0 [] kl) fuel st) b (1 :: p) cur st' kn kx) = fun st' => pcode en h fuel kr b cur st' kn kx := by
      funext st'
      refine pcodeN_eq b (1 :: p) cur st' kn kx fun q => ?_
      rw [List.reverse_cons, List.append_assoc]
      exact hp (1 :: q)
    rw [hb]
    refine pcodeN_eq a (0 :: p) cur st _ kx fun q => ?_
    rw [List.reverse_cons, List.append_assoc]
    exact hp (0 :: q)
  | .cond c a b, p, cur, st, kn, kx, hp => by
    simp only [pcodeN, pcode]
    have ha := pcodeN_eq a (0 :: p) cur st kn kx fun q => by
      rw [List.reverse_cons, List.append_assoc]
      exact hp (0 :: q)
    have hb := pcodeN_eq b (1 :: p) cur st kn kx fun q => by
      rw [List.reverse_cons, List.append_assoc]
      exact hp (1 :: q)
    rw [ha, hb]
    cases (ev en st 0 c).1 <;> rfl
  | .block id a, p, cur, st, kn, kx, hp => by
    simp only [pcodeN, pcode]
    refine pcodeN_eq a (0 :: p) id st _ _ fun q => ?_
    rw [List.reverse_cons, List.append_assoc]
    exact hp (0 :: q)
  | .loop a, p, cur, st, kn, kx, hp => by
    simp only [pcodeN, pcode]
    have := hp []
    rw [List.append_nil] at this
    rw [this]
    rfl
  | .exit id, p, cur, st, kn, kx, hp => rfl
  | .ret, p, cur, st, kn, kx, hp => rfl
  | .label _, p, cur, st, kn, kx, hp => rfl
  | .rangeFunc _ _ _ _, _, _, _, _, _, _ => rfl
  | .scope _, _, _, _, _, _, _ => rfl
  | .goto _, _, _, _, _, _, _ => rfl
  | .refuse _, _, _, _, _, _, _ => rfl
/-- a run; the function's loops by name -/
def prunN (e : Env) (h : Hints) (fuel : Nat) (own : Bool) (fn : Func) (args : List PV) : Option PV :=
  match fn.body with
  | some c => pcodeN e h (pfin e own fn) (fun p cur st => loopF e h fuel own fn p cur fuel st) c [] 0 (st0 fn.ntmps args) (pfin e own fn) []
  | none => none
theorem prunN_eq {e : Env} {h : Hints} {fuel : Nat} {own : Bool} {fn : Func} {args : List PV} : prun e h fuel own fn args = prunN e h fuel own fn args := by
  unfold prun prunN
  cases hb : fn.body with
  | none => rfl
  | some c =>
    refine (pcodeN_eq (kl := fun _ => none) (k0 := pfin e own fn) (root := c) c [] 0 _ _ [] fun q => rfl).symm.trans ?_
    unfold loopF stepF
    rw [hb]
    rfl
/-- one round of a loop; loops in it by name -/
def stepN (e : Env) (h : Hints) (fuel : Nat) (own : Bool) (fn : Func) (path : List Nat) (KL : St → Option PV) (st : St) (k : St → Option PV) : Option PV :=
  stepAt e h fuel (pfin e own fn) path (fn.body.getD .skip) 0 (pfin e own fn) [] KL st k
end Go.Proofs.YtclhnfalebiieaaDoor
