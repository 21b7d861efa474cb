/-
  Runs whose loops stand by name: the same as the evaluator's own.
-/
import Derived.Test.YtllpobcecingiaaGreatDoorPw
set_option linter.unusedVariables false
set_option linter.unusedSimpArgs false
namespace Go.Proofs.YtllpobcecingiaaGreatDoor
open Go.RowKit

/-- as pcode, but a loop is given by its place in the whole code -/
def pcodeN {R : Type} (en : Env) (h : Hints) (kr : St → Option R) (nm : List Nat → Nat → St → Option R) : Code → List Nat → Nat → St → (St → Option R) → List (Nat × (St → Option R)) → Option R
  | .skip, _, _, st, kn, _ => kn st
  | .region _ ops draw, _, _, st, kn, _ => pregion en ops draw st kn
  | .seq a b, p, cur, st, kn, kx => pcodeN en h kr nm a (0 :: p) cur st (fun st' => pcodeN en h kr nm b (1 :: p) cur st' kn kx) kx
  | .cond c a b, p, cur, st, kn, kx =>
    match (ev en st 0 c).1 with
    | .bool t => bif t then pcodeN en h kr nm a (0 :: p) cur st kn kx else pcodeN en h kr nm b (1 :: p) cur st kn kx
    | _ => none
  | .block id a, p, _, st, kn, kx => pcodeN en h kr nm a (0 :: p) id st (fun st' => pnorm (h.block.lookup id) st' kn) ((id, fun st' => pnorm (h.block.lookup id) st' kn) :: kx)
  | .loop a, p, cur, st, kn, kx => pnorm (h.loop.lookup cur) st fun st' => nm p.reverse cur st'
  | .exit id, _, _, st, _, kx =>
    match kx.lookup id with
    | some k => k st
    | none => none
  | .ret, _, _, st, _, _ => kr st
  | .label _, _, _, st, kn, _ => kn st
  | _, _, _, _, _, _ => none
theorem pcodeN_eq {en : Env} {h : Hints} {fuel : Nat} {kr : St → Option PV} {root : Code} {k0 : St → Option PV} {kl : St → Option PV} : ∀ (c : Code) (p : List Nat) (cur : Nat) (st : St) (kn : St → Option PV) (kx : List (Nat × (St → Option PV))),
    (∀ q, stepAt en h fuel kr (p.reverse ++ q) root 0 k0 [] kl = stepAt en h fuel kr q c cur kn kx kl) →
    pcodeN en h kr (fun p cur st => ploop (h.loop.lookup cur) (stepAt en h fuel kr p root 0 k0 [] kl) fuel st) c p cur st kn kx = pcode en h fuel kr c cur st kn kx
  | .skip, p, cur, st, kn, kx, hp => rfl
  | .region id ops draw, p, cur, st, kn, kx, hp => rfl
  | .seq a b, p, cur, st, kn, kx, hp => by
    simp only [pcodeN, pcode]
    have hb : (fun st' => pcodeN en h kr (fun p cur st => ploop (h.loop.lookup cur) (stepAt en h fuel kr p root 0 k0 [] kl) fuel st) b (1 :: p) cur st' kn kx) = fun st' => pcode en h fuel kr b cur st' kn kx := by
      funext st'
      refine pcodeN_eq b (1 :: p) cur st' kn kx fun q => ?_
      rw [List.reverse_cons, List.append_assoc]
      exact hp (1 :: q)
    rw [hb]
    refine pcodeN_eq a (0 :: p) cur st _ kx fun q => ?_
    rw [List.reverse_cons, List.append_assoc]
    exact hp (0 :: q)
  | .cond c a b, p, cur, st, kn, kx, hp => by
    simp only [pcodeN, pcode]
    have ha := pcodeN_eq a (0 :: p) cur st kn kx fun q => by
      rw [List.reverse_cons, List.append_assoc]
      exact hp (0 :: q)
    have hb := pcodeN_eq b (1 :: p) cur st kn kx fun q => by
      rw [List.reverse_cons, List.append_assoc]
      exact hp (1 :: q)
    rw [ha, hb]
    cases (ev en st 0 c).1 <;> rfl
  | .block id a, p, cur, st, kn, kx, hp => by
    simp only [pcodeN, pcode]
    refine pcodeN_eq a (0 :: p) id st _ _ fun q => ?_
    rw [List.reverse_cons, List.append_assoc]
    exact hp (0 :: q)
  | .loop a, p, cur, st, kn, kx, hp => by
    simp only [pcodeN, pcode]
    have := hp []
    rw [List.append_nil] at this
    rw [this]
    rfl
  | .exit id, p, cur, st, kn, kx, hp => rfl
  | .ret, p, cur, st, kn, kx, hp => rfl
  | .label _, p, cur, st, kn, kx, hp => rfl
  | .rangeFunc _ _ _ _, _, _, _, _, _, _ => rfl
  | .scope _, _, _, _, _, _, _ => rfl
  | .goto _, _, _, _, _, _, _ => rfl
  | .refuse _, _, _, _, _, _, _ => rfl
/-- a run; the function's loops by name -/
def prunN (e : Env) (h : Hints) (fuel : Nat) (own : Bool) (fn : Func) (args : List PV) : Option PV :=
  match fn.body with
  | some c => pcodeN e h (pfin e own fn) (fun p cur st => loopF e h fuel own fn p cur fuel st) c [] 0 (st0 fn.ntmps args) (pfin e own fn) []
  | none => none
theorem prunN_eq {e : Env} {h : Hints} {fuel : Nat} {own : Bool} {fn : Func} {args : List PV} : prun e h fuel own fn args = prunN e h fuel own fn args := by
  unfold prun prunN
  cases hb : fn.body with
  | none => rfl
  | some c =>
    refine (pcodeN_eq (kl := fun _ => none) (k0 := pfin e own fn) (root := c) c [] 0 _ _ [] fun q => rfl).symm.trans ?_
    unfold loopF stepF
    rw [hb]
    rfl
/-- the round of a loop at a path, all loops but its own by name: those that stand in no loop (nm), those in the loop around (nm, once it is passed), those in the loop itself (nmK) -/
def stepAtN {R : Type} (en : Env) (h : Hints) (fuel : Nat) (kr : St → Option R) (nmK : (St → Option R) → List Nat → Nat → St → Option R) (KL : St → Option R) : List Nat → Code → List Nat → Nat → (St → Option R) → List (Nat × (St → Option R)) → (List Nat → Nat → St → Option R) → Bool → St → (St → Option R) → Option R
  | 0 :: p, .seq a b, acc, cur, kn, kx, nm, inn => stepAtN en h fuel kr nmK KL p a (0 :: acc) cur (fun st' => pcodeN en h kr nm b (1 :: acc) cur st' kn kx) kx nm inn
  | _ :: p, .seq _ b, acc, cur, kn, kx, nm, inn => stepAtN en h fuel kr nmK KL p b (1 :: acc) cur kn kx nm inn
  | 0 :: p, .cond _ a _, acc, cur, kn, kx, nm, inn => stepAtN en h fuel kr nmK KL p a (0 :: acc) cur kn kx nm inn
  | _ :: p, .cond _ _ b, acc, cur, kn, kx, nm, inn => stepAtN en h fuel kr nmK KL p b (1 :: acc) cur kn kx nm inn
  | _ :: p, .block id a, acc, _, kn, kx, nm, inn => stepAtN en h fuel kr nmK KL p a (0 :: acc) id (fun st' => pnorm (h.block.lookup id) st' kn) ((id, fun st' => pnorm (h.block.lookup id) st' kn) :: kx) nm inn
  | _ :: p, .loop a, acc, cur, _, kx, nm, inn => if inn then fun _ _ => none else stepAtN en h fuel kr nmK KL p a (0 :: acc) cur KL kx (nmK KL) true
  | [], .loop a, acc, cur, _, kx, nm, inn => fun st k => if inn then pcode en h fuel kr a cur st k kx else pcodeN en h kr (nmK k) a (0 :: acc) cur st k kx
  | _, _, _, _, _, _, _, _ => fun _ _ => none
section
variable {en : Env} {h : Hints} {fuel : Nat} {kr : St → Option PV} {root : Code} {k0 : St → Option PV}
def nmAt (en : Env) (h : Hints) (fuel : Nat) (kr : St → Option PV) (root : Code) (k0 : St → Option PV) (kl : St → Option PV) (p : List Nat) (cur : Nat) (st : St) : Option PV := ploop (h.loop.lookup cur) (stepAt en h fuel kr p root 0 k0 [] kl) fuel st
def pathOK : Bool → List Nat → Code → Bool
  | inn, 0 :: p, .seq a _ => pathOK inn p a
  | inn, (_ + 1) :: p, .seq _ b => pathOK inn p b
  | inn, 0 :: p, .cond _ a _ => pathOK inn p a
  | inn, (_ + 1) :: p, .cond _ _ b => pathOK inn p b
  | inn, _ :: p, .block _ a => pathOK inn p a
  | false, _ :: p, .loop a => pathOK true p a
  | _, [], .loop _ => true
  | _, _, _ => false
/-- within the loop around -/
theorem stepAtN_in {KL : St → Option PV} : ∀ (path : List Nat) (c : Code) (acc : List Nat) (cur : Nat) (kn : St → Option PV) (kx : List (Nat × (St → Option PV))) (st : St) (k : St → Option PV) (hok : pathOK true path c = true),
    (∀ q, stepAt en h fuel kr (acc.reverse ++ q) root 0 k0 [] KL = stepAt en h fuel kr q c cur kn kx KL) →
    stepAtN en h fuel kr (nmAt en h fuel kr root k0) KL path c acc cur kn kx (nmAt en h fuel kr root k0 KL) true st k = stepAt en h fuel kr path c cur kn kx KL st k
  | 0 :: p, .seq a b, acc, cur, kn, kx, st, k, hok, hp => by
    have hb : (fun st' => pcodeN en h kr (nmAt en h fuel kr root k0 KL) b (1 :: acc) cur st' kn kx) = fun st' => pcode en h fuel kr b cur st' kn kx := by
      funext st'
      refine pcodeN_eq (kl := KL) (k0 := k0) (root := root) b (1 :: acc) cur st' kn kx fun q => ?_
      rw [List.reverse_cons, List.append_assoc]
      exact hp (1 :: q)
    simp only [stepAtN]
    rw [hb]
    exact stepAtN_in p a (0 :: acc) cur _ kx st k (by simpa only [pathOK] using hok) (fun q => by rw [List.reverse_cons, List.append_assoc]; exact hp (0 :: q))
  | (m + 1) :: p, .seq a b, acc, cur, kn, kx, st, k, hok, hp => by
    simp only [stepAtN]
    exact stepAtN_in p b (1 :: acc) cur _ kx st k (by simpa only [pathOK] using hok) (fun q => by rw [List.reverse_cons, List.append_assoc]; exact hp (1 :: q))
  | 0 :: p, .cond c a b, acc, cur, kn, kx, st, k, hok, hp => by
    simp only [stepAtN]
    exact stepAtN_in p a (0 :: acc) cur _ kx st k (by simpa only [pathOK] using hok) (fun q => by rw [List.reverse_cons, List.append_assoc]; exact hp (0 :: q))
  | (m + 1) :: p, .cond c a b, acc, cur, kn, kx, st, k, hok, hp => by
    simp only [stepAtN]
    exact stepAtN_in p b (1 :: acc) cur _ kx st k (by simpa only [pathOK] using hok) (fun q => by rw [List.reverse_cons, List.append_assoc]; exact hp (1 :: q))
  | m :: p, .block id a, acc, cur, kn, kx, st, k, hok, hp => by
    simp only [stepAtN]
    have := stepAtN_in p a (0 :: acc) id _ _ st k (by simpa only [pathOK] using hok) (fun q => by rw [List.reverse_cons, List.append_assoc]; exact hp (0 :: q))
    cases m <;> exact this
  | m :: p, .loop a, acc, cur, kn, kx, st, k, hok, hp => by
    simp [pathOK] at hok
  | [], .loop a, acc, cur, kn, kx, st, k, hok, hp => by
    simp only [stepAtN, if_true]
    rfl
  | _ :: _, .skip, _, _, _, _, _, _, hok, _ => by simp [pathOK] at hok
  | _ :: _, .region _ _ _, _, _, _, _, _, _, hok, _ => by simp [pathOK] at hok
  | _ :: _, .ret, _, _, _, _, _, _, hok, _ => by simp [pathOK] at hok
  | _ :: _, .exit _, _, _, _, _, _, _, hok, _ => by simp [pathOK] at hok
  | _ :: _, .label _, _, _, _, _, _, _, hok, _ => by simp [pathOK] at hok
  | _ :: _, .rangeFunc _ _ _ _, _, _, _, _, _, _, hok, _ => by simp [pathOK] at hok
  | _ :: _, .scope _, _, _, _, _, _, _, hok, _ => by simp [pathOK] at hok
  | _ :: _, .goto _, _, _, _, _, _, _, hok, _ => by simp [pathOK] at hok
  | _ :: _, .refuse _, _, _, _, _, _, _, hok, _ => by simp [pathOK] at hok
  | [], .skip, _, _, _, _, _, _, hok, _ => by simp [pathOK] at hok
  | [], .region _ _ _, _, _, _, _, _, _, hok, _ => by simp [pathOK] at hok
  | [], .ret, _, _, _, _, _, _, hok, _ => by simp [pathOK] at hok
  | [], .exit _, _, _, _, _, _, _, hok, _ => by simp [pathOK] at hok
  | [], .label _, _, _, _, _, _, _, hok, _ => by simp [pathOK] at hok
  | [], .seq _ _, _, _, _, _, _, _, hok, _ => by simp [pathOK] at hok
  | [], .cond _ _ _, _, _, _, _, _, _, hok, _ => by simp [pathOK] at hok
  | [], .block _ _, _, _, _, _, _, _, hok, _ => by simp [pathOK] at hok
  | [], .rangeFunc _ _ _ _, _, _, _, _, _, _, hok, _ => by simp [pathOK] at hok
  | [], .scope _, _, _, _, _, _, _, hok, _ => by simp [pathOK] at hok
  | [], .goto _, _, _, _, _, _, _, hok, _ => by simp [pathOK] at hok
  | [], .refuse _, _, _, _, _, _, _, hok, _ => by simp [pathOK] at hok
/-- at a loop that stands in no other, or one deeper -/
theorem stepAtN_out {KL : St → Option PV} : ∀ (path : List Nat) (c : Code) (acc : List Nat) (cur : Nat) (kn : St → Option PV) (kx : List (Nat × (St → Option PV))) (st : St) (k : St → Option PV) (hok : pathOK false path c = true),
    (∀ kl q, stepAt en h fuel kr (acc.reverse ++ q) root 0 k0 [] kl = stepAt en h fuel kr q c cur kn kx kl) →
    stepAtN en h fuel kr (nmAt en h fuel kr root k0) KL path c acc cur kn kx (nmAt en h fuel kr root k0 (fun _ => none)) false st k = stepAt en h fuel kr path c cur kn kx KL st k
  | 0 :: p, .seq a b, acc, cur, kn, kx, st, k, hok, hp => by
    have hb : (fun st' => pcodeN en h kr (nmAt en h fuel kr root k0 (fun _ => none)) b (1 :: acc) cur st' kn kx) = fun st' => pcode en h fuel kr b cur st' kn kx := by
      funext st'
      refine pcodeN_eq (kl := fun _ => none) (k0 := k0) (root := root) b (1 :: acc) cur st' kn kx fun q => ?_
      rw [List.reverse_cons, List.append_assoc]
      exact hp _ (1 :: q)
    simp only [stepAtN]
    rw [hb]
    exact stepAtN_out p a (0 :: acc) cur _ kx st k (by simpa only [pathOK] using hok) (fun kl q => by rw [List.reverse_cons, List.append_assoc]; exact hp kl (0 :: q))
  | (m + 1) :: p, .seq a b, acc, cur, kn, kx, st, k, hok, hp => by
    simp only [stepAtN]
    exact stepAtN_out p b (1 :: acc) cur _ kx st k (by simpa only [pathOK] using hok) (fun kl q => by rw [List.reverse_cons, List.append_assoc]; exact hp kl (1 :: q))
  | 0 :: p, .cond c a b, acc, cur, kn, kx, st, k, hok, hp => by
    simp only [stepAtN]
    exact stepAtN_out p a (0 :: acc) cur _ kx st k (by simpa only [pathOK] using hok) (fun kl q => by rw [List.reverse_cons, List.append_assoc]; exact hp kl (0 :: q))
  | (m + 1) :: p, .cond c a b, acc, cur, kn, kx, st, k, hok, hp => by
    simp only [stepAtN]
    exact stepAtN_out p b (1 :: acc) cur _ kx st k (by simpa only [pathOK] using hok) (fun kl q => by rw [List.reverse_cons, List.append_assoc]; exact hp kl (1 :: q))
  | m :: p, .block id a, acc, cur, kn, kx, st, k, hok, hp => by
    simp only [stepAtN]
    have := stepAtN_out (KL := KL) p a (0 :: acc) id _ _ st k (by simpa only [pathOK] using hok) (fun kl q => by rw [List.reverse_cons, List.append_assoc]; exact hp kl (0 :: q))
    cases m <;> exact this
  | m :: p, .loop a, acc, cur, kn, kx, st, k, hok, hp => by
    simp only [stepAtN, Bool.false_eq_true, if_false]
    have := stepAtN_in p a (0 :: acc) cur _ _ st k (by simpa only [pathOK] using hok) (fun q => by rw [List.reverse_cons, List.append_assoc]; exact hp KL (0 :: q))
    cases m <;> exact this
  | [], .loop a, acc, cur, kn, kx, st, k, hok, hp => by
    simp only [stepAtN, Bool.false_eq_true, if_false]
    have := pcodeN_eq (en := en) (h := h) (fuel := fuel) (kr := kr) (kl := k) (k0 := k0) (root := root) a (0 :: acc) cur st k kx (fun q => by rw [List.reverse_cons, List.append_assoc]; exact hp k (0 :: q))
    exact this
  | _ :: _, .skip, _, _, _, _, _, _, hok, _ => by simp [pathOK] at hok
  | _ :: _, .region _ _ _, _, _, _, _, _, _, hok, _ => by simp [pathOK] at hok
  | _ :: _, .ret, _, _, _, _, _, _, hok, _ => by simp [pathOK] at hok
  | _ :: _, .exit _, _, _, _, _, _, _, hok, _ => by simp [pathOK] at hok
  | _ :: _, .label _, _, _, _, _, _, _, hok, _ => by simp [pathOK] at hok
  | _ :: _, .rangeFunc _ _ _ _, _, _, _, _, _, _, hok, _ => by simp [pathOK] at hok
  | _ :: _, .scope _, _, _, _, _, _, _, hok, _ => by simp [pathOK] at hok
  | _ :: _, .goto _, _, _, _, _, _, _, hok, _ => by simp [pathOK] at hok
  | _ :: _, .refuse _, _, _, _, _, _, _, hok, _ => by simp [pathOK] at hok
  | [], .skip, _, _, _, _, _, _, hok, _ => by simp [pathOK] at hok
  | [], .region _ _ _, _, _, _, _, _, _, hok, _ => by simp [pathOK] at hok
  | [], .ret, _, _, _, _, _, _, hok, _ => by simp [pathOK] at hok
  | [], .exit _, _, _, _, _, _, _, hok, _ => by simp [pathOK] at hok
  | [], .label _, _, _, _, _, _, _, hok, _ => by simp [pathOK] at hok
  | [], .seq _ _, _, _, _, _, _, _, hok, _ => by simp [pathOK] at hok
  | [], .cond _ _ _, _, _, _, _, _, _, hok, _ => by simp [pathOK] at hok
  | [], .block _ _, _, _, _, _, _, _, hok, _ => by simp [pathOK] at hok
  | [], .rangeFunc _ _ _ _, _, _, _, _, _, _, hok, _ => by simp [pathOK] at hok
  | [], .scope _, _, _, _, _, _, _, hok, _ => by simp [pathOK] at hok
  | [], .goto _, _, _, _, _, _, _, hok, _ => by simp [pathOK] at hok
  | [], .refuse _, _, _, _, _, _, _, hok, _ => by simp [pathOK] at hok
end
/-- one round of a loop within a loop (KL: what follows a round of the loop around); inner loops by name -/
def stepP (e : Env) (h : Hints) (fuel : Nat) (own : Bool) (fn : Func) (path : List Nat) (KL : St → Option PV) (st : St) (k : St → Option PV) : Option PV :=
  stepAt e h fuel (pfin e own fn) path (fn.body.getD .skip) 0 (pfin e own fn) [] KL st k
def loopP (e : Env) (h : Hints) (fuel : Nat) (own : Bool) (fn : Func) (KL : St → Option PV) (path : List Nat) (cur : Nat) (n : Nat) (st : St) : Option PV :=
  ploop (h.loop.lookup cur) (stepP e h fuel own fn path KL) n st
theorem loopP_succ {e : Env} {h : Hints} {fuel : Nat} {own : Bool} {fn : Func} {path : List Nat} {cur n : Nat} {KL : St → Option PV} {st : St} :
    loopP e h fuel own fn KL path cur (n + 1) st = stepP e h fuel own fn path KL st (fun st' => pnorm (h.loop.lookup cur) st' (loopP e h fuel own fn KL path cur n)) := rfl
/-- the round with the other loops by name -/
def stepN (e : Env) (h : Hints) (fuel : Nat) (own : Bool) (fn : Func) (path : List Nat) (KL : St → Option PV) (st : St) (k : St → Option PV) : Option PV :=
  stepAtN e h fuel (pfin e own fn) (fun kl p cur st => loopP e h fuel own fn kl p cur fuel st) KL path (fn.body.getD .skip) [] 0 (pfin e own fn) [] (fun p cur st => loopF e h fuel own fn p cur fuel st) false st k
theorem stepP_eq {e : Env} {h : Hints} {fuel : Nat} {own : Bool} {fn : Func} {path : List Nat} {KL : St → Option PV} {st : St} {k : St → Option PV} (hok : pathOK false path (fn.body.getD .skip) = true) : stepP e h fuel own fn path KL st k = stepN e h fuel own fn path KL st k :=
  (stepAtN_out (k0 := pfin e own fn) (root := fn.body.getD .skip) path _ [] 0 _ [] st k hok (fun kl q => rfl)).symm
theorem stepF_eq {e : Env} {h : Hints} {fuel : Nat} {own : Bool} {fn : Func} {path : List Nat} {st : St} {k : St → Option PV} (hok : pathOK false path (fn.body.getD .skip) = true) : stepF e h fuel own fn path st k = stepN e h fuel own fn path (fun _ => none) st k := stepP_eq hok

end Go.Proofs.YtllpobcecingiaaGreatDoor
