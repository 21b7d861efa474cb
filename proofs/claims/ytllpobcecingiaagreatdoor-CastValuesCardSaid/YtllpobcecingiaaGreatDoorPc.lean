/-
  Evaluation in continuation style: a function that is evaluated where it is called.
-/
import Derived.Test.YtllpobcecingiaaGreatDoorEnv
set_option linter.unusedVariables false
set_option linter.unusedSimpArgs false
namespace Go.Proofs.YtllpobcecingiaaGreatDoor
open Go.RowKit

section
variable {R S : Type} {en : Env}
theorem pguard_nat {ops : Array Oper} {o : Oper} {st : St} {kT kF : St → Option R} {k : R → Option S} : pguard ops o st (fun st => (kT st).bind k) (fun st => (kF st).bind k) = (pguard ops o st kT kF).bind k := by
  unfold pguard
  split
  · rfl
  · split
    · rfl
    · split
      · rename_i b c _
        cases b <;> simp only [cond_true, cond_false] <;> split <;> rfl
      · rfl
      · rfl
theorem ifNeed_nat {l : List Bool} {x : Option R} {k : R → Option S} : ifNeed l (x.bind k) = (ifNeed l x).bind k := by
  cases l with
  | nil => rfl
  | cons a l => simp only [ifNeed]; cases conjB (a :: l) <;> rfl
theorem ifNeedG_nat {g : Bool} {l : List Bool} {x : Option R} {k : R → Option S} : ifNeedG g l (x.bind k) = (ifNeedG g l x).bind k := by
  cases l with
  | nil => rfl
  | cons a l => simp only [ifNeedG]; cases g <;> cases conjB (a :: l) <;> rfl
theorem bif_nat {b : Bool} {x y : Option R} {x' y' : Option S} {k : R → Option S} (hx : x' = x.bind k) (hy : y' = y.bind k) : (bif b then x' else y') = (bif b then x else y).bind k := by cases b <;> assumption
theorem popsQ_nat (hE : ∀ f fn, en.E f = some fn → fn.nat) {ops : Array Oper} {k : R → Option S} : ∀ (rest : List Oper) (acc : List PAct) (st : St) (os : OS) (ls : LS) (kn : OS) (k0 : St → List PAct → Option R), popsQ en ops rest acc st os ls kn (fun st acts => (k0 st acts).bind k) = (popsQ en ops rest acc st os ls kn k0).bind k
  | [], acc, st, os, ls, kn, k0 => rfl
  | o :: rest, acc, st, os, ls, kn, k0 => by
    have run : ∀ (os : OS) (ls : LS) (st : St) (L : List (Nat × Bool)) (kn : OS), (ifNeed (needOf en st os ls L o) (presolve en st o fun act =>
        if os.isEmpty || !isOwn act then match papply act o.dst st with
          | some st' => popsQ en ops rest (act :: acc) st' (delO o.dst os) (if isVal act then delL o.dst ls else []) kn (fun st acts => (k0 st acts).bind k)
          | none => none
        else none)) = (ifNeed (needOf en st os ls L o) (presolve en st o fun act =>
        if os.isEmpty || !isOwn act then match papply act o.dst st with
          | some st' => popsQ en ops rest (act :: acc) st' (delO o.dst os) (if isVal act then delL o.dst ls else []) kn k0
          | none => none
        else none)).bind k := by
      intro os ls st L kn
      rw [presolve_nat en hE, presolve_nat en hE (R := R), ← ifNeed_nat, obind_assoc]
      congr 2
      funext act
      split
      · split
        · exact popsQ_nat hE rest _ _ _ _ _ k0
        · rfl
      · rfl
    have sk : ∀ (st : St) (kn : OS), popsQ en ops rest (.skip :: acc) (putS o.dst (.tuple [], 0) st) (delO o.dst os) (delL o.dst ls) kn (fun st acts => (k0 st acts).bind k) = (popsQ en ops rest (.skip :: acc) (putS o.dst (.tuple [], 0) st) (delO o.dst os) (delL o.dst ls) kn k0).bind k := fun st kn => popsQ_nat hE rest _ _ _ _ _ k0
    simp only [popsQ]
    split
    · exact run _ _ st _ kn
    · split
      · exact sk st kn
      · split
        · split
          · exact sk st kn
          · rfl
        · split
          · refine bif_nat ?_ rfl
            split
            · exact run _ _ st _ kn
            · exact sk st kn
          · split
            · exact bif_nat rfl (popsQ_nat hE rest _ _ _ _ _ k0)
            · rfl
          · split
            · rw [presolve_nat en hE, presolve_nat en hE (R := R), ← ifNeedG_nat, obind_assoc]
              congr 2
              funext act
              split
              · split
                · exact popsQ_nat hE rest _ _ _ _ _ k0
                · rfl
              · rfl
            · split
              · exact bif_nat (run _ _ _ _ _) (popsQ_nat hE rest _ _ _ _ _ k0)
              · exact bif_nat (run _ _ _ _ _) (sk _ _)
        · rfl
theorem pregion_nat (hE : ∀ f fn, en.E f = some fn → fn.nat) {ops : Array Oper} {draw : Bool} {st : St} {k0 : St → Option R} {k : R → Option S} : pregion en ops draw st (fun st => (k0 st).bind k) = (pregion en ops draw st k0).bind k := by
  unfold pregion
  split
  · split
    · split
      · rw [← popsQ_nat hE]
        congr 1
        funext st' acts
        split <;> rfl
      · rfl
    · rw [← popsQ_nat hE]
  · rfl
theorem pnorm_nat {kp : Option Keep} {st : St} {k0 : St → Option R} {k : R → Option S} : pnorm kp st (fun st => (k0 st).bind k) = (pnorm kp st k0).bind k := by
  unfold pnorm
  split
  · rfl
  · split <;> rfl
theorem lookup_map {k : R → Option S} : ∀ (kx : List (Nat × (St → Option R))) (id : Nat), (kx.map fun p => (p.1, fun st => (p.2 st).bind k)).lookup id = (kx.lookup id).map fun g st => (g st).bind k
  | [], _ => rfl
  | (a, g) :: kx, id => by
    simp only [List.map_cons, List.lookup_cons]
    split
    · rfl
    · exact lookup_map kx id
theorem pcode_nat (hE : ∀ f fn, en.E f = some fn → fn.nat) {h : Hints} {fuel : Nat} {kr : St → Option R} {k : R → Option S} : ∀ (c : Code) (cur : Nat) (st : St) (kn : St → Option R) (kx : List (Nat × (St → Option R))),
    pcode en h fuel (fun st => (kr st).bind k) c cur st (fun st => (kn st).bind k) (kx.map fun p => (p.1, fun st => (p.2 st).bind k)) = (pcode en h fuel kr c cur st kn kx).bind k
  | .skip, cur, st, kn, kx => rfl
  | .label l, cur, st, kn, kx => rfl
  | .ret, cur, st, kn, kx => rfl
  | .exit id, cur, st, kn, kx => by
    simp only [pcode, lookup_map]
    rcases kx.lookup id with _ | g <;> rfl
  | .region id ops draw, cur, st, kn, kx => by
    simp only [pcode]
    exact pregion_nat hE
  | .seq a b, cur, st, kn, kx => by
    simp only [pcode]
    rw [← pcode_nat hE a]
    congr 1
    funext st'
    exact pcode_nat hE b cur st' kn kx
  | .cond c a b, cur, st, kn, kx => by
    simp only [pcode]
    split
    · rename_i t _
      cases t
      · exact pcode_nat hE b cur st kn kx
      · exact pcode_nat hE a cur st kn kx
    · rfl
  | .block id a, cur, st, kn, kx => by
    simp only [pcode]
    rw [← pcode_nat hE a]
    congr 1
    · funext st'; exact pnorm_nat
    · simp only [List.map_cons]
      congr 2
      funext st'; exact pnorm_nat
  | .loop a, cur, st, kn, kx => by
    simp only [pcode]
    rw [← pnorm_nat]
    congr 1
    funext st'
    have key : ∀ n st, ploop (h.loop.lookup cur) (fun st kn' => pcode en h fuel (fun st => (kr st).bind k) a cur st kn' (kx.map fun p => (p.1, fun st => (p.2 st).bind k))) n st = (ploop (h.loop.lookup cur) (fun st kn' => pcode en h fuel kr a cur st kn' kx) n st).bind k := by
      intro n
      induction n with
      | zero => intro st; rfl
      | succ n ih =>
        intro st
        simp only [ploop]
        rw [← pcode_nat hE a]
        congr 1
        funext st'
        rw [← pnorm_nat]
        congr 1
        funext st''
        exact ih st''
    exact key fuel st'
  | .rangeFunc _ _ _ _, _, _, _, _ => rfl
  | .scope _, _, _, _, _ => rfl
  | .goto _, _, _, _, _ => rfl
  | .refuse _, _, _, _, _ => rfl
end

/-- evaluated where it is called -/
def prunK {R : Type} (en : Env) (h : Hints) (fuel : Nat) (own : Bool) (fn : Func) (args : List PV) (k : PV → Option R) : Option R :=
  match fn.body with
  | some c => pcode en h fuel (fun st => (pfin en own fn st).bind k) c 0 (st0 fn.ntmps args) (fun st => (pfin en own fn st).bind k) []
  | none => none
theorem prunK_eq {R : Type} {en : Env} (hE : ∀ f fn, en.E f = some fn → fn.nat) {h : Hints} {fuel : Nat} {own : Bool} {fn : Func} {args : List PV} {k : PV → Option R} : prunK en h fuel own fn args k = (prun en h fuel own fn args).bind k := by
  unfold prunK prun
  cases fn.body with
  | none => rfl
  | some c => exact pcode_nat hE c 0 _ _ []
theorem obind_some {α β : Type} (o : Option α) (k : α → Option β) : o.bind k = (o.bind some).bind k := by cases o <;> rfl
def evalE (en : Env) (h : Hints) (fuel : Nat) (fn : Func) (own : Bool) : PFn := ⟨fun xs k => prunK en h fuel own fn xs k, own⟩
theorem evalE_F {R : Type} {en : Env} (hE : ∀ f fn, en.E f = some fn → fn.nat) {h : Hints} {fuel : Nat} {own : Bool} {fn : Func} (xs : List PV) (k : PV → Option R) : (evalE en h fuel fn own).F xs k = (prun en h fuel own fn xs).bind k := prunK_eq hE
theorem evalE_nat {en : Env} (hE : ∀ f fn, en.E f = some fn → fn.nat) {h : Hints} {fuel : Nat} {own : Bool} {fn : Func} : (evalE en h fuel fn own).nat := by
  intro R xs k
  rw [evalE_F hE, evalE_F hE]
  exact (obind_some _ k)
theorem evalE_run {en : Env} (hE : ∀ f fn, en.E f = some fn → fn.nat) {h : Hints} {fuel : Nat} {own : Bool} {fn : Func} (xs : List PV) (r : PV) (hr : (evalE en h fuel fn own).F xs (R := PV) some = some r) : prun en h fuel own fn xs = some r := by
  rw [evalE_F hE] at hr
  obtain ⟨a, h1, h2⟩ := bind_some_inv hr
  injection h2 with h2
  subst h2
  exact h1
noncomputable def evalFn (l : List (FuncId × PFn)) (h : Hints) (fuel : Nat) (fn : Func) (own : Bool := false) : PFn := evalE (en l) h fuel fn own
theorem evalFn_ok {NG : Nat} {W : World → Prop} (hW : WOK NG W) {l : List (FuncId × PFn)} (hl : AllOK NG W l) {h : Hints} {fuel : Nat} {own : Bool} {f : FuncId} {fn : Func} (hf : Tryz.prog.funcs[f]? = some fn) (hb : fn.body.isSome = true) (hname : fn.name ≠ "runtime.NumGoroutine") : FOK NG W f (evalFn l h fuel fn own) :=
  fok hW hl (h := h) hf hb hname (evalE_nat (env_ok hW hl).nat) (fun xs r hr => ⟨fuel, evalE_run (env_ok hW hl).nat xs r hr⟩)

end Go.Proofs.YtllpobcecingiaaGreatDoor
