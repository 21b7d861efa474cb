/-
  Functions that are handed 'yield', evaluated where they are called; what the laws of walks ask ahead of everything else.
-/
import Derived.Test.YtmacjkiamejcnaaNc
set_option linter.unusedVariables false
set_option linter.unusedSimpArgs false
set_option maxRecDepth 100000
namespace Go.Proofs.Ytmacjkiamejcnaa
open Go.RowKit
def natY (y : YFn) : YFn := ⟨fun {R} bs o xs k => yF (R := R) y bs o xs k⟩
theorem natY_nat (y : YFn) : (natY y).nat := by
  intro R bs o xs k
  show yF y bs o xs k = (yF y bs o xs fun b o v => some (b, o, v)).bind fun r => k r.1 r.2.1 r.2.2
  unfold yF
  rw [obind_assoc]
  rfl
theorem natY_eq {y : YFn} (hy : y.nat) : natY y = y := by
  obtain ⟨F⟩ := y
  unfold natY yF
  congr 1
  funext R bs o xs k
  exact (hy R bs o xs k).symm
noncomputable def evalI (l : List (FuncId × PFn)) (lh : List (FuncId × HFn)) (li : List (FuncId × IFn)) (h : Hints) (fuel : Nat) (fn : Func) : IFn := ⟨fun bs o xs y k => prunI (enH l lh li) h fuel fn bs o xs (natY y) k⟩
theorem evalI_ok {l : List (FuncId × PFn)} (hl : AllOK NGt Wt l) {lh : List (FuncId × HFn)} (hh : AllH NGt Wt lh) {li : List (FuncId × IFn)} (hi : AllI NGt Wt li) {h : Hints} {fuel : Nat} {f : FuncId} {fn : Func} (hf : Try.prog.funcs[f]? = some fn) (hb : fn.body.isSome = true) (hname : fn.name ≠ "runtime.NumGoroutine") : IOK NGt Wt f (evalI l lh li h fuel fn) := by
  refine iok wokt hl hh hi (h := h) hf hb hname ?_ ?_
  · intro R bs o xs y k
    exact prunI_nat (env_okH wokt hl hh hi).nat (natY_nat y) (kk := fun b o v => some (b, o, v)) (k := fun r => k r.1 r.2.1 r.2.2)
  · intro bs o xs y r hy h
    refine ⟨fuel, ?_⟩
    have h' : prunI (enH l lh li) _ fuel fn bs o xs (natY y) (fun b o v => some (b, o, v)) = some r := h
    rwa [natY_eq hy] at h'
noncomputable def iOf : IFn := evalI [] [] [] h0 9 Try.f66
theorem ok_iOf : IOK NGt Wt 66 iOf := evalI_ok allOK_nil allH_nil allI_nil Try.func66 rfl (by decide)
noncomputable def iOfS : IFn := evalI [] [] [] h0 9 Try.f78
theorem ok_iOfS : IOK NGt Wt 78 iOfS := evalI_ok allOK_nil allH_nil allI_nil Try.func78 rfl (by decide)
noncomputable def iSkip : IFn := evalI [] [] [(66, iOf)] h0 9 Try.f77
theorem ok_iSkip : IOK NGt Wt 77 iSkip := evalI_ok allOK_nil allH_nil (allI_cons ok_iOf allI_nil) Try.func77 rfl (by decide)
noncomputable def iTakeS : IFn := evalI [] [] [(77, iSkip)] h0 9 Try.f64
theorem ok_iTakeS : IOK NGt Wt 64 iTakeS := evalI_ok allOK_nil allH_nil (allI_cons ok_iSkip allI_nil) Try.func64 rfl (by decide)
noncomputable def hE0 (fn : Func) : HFn := evalH [] [] [] h0 9 fn
noncomputable def lF : List (FuncId × PFn) := [(30, evalFn [] h0 9 Try.f30)]
theorem ok_lF : AllOK NGt Wt lF := allOK_cons (evalFn_ok wokt allOK_nil Try.func30 rfl (by decide)) allOK_nil
noncomputable def lhF : List (FuncId × HFn) := [(34, hE0 Try.f34), (55, hE0 Try.f55), (53, hE0 Try.f53), (29, hE0 Try.f29),
  (28, evalH [] [] [(64, iTakeS)] h0 9 Try.f28), (33, evalH [] [] [(66, iOf)] h0 9 Try.f33), (54, evalH [] [] [(78, iOfS)] h0 9 Try.f54)]
theorem hE0_ok {f : FuncId} {fn : Func} (hf : Try.prog.funcs[f]? = some fn) (hb : fn.body.isSome = true) (hname : fn.name ≠ "runtime.NumGoroutine") : HOK NGt Wt f (hE0 fn) := evalH_ok wokt allOK_nil allH_nil allI_nil hf hb hname
theorem ok_lhF : AllH NGt Wt lhF := allH_cons (hE0_ok Try.func34 rfl (by decide)) (allH_cons (hE0_ok Try.func55 rfl (by decide)) (allH_cons (hE0_ok Try.func53 rfl (by decide)) (allH_cons (hE0_ok Try.func29 rfl (by decide))
  (allH_cons (evalH_ok wokt allOK_nil allH_nil (allI_cons ok_iTakeS allI_nil) Try.func28 rfl (by decide)) (allH_cons (evalH_ok wokt allOK_nil allH_nil (allI_cons ok_iOf allI_nil) Try.func33 rfl (by decide)) (allH_cons (evalH_ok wokt allOK_nil allH_nil (allI_cons ok_iOfS allI_nil) Try.func54 rfl (by decide)) allH_nil))))))
theorem first9_true : prun (enTx lF lhF) h0 5 false Try.f10 [] = some (.bool true) := by kernel_rfl
def p_first9 : PFn := ⟨fun xs k => match xs with | [] => k (.bool true) | _ => none, false⟩
theorem ok_first9 : FOK NGt Wt 10 p_first9 := by
  refine fokX ok_lF ok_lhF (h := h0) Try.func10 rfl (by decide) ?_ ?_
  · intro R xs k
    simp only [p_first9]
    split <;> rfl
  · intro xs r h
    simp only [p_first9] at h
    split at h
    · exact ⟨5, first9_true.trans h⟩
    · cases h
/-- a run up to a place in the code, and what follows -/
theorem prun_U {en : Env} {h : Hints} {fu : Nat} {own : Bool} {fn : Func} {args : List PV} {c : Code} (hb : fn.body = some c) (p : List Nat) :
    prun en h fu own fn args = pcodeU en h fu (pfin en own fn) (fun p cur st => loopF en h fu own fn p cur fu st) (restAt en h fu (pfin en own fn) (fun p cur st => loopF en h fu own fn p cur fu st) p c [] 0 (pfin en own fn) []) p c [] 0 (st0 fn.ntmps args) (pfin en own fn) [] := by
  rw [prunN_eq]
  unfold prunN
  rw [hb]
  exact pcodeU_rest ..
end Go.Proofs.Ytmacjkiamejcnaa
