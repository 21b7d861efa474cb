/-
  Functions: what the evaluator yields, the call returns.
-/
import Derived.Test.YtllpobcecingiaaGreatDoorPt
set_option linter.unusedVariables false
set_option linter.unusedSimpArgs false
namespace Go.Proofs.YtllpobcecingiaaGreatDoor
open Go.RowKit

section
variable {en : Env} {NG : Nat} {W : World → Prop}

def resultRun (P : Program) (tmps : Array Value) : ResultVar → Sem Value
  | .tmp t => pure (tmps.getD t undef)
  | .cell a t => do loadVar t (← asAddr (tmps.getD a undef))

theorem presult_ok {M0 : Mem} {st : St} {a : Act} {M : Mem} {β κ : Nat → Option Nat} (hI : Inv NG M0 st a M β κ) {r : ResultVar} {x : PV} (h : presult en st r = some x) : ∃ v, (resultRun en.P a.tmps r).run en.P M.w = .ok v M.w ∧ RelD M x v := by
  cases r with
  | tmp t =>
    simp only [presult] at h
    split at h
    · rename_i y hy
      obtain ⟨hd, h⟩ := ite_inv h
      injection h with h
      subst h
      obtain ⟨v, h1, h2, _⟩ := hI.slot t y hy
      exact ⟨v, by simp [resultRun, h1], h2.data hd⟩
    · cases h
  | cell p t =>
    simp only [presult] at h
    split at h
    · rename_i id off c hp
      split at h
      · rename_i cs hbx
        obtain ⟨hok, h⟩ := ite_inv h
        simp only [Bool.and_eq_true, Bool.or_eq_true, beq_iff_eq] at hok
        have hT : TypesOK en.P t := ⟨hok.1⟩
        obtain ⟨dd, hd⟩ := hT.un
        have hti := und_isSome hd
        obtain ⟨v, h1, h2, _⟩ := hI.slot p _ hp
        obtain ⟨b, hb, he⟩ := rel_ptr h2
        obtain ⟨cs1, arr, e, k1, k2, k3, k4, k5⟩ := hI.box id b hb
        rw [hbx] at k1
        injection k1 with k1
        injection k1 with k1
        subst k1
        have hv : a.tmps.getD p undef = .pointer (some ⟨b, off, none⟩) := by rw [← he]; simp [h1]
        have hcell : ∀ n j u, ((arr.toList.take (off + n)).drop off)[j]? = some u → M.w.cell? ⟨b, off + j, none⟩ = some u := by
          intro n j u hu
          rw [cell_of_row _ _ _ arr e (0, 0) k2]
          rw [List.getElem?_drop, List.getElem?_take] at hu
          split at hu
          · simpa using hu
          · cases hu
        cases hag : isAggT en.P t
        · rw [hag] at h
          simp only [Bool.false_eq_true, if_false] at h
          obtain ⟨y, hy, rfl⟩ := Option.map_eq_some_iff.1 h
          obtain ⟨u, g1, g2, g3, g4⟩ := k3.2 off y hy
          have hl := run_loadVar (P := en.P) (w := M.w) (t := t) (b := b) (off := off) (vs := [u]) hti hT.un (by rw [hok.2.resolve_left (by simp [hag])]; rfl) (fun j u' hj => by
            cases j with
            | zero => simp at hj; subst hj; rw [Nat.add_zero, cell_of_row _ _ _ arr e (0, 0) k2]; simpa using g1
            | succ j => simp at hj) (fun _ => rfl)
          exact ⟨u, by simp only [resultRun, hv]; simp [asAddr, hl, hag], g3⟩
        · rw [hag] at h
          simp only [if_true] at h
          obtain ⟨hle, h⟩ := ite_inv h
          injection h with h
          subst h
          have hr := k3.piece off (szOf en.P t)
          have hl := run_loadVar (P := en.P) (w := M.w) hti hT.un (b := b) (off := off) (vs := (arr.toList.take (off + szOf en.P t)).drop off) (by have := k3.1; simp at this ⊢; omega) (hcell _) (by simp [hag])
          refine ⟨.agg ((arr.toList.take (off + szOf en.P t)).drop off).toArray, by simp only [resultRun, hv]; simp [asAddr, hl, hag], ?_⟩
          simp only [RelD]
          exact ⟨_, rfl, hr⟩
      · cases h
    · cases h

theorem presults_ok {M0 : Mem} {st : St} {a : Act} {M : Mem} {β κ : Nat → Option Nat} (hI : Inv NG M0 st a M β κ) : ∀ {rs : List ResultVar} {xs : List PV}, presults en st rs = some xs → ∃ vs, (rs.mapM (resultRun en.P a.tmps)).run en.P M.w = .ok vs M.w ∧ RelT M xs vs
  | [], xs, h => by
    simp only [presults, Option.some.injEq] at h
    subst h
    exact ⟨[], rfl, rfl⟩
  | r :: rs, xs, h => by
    simp only [presults] at h
    split at h
    · rename_i x hx
      obtain ⟨ys, hy, rfl⟩ := Option.map_eq_some_iff.1 h
      obtain ⟨v, h1, h2⟩ := presult_ok hI hx
      obtain ⟨vs, h3, h4⟩ := presults_ok hI hy
      exact ⟨v :: vs, by simp [List.mapM_cons, h1, h3], v, vs, rfl, h2, h4⟩
    · cases h

theorem results_run {P : Program} {fn : Func} {tmps : Array Value} {w : World} {vs : List Value} (h : (fn.results.toList.mapM (resultRun P tmps)).run P w = .ok vs w) : (results fn tmps).run P w = .ok (if h : vs.toArray.size = 1 then vs.toArray[0] else .tuple vs.toArray) w := by
  have e : (results fn tmps) = (do let vs ← fn.results.mapM (resultRun P tmps); pure (if h : vs.size = 1 then vs[0] else .tuple vs) : Sem Value) := by
    unfold results
    congr 1
  rw [e, Array.mapM_eq_mapM_toList]
  simp only [Sem.run_bind, Sem.run_map, h, Result.andThen_ok, Sem.run_pure]

theorem fin_ok {own : Bool} {fn : Func} {M0 : Mem} {st : St} {a : Act} {M : Mem} {β κ : Nat → Option Nat} (hI : Inv NG M0 st a M β κ) {r : PV} (h : pfin en own fn st = some r) :
    ∃ v, (results fn a.tmps).run en.P M.w = .ok v M.w ∧ RelD M r v ∧ (own = true → ∃ nl sz n cells, r = .sl nl sz n cells ∧ (Free v ∨ ∃ g, M0.w.heap.size ≤ g ∧ OwnAt M g sz v)) := by
  unfold pfin at h
  obtain ⟨hcl, h⟩ := ite_inv h
  split at h
  · rename_i x hx
    injection h with h
    subst h
    obtain ⟨vs, h1, h2⟩ := presults_ok hI hx
    simp only [RelT] at h2
    obtain ⟨u, us, rfl, h3, rfl⟩ := h2
    have hrun := results_run h1
    simp only [List.size_toArray, List.length_singleton, dite_true] at hrun
    refine ⟨u, by simpa using hrun, h3, fun ho => ?_⟩
    subst ho
    simp only [Bool.not_true, Bool.false_or] at hcl
    generalize hrs : fn.results.toList = rs at hcl hx h1
    unfold pclaim at hcl
    split at hcl
    · rename_i t
      split at hcl
      · rename_i nl sz n cells c hc
        obtain ⟨v, k1, k2, k3⟩ := hI.slot t _ hc
        simp only [presults, presult, hc] at hx
        rcases k3 with k3 | ⟨nl', sz', n', cells', he, k3⟩
        · have k4 : c = 0 := k3
          rw [k4] at hcl
          cases hcl
        · simp only [PV.data, if_true, Option.map_some, Option.some.injEq, List.cons.injEq, and_true] at hx
          injection he with e1 e2 e3 e4
          subst e2
          have hvu : v = u := by
            simp only [List.mapM_cons, List.mapM_nil, resultRun, Sem.run_bind, Sem.run_pure, Result.andThen_ok] at h1
            injection h1 with h1 _
            injection h1 with h1 _
            rw [← h1]
            simp [k1]
          subst hvu
          refine ⟨nl, sz, n, cells, hx.symm, ?_⟩
          rcases k3 with k3 | ⟨h2, g, hk, ho⟩
          · exact .inl k3
          · exact .inr ⟨g, hI.klow _ g hk, ho⟩
      · cases hcl
    · cases hcl
  · rename_i xs hne hx
    injection h with h
    subst h
    obtain ⟨vs, h1, h2⟩ := presults_ok hI hx
    have hl := h2.length
    have hne1 : ¬ vs.toArray.size = 1 := by
      intro e
      simp at e
      match xs, hl with
      | [x], _ => exact hne x rfl
      | [], hl => simp at hl; omega
      | _ :: _ :: _, hl => simp at hl; omega
    have hrun := results_run h1
    rw [dif_neg hne1] at hrun
    refine ⟨_, hrun, by simp only [RelD]; exact ⟨vs, rfl, h2⟩, fun ho => ?_⟩
    subst ho
    simp only [Bool.not_true, Bool.false_or] at hcl
    generalize hrs : fn.results.toList = rs at hcl hx
    unfold pclaim at hcl
    split at hcl
    · rename_i t
      simp only [presults] at hx
      split at hx
      · simp only [Option.map_some, Option.some.injEq] at hx
        exact (hne _ hx.symm).elim
      · cases hx
    · cases hcl
  · cases h

theorem RelT.mono' {M M' : Mem} (hm : M.le M') {xs : List PV} {vs : List Value} (h : RelT M xs vs) : RelT M' xs vs := RelT.mono hm xs vs h

theorem start_inv {M : Mem} {n : Nat} {xs : List PV} {vs : List Value} (hng : NG ≤ M.w.heap.size) (hr : RelT M xs vs) : Inv NG M (st0 n xs) { tmps := vs.toArray ++ Array.replicate (n - vs.toArray.size) undef, defers := [] } M (fun _ => none) (fun _ => none) where
  below := Below.refl _ _
  baseU := fun _ _ => rfl
  ng := hng
  defers := rfl
  len := by simp [st0, hr.length]
  slot := by
    intro t x hx
    simp only [st0] at hx
    have hl := hr.length
    by_cases h : t < xs.length
    · rw [List.getElem?_append_left (by simpa using h), List.getElem?_map] at hx
      rcases ht : xs[t]? with _ | y
      · rw [ht] at hx; simp at hx
      · rw [ht] at hx
        simp only [Option.map_some, Option.some.injEq] at hx
        subst hx
        obtain ⟨u, h1, h2⟩ := hr.get ht
        refine ⟨u, ?_, RelS.of_data h2, .inl rfl⟩
        rw [Array.getElem?_append_left (by simp; omega)]
        simpa using h1
    · rw [List.getElem?_append_right (by simpa using h), List.getElem?_replicate] at hx
      obtain ⟨h2, hx⟩ := ite_inv hx
      injection hx with hx
      subst hx
      refine ⟨undef, ?_, rel_void, .inl rfl⟩
      rw [Array.getElem?_append_right (by simp; omega), Array.getElem?_replicate, if_pos (by simp at h2 ⊢; omega)]
  box := by intro id b h; cases h
  alive := by
    intro id cs h
    simp only [st0, List.getElem?_replicate] at h
    obtain ⟨_, h⟩ := ite_inv h
    cases h
  binj := by intro _ _ _ h; cases h
  kinj := by intro _ _ _ h; cases h
  kbox := by intro _ _ _ _ h; cases h
  klow := by intro _ _ h; cases h
  khigh := by intro _ _ h; cases h

theorem run_ok (hE : EnvOK en NG W) {f : FuncId} {fn : Func} (hf : en.P.funcs[f]? = some fn) {h : Hints} {fuel : Nat} {own : Bool} {M : Mem} {xs : List PV} {vs : List Value} {r : PV} (hW : W M.w) (hng : NG ≤ M.w.heap.size) (hG : GOK en M) (hr : RelT M xs vs)
    (hrun : prun en h fuel own fn xs = some r) : Calls en.P f vs.toArray M.w fun e w' => ∃ v, e = .returned v ∧ ∃ U', Move M ⟨w', U'⟩ none ∧ RelD ⟨w', U'⟩ r v ∧ (own = true → ∃ nl sz n cells, r = .sl nl sz n cells ∧ (Free v ∨ ∃ g, M.w.heap.size ≤ g ∧ OwnAt ⟨w', U'⟩ g sz v)) := by
  unfold prun at hrun
  split at hrun
  · rename_i c hc
    refine calls_of_wp hf hc (code_sim hE hG hW c 0 _ _ _ hrun _ M _ _ (start_inv hng hr) _ ?_ ?_ ?_)
    · intro st' a' M' β' κ' hI' h'
      obtain ⟨v, h1, h2, h3⟩ := fin_ok hI' h'
      exact ⟨hI'.defers, v, h1, v, rfl, M'.U, hI'.move0, h2, h3⟩
    · intro id k hk
      simp at hk
    · intro st' a' M' β' κ' hI' h'
      obtain ⟨v, h1, h2, h3⟩ := fin_ok hI' h'
      exact ⟨hI'.defers, v, h1, v, rfl, M'.U, hI'.move0, h2, h3⟩
  · cases hrun

/-- a function of the program may be called as its pure function says -/
theorem FnOK.of_run {en' : Env} (hE : EnvOK en NG W) (hP : en.P = en'.P) (hG : en.G = en'.G) {f : FuncId} {fn : Func} (hf : en.P.funcs[f]? = some fn) (hb : fn.body.isSome = true) (hname : fn.name ≠ "runtime.NumGoroutine") {p : PFn} (hn : p.nat) {h : Hints}
    (hrun : ∀ xs r, p.F xs (R := PV) some = some r → ∃ fuel, prun en h fuel p.own fn xs = some r) : FnOK en' NG W f p where
  nat := hn
  call := by
    intro M xs vs r hW hng hg hr hF
    obtain ⟨fuel, hrun⟩ := hrun xs r hF
    have hg' : GOK en M := by
      intro g cs hgc
      rw [hG] at hgc
      exact hg g cs hgc
    rw [← hP]
    refine .inr ⟨?_, run_ok hE hf hW hng hg' hr hrun⟩
    have hb' : ¬ fn.body = none := by intro e; rw [e] at hb; cases hb
    simp [callFunc, hf]
    rw [if_neg hname, if_neg hb']
end

end Go.Proofs.YtllpobcecingiaaGreatDoor
