/-
  Keys by the evaluator: what keys.Put does, by its old contract.
-/
import Derived.Test.YtclhnfalebiieaaDoorKw
import Derived.Test.YtclhnfalebiieaaDoorKeysB
set_option linter.unusedVariables false
set_option linter.unusedSimpArgs false
namespace Go.Proofs.YtclhnfalebiieaaDoor
open Go.RowKit

theorem relL_vals {M : Mem} : ∀ (vs : List Val) (us : List Value), RelL M (valsC vs) us → us = vcs vs
  | [], us, h => by
    have h : RelL M [] us := h
    simp only [RelL] at h
    exact h
  | v :: vs, us, h => by
    have h : RelL M (.int .i64 v.kind :: .int .i64 v.n :: .int .i64 v.scale :: .str v.s :: valsC vs) us := h
    simp only [RelL, RelD] at h
    obtain ⟨_, _, rfl, _, rfl, _, _, rfl, _, rfl, _, _, rfl, _, rfl, _, us', rfl, _, rfl, hq⟩ := h
    have e : us' = vcs vs := relL_vals vs us' hq
    rw [e]
    try rfl
theorem sl_vals {M : Mem} {nl : Option Bool} {vs : List Val} {v : Value} (h : RelD M (.sl nl 4 vs.length (valsC vs)) v) : ∃ A c, v = .slice A vs.length c ∧ Sl M.w 4 A vs.length c (vcs vs) := by
  simp only [RelD] at h
  obtain ⟨A, c, us, rfl, hnc, hcm, _, _, hl, hr, hx⟩ := h
  obtain rfl := relL_vals _ _ hr
  refine ⟨A, c, rfl, vcs_length vs, hnc, hcm, fun hn => ?_⟩
  rcases hx with hx | ⟨b, o, rfl, hc⟩
  · have := vcs_length vs
    rw [hx] at this
    simp only [List.length_nil] at this
    omega
  · refine ⟨b, o, rfl, ?_, fun j u hu => (hc j u hu).1⟩
    have h0 : 0 < (vcs vs).length := by rw [vcs_length]; omega
    have : (vcs vs)[0]? = some ((vcs vs)[0]'h0) := List.getElem?_eq_getElem h0
    exact World.block_lt_of_cell? M.w _ (hc 0 _ this).1
/-- the values that cells are -/
def vlC : List PV → Option (List Val)
  | [] => some []
  | .int .i64 a :: .int .i64 n :: .int .i64 c :: .str s :: l => (vlC l).map fun t => ⟨a, n, c, s⟩ :: t
  | _ => none
theorem vlC_vals : ∀ (vs : List Val), vlC (valsC vs) = some vs
  | [] => rfl
  | v :: vs => by
    show (vlC (valsC vs)).map (fun t => (⟨v.kind, v.n, v.scale, v.s⟩ : Val) :: t) = _
    rw [vlC_vals vs]; rfl
theorem vlC_inv : ∀ {c : List PV} {vs : List Val}, vlC c = some vs → c = valsC vs
  | c, vs, h => by
    unfold vlC at h
    split at h
    · injection h with h; subst h; rfl
    · rename_i a n b s l
      obtain ⟨t, ht, rfl⟩ := Option.map_eq_some_iff.1 h
      rw [vlC_inv ht]; rfl
    · cases h
def decV (n : Nat) (c : List PV) : Option (List Val) := (vlC c).bind fun vs => if n = vs.length then some vs else none
theorem decV_vals (vs : List Val) : decV vs.length (valsC vs) = some vs := by unfold decV; rw [vlC_vals]; simp
theorem decV_inv {n : Nat} {c : List PV} {vs : List Val} (h : decV n c = some vs) : n = vs.length ∧ c = valsC vs := by
  unfold decV at h
  obtain ⟨m, hm, h⟩ := Option.bind_eq_some_iff.1 h
  split at h
  · rename_i hl
    injection h with h
    subst h
    exact ⟨hl, vlC_inv hm⟩
  · cases h
def p_KeysPut : PFn := ⟨fun xs k => match xs with | [.sl _ 4 n c] => (decV n c).bind fun vs => bif decide (vs.length ≤ 100000) then k (.sl none 1 (encs vs).length (bC (encs vs))) else none | _ => none, false⟩
theorem ok_KeysPut : FOK NGk Tabs 12 p_KeysPut := by
  refine fok_new Tryd.func12 (by kernel_rfl) (by decide) ?_ rfl ?_
  · intro R xs k
    simp only [p_KeysPut]
    split
    · rename_i n c
      cases decV n c with
      | none => rfl
      | some vs => exact cond_nat
    · rfl
  · intro xs r M vs hW h hr
    simp only [p_KeysPut] at h
    split at h
    · rename_i nl n c
      obtain ⟨ws, h1, g⟩ := Option.bind_eq_some_iff.1 h
      obtain ⟨rfl, rfl⟩ := decV_inv h1
      rcases hb : decide (ws.length ≤ 100000) with _ | _ <;> rw [hb] at g
      · cases g
      · simp only [cond_true, Option.some.injEq] at g
        subst g
        simp only [decide_eq_true_eq] at hb
        obtain ⟨v, rfl, h2⟩ := relT1 hr
        obtain ⟨A, c, rfl, hs⟩ := sl_vals h2
        refine (keysPut_any M.w A ws.length c ws hs hb hW).mono ?_
        rintro e w' ⟨A', c', rfl, ho, _, hbl⟩
        exact ⟨_, rfl, hbl, fun U' hU => rel_own ho hU⟩
    · cases h
end Go.Proofs.YtclhnfalebiieaaDoor
