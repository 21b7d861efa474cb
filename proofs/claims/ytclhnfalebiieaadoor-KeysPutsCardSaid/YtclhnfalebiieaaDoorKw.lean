/-
  Keys by the evaluator: old contracts whose result is a new slice of bytes.
-/
import Derived.Test.YtclhnfalebiieaaDoorKv
set_option linter.unusedVariables false
set_option linter.unusedSimpArgs false
namespace Go.Proofs.YtclhnfalebiieaaDoor
open Go.RowKit

/-- a function whose contract is known: it returns a value that may lie in new memory, and leaves what was there -/
theorem fok_new {NG : Nat} {W : World → Prop} {f : FuncId} {fn : Func} (hf : Tryd.prog.funcs[f]? = some fn) (hb : fn.body.isSome = true) (hname : fn.name ≠ "runtime.NumGoroutine") {p : PFn} (hn : p.nat) (ho : p.own = false)
    (hrun : ∀ (xs : List PV) (r : PV) (M : Mem) (vs : List Value), W M.w → p.F xs (R := PV) some = some r → RelT M xs vs → Calls Tryd.prog f vs.toArray M.w fun e w' => ∃ v, e = .returned v ∧ Below M.w.heap.size M.w w' ∧
      ∀ U', (∀ b o, M.w.heap.size ≤ b → o < 18446744073709551616 → o < U' b) → RelD ⟨w', U'⟩ r v) : FOK NG W f p where
  nat := hn
  call := by
    intro M xs vs r hW hng hg hr hF
    have hb' : ¬ fn.body = none := by intro e; rw [e] at hb; cases hb
    refine .inr ⟨?_, (hrun xs r M vs hW hF hr).mono ?_⟩
    · show (callFunc f vs.toArray).run Tryd.prog M.w = _
      simp [callFunc, hf]
      rw [if_neg hname, if_neg hb']
    · rintro e w' ⟨v, rfl, h1, h2⟩
      refine ⟨v, rfl, fun b => if b < M.w.heap.size then M.U b else 18446744073709551616, Move.mk0 h1 fun b hb => if_pos hb, h2 _ ?_, fun h => by rw [ho] at h; cases h⟩
      intro b o hb ho
      rw [if_neg (by omega)]
      exact ho
theorem rel_bvs (M : Mem) : ∀ (l : List UInt8), RelL M (bC l) (bvs l)
  | [] => rfl
  | c :: l => by
    show RelL M (bytePV c :: bC l) (bv c :: bvs l)
    simp only [RelL, RelD]
    exact ⟨_, _, rfl, rfl, rfl, rel_bvs M l⟩
theorem rel_own {w' : World} {U' : Nat → Nat} {B : Nat} {e : TypeId} {v : Value} {l : List UInt8} (h : w'.ownsRow B e 1 v l.length (bvs l)) (hU : ∀ b o, B ≤ b → o < 18446744073709551616 → o < U' b) :
    RelD ⟨w', U'⟩ (.sl none 1 l.length (bC l)) v := by
  simp only [RelD]
  rcases h.2 with ⟨rfl, hx⟩ | ⟨g, cap, cur, rfl, hg, hh, hnc, hcm, hsz, ht⟩
  · have : l = [] := List.length_eq_zero_iff.1 hx
    subst this
    refine ⟨none, 0, [], rfl, Nat.le_refl _, Nat.zero_le _, ?_, fun _ => rfl, rfl, rfl, Or.inl rfl⟩
    intro b hb
    cases hb
  · have hlt := (h.lt g rfl).2
    refine ⟨_, cap, bvs l, rfl, hnc, hcm, ?_, ?_, ?_, rel_bvs _ l, Or.inr ⟨g, 0, rfl, fun j u hu => ⟨?_, ?_⟩⟩⟩
    · intro b hb; cases hb
    · intro e; cases e
    · simp [bC]
    · have := h.cells (g := g) rfl j u hu
      rw [← this]
      congr 1
      unfold Addr.add
      split <;> simp_all
    · refine hU g _ hg ?_
      have : j < (bvs l).length := (List.getElem?_eq_some_iff.1 hu).1
      rw [bvs_length] at this
      unfold maxLen at hcm
      omega
end Go.Proofs.YtclhnfalebiieaaDoor
