/-
  Arguments that come in: slices of structs, slices within structs, by the evaluator's relation.
-/
import Derived.Test.YtelckbphbkebkaaGreatDoorPGw
import Derived.ProofKit
import Derived.ChangeArms
import Derived.Deep.Slices
set_option linter.unusedVariables false
set_option linter.unusedSimpArgs false
set_option maxRecDepth 100000
namespace Go.Proofs.YtelckbphbkebkaaGreatDoor
open Go.ChangeShapes Go.WideShapes Go.ChangeAt Go.RowKit Go.Deep

def memU (w : World) (U : Nat → Nat) : Mem := ⟨w, U, ⟨0, fun _ _ => none⟩⟩
theorem law_runU {NG : Nat} {W : World → Prop} (hW : WOK NG W) {l : List (FuncId × PFn)} (hl : AllOK NG W l) {f : FuncId} {fn : Func} (hf : Tryz.prog.funcs[f]? = some fn) {h : Hints} {fuel : Nat} {w : World} {U : Nat → Nat} {xs : List PV} {vs : List Value}
    (hw : W w) (hng : NG ≤ w.heap.size) (hr : RelT (memU w U) xs vs) (hrun : prun (en l) h fuel false fn xs = some (.bool true)) :
    Calls Tryz.prog f vs.toArray w fun e w' => e = .returned (.bool true) ∧ Below w.heap.size w w' := by
  refine (run_ok (env_ok hW hl) rfl hf (M := memU w U) hw hng (fun g cs hg => by cases hg) hr hrun).mono ?_
  rintro e w' ⟨v, rfl, U', hm, hv, _⟩
  simp only [RelD] at hv
  subst hv
  exact ⟨rfl, hm.os, hm.tape, hm.output, hm.size, fun b hb => (hm.block b hb (by simp [memU])).1⟩
/-- cells that hold what is written, once the used room is large enough -/
def RelU (w : World) (ps : List PV) (cs : List Value) : Prop := ∃ B : Nat, ∀ U : Nat → Nat, (∀ b, B ≤ U b) → RelL (memU w U) ps cs
theorem RelU.of {w : World} {ps : List PV} {cs : List Value} (h : ∀ M, RelL M ps cs) : RelU w ps cs := ⟨0, fun U _ => h _⟩
theorem RelU.append {w : World} {ps qs : List PV} {cs ds : List Value} (h : RelU w ps cs) (k : RelU w qs ds) : RelU w (ps ++ qs) (cs ++ ds) := by
  obtain ⟨A, h⟩ := h
  obtain ⟨B, k⟩ := k
  exact ⟨max A B, fun U hU => (h U fun b => Nat.le_trans (Nat.le_max_left _ _) (hU b)).append (k U fun b => Nat.le_trans (Nat.le_max_right _ _) (hU b))⟩
theorem rows_rel {w : World} {base size : Nat} {a : Addr} {α : Type} {f : α → List PV} {Pa : α → Prop} : ∀ (k i : Nat), (∀ j, i ≤ j → j < i + k → ∃ cs', w.cells? base (a.add (j * size)) size = some cs' ∧ ∃ x, Pa x ∧ RelU w (f x) cs') →
    ∃ (l : List α) (vs : List Value), l.length = k ∧ (∀ x ∈ l, Pa x) ∧ vs.length = k * size ∧ RelU w (l.flatMap f) vs ∧ ∀ j u, vs[j]? = some u → w.cell? (a.add (i * size + j)) = some u
  | 0, i, _ => ⟨[], [], rfl, by simp, by simp, .of fun _ => rfl, by simp⟩
  | k + 1, i, h => by
    obtain ⟨cs, h1, x, px, hx⟩ := h i (Nat.le_refl _) (by omega)
    obtain ⟨l, vs, e1, e2, e3, e4, e5⟩ := rows_rel k (i + 1) (fun j h1 h2 => h j (by omega) (by omega))
    obtain ⟨_, hl, hg⟩ := World.cells?_some h1
    refine ⟨x :: l, cs ++ vs, by simp [e1], ?_, by rw [List.length_append, hl, e3, Nat.add_mul]; omega, ?_, fun j u hu => ?_⟩
    · intro y hy
      rcases List.mem_cons.1 hy with rfl | hy
      · exact px
      · exact e2 y hy
    · rw [List.flatMap_cons]
      exact hx.append e4
    · by_cases hj : j < size
      · rw [List.getElem?_append_left (by omega)] at hu
        have := hg j hj
        rw [hu, add_add] at this
        exact this
      · rw [List.getElem?_append_right (by omega), hl] at hu
        have := e5 _ u hu
        rw [Nat.add_mul, show i * size + 1 * size + (j - size) = i * size + j by omega] at this
        exact this
/-- a slice, its elements opened -/
theorem open_slR {H : Type} {enc : TypeId × Value → H} {P : Program} {w : World} {base : Nat} {sp : Nat → Bool} {held : Bool} {t e : TypeId} {fuel : Nat} {cs : List Value} {x : DataW H × List MemPlace} {α : Type} {f : α → List PV} {Pa : α → Prop} {size : Nat}
    (hs0 : 0 < size) (ht : P.underlying t = some (.slice e)) (hsz : P.cellsOf e = size) (hf : ∀ x, (f x).length = size)
    (he : ∀ n cs' y, n < fuel → DataW.trod enc P w base sp held n e cs' = some y → ∃ x, Pa x ∧ RelU w (f x) cs') (h : DataW.trod enc P w base sp held fuel t cs = some x) :
    ∃ A c, ∃ l : List α, cs = [.slice A l.length c] ∧ (∀ x ∈ l, Pa x) ∧ ∃ B : Nat, ∀ U : Nat → Nat, (∀ b, B ≤ U b) → RelD (memU w U) (.sl none size l.length (l.flatMap f)) (.slice A l.length c) := by
  have flen : ∀ l : List α, (l.flatMap f).length = l.length * size := by
    intro l
    induction l with
    | nil => simp
    | cons y l ih => rw [List.flatMap_cons, List.length_append, hf, ih, List.length_cons, Nat.add_mul]; omega
  rcases DataW.trod_slice ht h with ⟨rfl, _⟩ | ⟨a, len, cap, elems, rest, n, rfl, rfl, rfl, hb, hlc, hcm, hel0, hel, _⟩
  · refine ⟨none, 0, [], rfl, by simp, 0, fun U _ => ?_⟩
    simp only [RelD]
    exact ⟨none, 0, [], rfl, Nat.le_refl _, Nat.zero_le _, fun b hb => (by cases hb), fun _ => rfl, by simp, rfl, Or.inl rfl⟩
  · rw [hsz] at hel
    obtain ⟨l, vs, e1, e2, e3, ⟨B, e4⟩, e5⟩ := rows_rel (w := w) (base := base) (size := size) (a := a) (f := f) (Pa := Pa) len 0 (fun j _ hj => by
      have := hel j (by omega)
      rw [List.getElem?_eq_getElem (by omega)] at this
      obtain ⟨cs', h1, h2⟩ := Option.bind_eq_some_iff.1 this
      obtain ⟨x, px, hx⟩ := he n cs' _ (by omega) h2
      exact ⟨cs', h1, x, px, hx⟩)
    subst e1
    obtain ⟨b, off, spot⟩ := a
    refine ⟨_, cap, l, rfl, e2, max B (off + l.length * size), fun U hU => ?_⟩
    simp only [RelD]
    refine ⟨_, cap, vs, rfl, hlc, hcm, fun b hb => (by cases hb), fun h => (by cases h), flen l, e4 U fun b => Nat.le_trans (Nat.le_max_left _ _) (hU b), ?_⟩
    by_cases h0 : vs = []
    · exact Or.inl h0
    · have hp : 0 < vs.length := List.length_pos_iff.2 h0
      have h00 := e5 0 vs[0] (List.getElem?_eq_getElem hp)
      have hspot : spot = none := by
        have := World.cell?_spot (v := vs[0]) h00
        simpa [Addr.add] using this
      subst hspot
      refine Or.inr ⟨b, off, rfl, fun j u hu => ?_⟩
      have hj := (List.getElem?_eq_some_iff.1 hu).1
      have := e5 j u hu
      rw [Nat.zero_mul, Nat.zero_add, add_plain] at this
      refine ⟨this, ?_⟩
      have := hU b
      have := Nat.le_max_right B (off + l.length * size)
      show off + j < U b
      omega
end Go.Proofs.YtelckbphbkebkaaGreatDoor
