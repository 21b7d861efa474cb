/-
  The invariant between the evaluator's state and the machine's, and how it is kept.
-/
import Derived.Test.YtllpobcecingiaaGreatDoorPe
import Derived.LoopN
set_option linter.unusedVariables false
set_option linter.unusedSimpArgs false
namespace Go.Proofs.YtllpobcecingiaaGreatDoor
open Go.RowKit

/-! ## moves of the memory -/
structure Move (M M' : Mem) (ex : Option Nat) : Prop where
  os : M'.w.os = M.w.os
  tape : M'.w.tape = M.w.tape
  output : M'.w.output = M.w.output
  size : M.w.heap.size ≤ M'.w.heap.size
  block : ∀ b, b < M.w.heap.size → some b ≠ ex → M'.w.heap[b]? = M.w.heap[b]? ∧ M'.U b = M.U b
  le : M.le M'

theorem cell_lt {w : World} {b o : Nat} {u : Value} (h : w.cell? ⟨b, o, none⟩ = some u) : b < w.heap.size := World.block_lt_of_cell? w _ h
theorem heap_lt {w : World} {b : Nat} {x : Obj} (h : w.heap[b]? = some x) : b < w.heap.size := (Array.getElem?_eq_some_iff.1 h).1

theorem Move.mk0 {M M' : Mem} (hb : Below M.w.heap.size M.w M'.w) (hU : ∀ b, b < M.w.heap.size → M'.U b = M.U b) : Move M M' none :=
  ⟨hb.os, hb.tape, hb.output, hb.size, fun b h _ => ⟨hb.block b h, hU b h⟩, fun b o u h1 h2 => by
    have := cell_lt h1
    exact ⟨(hb.cell (p := ⟨b, o, none⟩) this).trans h1, by rw [hU b this]; exact h2⟩⟩
theorem Move.refl (M : Mem) : Move M M none := ⟨rfl, rfl, rfl, Nat.le_refl _, fun _ _ _ => ⟨rfl, rfl⟩, M.le_refl⟩
theorem Move.below {M M' : Mem} (h : Move M M' none) : Below M.w.heap.size M.w M'.w := ⟨h.os, h.tape, h.output, h.size, fun b hb => (h.block b hb (by simp)).1⟩
/-- the world moved by draws and new blocks alone -/
theorem Move.world {M : Mem} {w' : World} (hb : Below M.w.heap.size M.w w') : Move M ⟨w', M.U⟩ none := Move.mk0 hb fun _ _ => rfl

/-! ## claims -/
def Free (v : Value) : Prop := ∃ A n, v = .slice A n n
structure OwnAt (M : Mem) (g sz : Nat) (v : Value) : Prop where
  ex : ∃ n cap cur e, v = .slice (some ⟨g, 0, none⟩) n cap ∧ M.w.heap[g]? = some (.cells cur e (0, 0)) ∧ n ≤ cap ∧ cap ≤ maxLen ∧ cur.size = cap * sz ∧ M.U g = n * sz
def TagOK (M : Mem) (κ : Nat → Option Nat) (x : PV) (c : Nat) (v : Value) : Prop :=
  c = 0 ∨ ∃ nl sz n cells, x = .sl nl sz n cells ∧ (Free v ∨ (2 ≤ c ∧ ∃ g, κ c = some g ∧ OwnAt M g sz v))
theorem TagOK.zero {M : Mem} {κ : Nat → Option Nat} {x : PV} {v : Value} : TagOK M κ x 0 v := .inl rfl
theorem OwnAt.lt {M : Mem} {g sz : Nat} {v : Value} (h : OwnAt M g sz v) : g < M.w.heap.size := by
  obtain ⟨n, cap, cur, e, _, h, _⟩ := h.ex
  exact heap_lt h
theorem OwnAt.move {M M' : Mem} {ex : Option Nat} (hm : Move M M' ex) {g sz : Nat} {v : Value} (h : OwnAt M g sz v) (hg : some g ≠ ex) : OwnAt M' g sz v := by
  obtain ⟨n, cap, cur, e, h1, h2, h3, h4, h5, h6⟩ := h.ex
  obtain ⟨k1, k2⟩ := hm.block g (heap_lt h2) hg
  exact ⟨n, cap, cur, e, h1, k1.trans h2, h3, h4, h5, k2.trans h6⟩
theorem TagOK.move {M M' : Mem} {ex : Option Nat} (hm : Move M M' ex) {κ : Nat → Option Nat} {x : PV} {c : Nat} {v : Value} (h : TagOK M κ x c v) (hg : ∀ g, κ c = some g → some g ≠ ex) : TagOK M' κ x c v := by
  rcases h with h | ⟨nl, sz, n, cells, hx, h⟩
  · exact .inl h
  · refine .inr ⟨nl, sz, n, cells, hx, ?_⟩
    rcases h with h | ⟨hc, g, hk, ho⟩
    · exact .inl h
    · exact .inr ⟨hc, g, hk, ho.move hm (hg g hk)⟩
/-- another naming of the claims that says the same of this one -/
theorem TagOK.rename {M : Mem} {κ κ' : Nat → Option Nat} {x : PV} {c : Nat} {v : Value} (h : TagOK M κ x c v) (hk : κ' c = κ c) : TagOK M κ' x c v := by
  rcases h with h | ⟨nl, sz, n, cells, hx, h⟩
  · exact .inl h
  · refine .inr ⟨nl, sz, n, cells, hx, ?_⟩
    rcases h with h | ⟨hc, g, hk', ho⟩
    · exact .inl h
    · exact .inr ⟨hc, g, hk.trans hk', ho⟩

/-! ## the invariant -/
def BoxOK (M : Mem) (κ : Nat → Option Nat) (cs : List TV) (arr : List Value) : Prop :=
  cs.length = arr.length ∧ ∀ (j : Nat) (x : TV), cs[j]? = some x → ∃ u, arr[j]? = some u ∧ u.oneCell' = true ∧ RelD M x.1 u ∧ TagOK M κ x.1 x.2 u
theorem BoxOK.move {M M' : Mem} {ex : Option Nat} (hm : Move M M' ex) {κ : Nat → Option Nat} {cs : List TV} {arr : List Value} (h : BoxOK M κ cs arr) (hg : ∀ c g, κ c = some g → some g ≠ ex) : BoxOK M' κ cs arr :=
  ⟨h.1, fun j x hx => let ⟨u, h1, h2, h3, h4⟩ := h.2 j x hx; ⟨u, h1, h2, h3.mono hm.le, h4.move hm (hg _)⟩⟩
theorem BoxOK.rel {M : Mem} {κ : Nat → Option Nat} : ∀ {cs : List TV} {arr : List Value}, BoxOK M κ cs arr → RelL M (cs.map (·.1)) arr
  | [], arr, h => by
    have := h.1
    cases arr with
    | nil => rfl
    | cons a l => simp at this
  | x :: cs, [], h => by have := h.1; simp at this
  | x :: cs, u :: arr, h => by
    obtain ⟨v, h1, h2, h3, _⟩ := h.2 0 x rfl
    simp at h1
    subst h1
    exact ⟨u, arr, rfl, h2, h3, BoxOK.rel ⟨by have := h.1; simpa using this, fun j y hy => h.2 (j + 1) y hy⟩⟩
theorem BoxOK.of_rel {M : Mem} {κ : Nat → Option Nat} {xs : List PV} {arr : List Value} (h : RelL M xs arr) : BoxOK M κ (xs.map fun x => (x, 0)) arr :=
  ⟨by simp [h.length], fun j x hx => by
    rw [List.getElem?_map] at hx
    rcases hj : xs[j]? with _ | y
    · rw [hj] at hx; simp at hx
    · rw [hj] at hx
      simp at hx
      subst hx
      obtain ⟨u, h1, h2, h3⟩ := h.get hj
      exact ⟨u, h1, h2, h3, .inl rfl⟩⟩

structure Inv (NG : Nat) (M0 : Mem) (st : St) (a : Act) (M : Mem) (β κ : Nat → Option Nat) : Prop where
  below : Below M0.w.heap.size M0.w M.w
  baseU : ∀ b, b < M0.w.heap.size → M.U b = M0.U b
  ng : NG ≤ M0.w.heap.size
  defers : a.defers = []
  len : st.ρ.length = a.tmps.size
  slot : ∀ (t : Nat) (x : TV), st.ρ[t]? = some x → ∃ v, a.tmps[t]? = some v ∧ RelS M β x.1 v ∧ TagOK M κ x.1 x.2 v
  box : ∀ (id b : Nat), β id = some b → ∃ cs arr e, st.bx[id]? = some (some cs) ∧ M.w.heap[b]? = some (.cells arr e (0, 0)) ∧ BoxOK M κ cs arr.toList ∧ M.U b = 0 ∧ M0.w.heap.size ≤ b
  alive : ∀ (id : Nat) (cs : List TV), st.bx[id]? = some (some cs) → ∃ b, β id = some b
  binj : ∀ id id' b, β id = some b → β id' = some b → id = id'
  kinj : ∀ c c' g, κ c = some g → κ c' = some g → c = c'
  kbox : ∀ c g id b, κ c = some g → β id = some b → g ≠ b
  klow : ∀ c g, κ c = some g → M0.w.heap.size ≤ g
  khigh : ∀ c g, κ c = some g → g < M.w.heap.size

theorem Inv.le0 {NG : Nat} {M0 : Mem} {st : St} {a : Act} {M : Mem} {β κ : Nat → Option Nat} (h : Inv NG M0 st a M β κ) : M0.le M :=
  (Move.mk0 h.below h.baseU).le
theorem Inv.move0 {NG : Nat} {M0 : Mem} {st : St} {a : Act} {M : Mem} {β κ : Nat → Option Nat} (h : Inv NG M0 st a M β κ) : Move M0 M none := Move.mk0 h.below h.baseU

/-- draws and new blocks alone -/
theorem Inv.grow {NG : Nat} {M0 : Mem} {st : St} {a : Act} {M M' : Mem} {β κ : Nat → Option Nat} (h : Inv NG M0 st a M β κ) (hm : Move M M' none) : Inv NG M0 st a M' β κ where
  below := h.below.trans (hm.below.mono h.below.size)
  baseU := fun b hb => (hm.block b (Nat.lt_of_lt_of_le hb h.below.size) (by simp)).2.trans (h.baseU b hb)
  ng := h.ng
  defers := h.defers
  len := h.len
  slot := fun t x hx => let ⟨v, h1, h2, h3⟩ := h.slot t x hx; ⟨v, h1, h2.mono hm.le (fun _ _ h => h), h3.move hm (fun _ _ => by simp)⟩
  box := fun id b hb => by
    obtain ⟨cs, arr, e, h1, h2, h3, h4, h5⟩ := h.box id b hb
    obtain ⟨k1, k2⟩ := hm.block b (heap_lt h2) (by simp)
    exact ⟨cs, arr, e, h1, k1.trans h2, h3.move hm (fun _ _ _ => by simp), k2.trans h4, h5⟩
  alive := h.alive
  binj := h.binj
  kinj := h.kinj
  kbox := h.kbox
  klow := h.klow
  khigh := fun c g hk => Nat.lt_of_lt_of_le (h.khigh c g hk) hm.size

theorem put_tmps (a : Act) (d : Option Tmp) (v : Value) : (a.put d v).defers = a.defers ∧ (a.put d v).tmps.size = a.tmps.size := by
  cases d <;> simp [Act.put]
theorem putS_bx (d : Option Tmp) (x : TV) (st : St) : (putS d x st).bx = st.bx := by cases d <;> rfl
theorem putS_len (d : Option Tmp) (x : TV) (st : St) : (putS d x st).ρ.length = st.ρ.length := by cases d <;> simp [putS]

theorem Inv.put {NG : Nat} {M0 : Mem} {st : St} {a : Act} {M : Mem} {β κ : Nat → Option Nat} (h : Inv NG M0 st a M β κ) (d : Option Tmp) {x : TV} {v : Value} (hx : RelS M β x.1 v) (ht : TagOK M κ x.1 x.2 v) :
    Inv NG M0 (putS d x st) (a.put d v) M β κ where
  below := h.below
  baseU := h.baseU
  ng := h.ng
  defers := (put_tmps a d v).1.trans h.defers
  len := by rw [putS_len, (put_tmps a d v).2]; exact h.len
  slot := by
    intro t y hy
    cases d with
    | none => exact h.slot t y hy
    | some d =>
      simp only [putS, Act.put] at hy ⊢
      by_cases hdt : d = t
      · subst hdt
        have hlt : d < st.ρ.length := by
          rcases Nat.lt_or_ge d st.ρ.length with h' | h'
          · exact h'
          · rw [List.getElem?_eq_none (by simpa using h')] at hy; cases hy
        rw [List.getElem?_set_self hlt] at hy
        injection hy with hy
        subst hy
        exact ⟨v, by rw [Array.getElem?_setIfInBounds_self_of_lt (by rw [← h.len]; exact hlt)], hx, ht⟩
      · rw [List.getElem?_set_ne hdt] at hy
        obtain ⟨u, h1, h2⟩ := h.slot t y hy
        exact ⟨u, by rw [Array.getElem?_setIfInBounds_ne hdt]; exact h1, h2⟩
  box := fun id b hb => by rw [putS_bx]; exact h.box id b hb
  alive := fun id cs hc => by rw [putS_bx] at hc; exact h.alive id cs hc
  binj := h.binj
  kinj := h.kinj
  kbox := h.kbox
  klow := h.klow
  khigh := h.khigh

/-- what an operand stands for -/
def GOK (en : Env) (M : Mem) : Prop := ∀ g cs, en.G g = some cs → ∃ vs, RelL M cs vs ∧ CellsAt M g 0 vs
theorem GOK.mono {en : Env} {M M' : Mem} (h : GOK en M) (hm : M.le M') : GOK en M' := fun g cs hg => let ⟨vs, h1, h2⟩ := h g cs hg; ⟨vs, h1.mono hm, h2.mono hm⟩
theorem RelL.mono' {M M' : Mem} (hm : M.le M') {xs : List PV} {vs : List Value} (h : RelL M xs vs) : RelL M' xs vs := RelL.mono hm xs vs h
theorem RelS.undef {M : Mem} {β : Nat → Option Nat} {v : Value} : RelS M β .undef v := trivial

theorem constPV_rel (P : Program) (t : TypeId) (M : Mem) (β κ : Nat → Option Nat) (v : Value) : RelS M β (constPV P t v).1 v ∧ TagOK M κ (constPV P t v).1 (constPV P t v).2 v := by
  cases v with
  | bool b => exact ⟨rfl, .inl rfl⟩
  | int k n => exact ⟨rfl, .inl rfl⟩
  | string s => exact ⟨by show Value.string s = .string ⟨s.data.toList.toArray⟩; simp, .inl rfl⟩
  | slice A n c =>
    cases A with
    | none =>
      simp only [constPV]
      split
      · rename_i h
        obtain ⟨rfl, rfl⟩ := h
        refine ⟨?_, .inr ⟨_, _, _, _, rfl, .inl ⟨none, 0, rfl⟩⟩⟩
        show RelD M (.sl (some true) _ 0 []) (.slice none 0 0)
        simp only [RelD]
        exact ⟨none, 0, [], rfl, Nat.le_refl _, Nat.zero_le _, by simp, by simp, by simp, rfl, .inl rfl⟩
      · exact ⟨trivial, .inl rfl⟩
    | some a => exact ⟨trivial, .inl rfl⟩
  | pointer a => cases a with
    | none => exact ⟨rfl, .inl rfl⟩
    | some a => exact ⟨trivial, .inl rfl⟩
  | nilIface => exact ⟨rfl, .inl rfl⟩
  | nilFunc => exact ⟨rfl, .inl rfl⟩
  | _ => exact ⟨trivial, .inl rfl⟩

theorem Inv.ev {en : Env} {NG : Nat} {M0 : Mem} {st : St} {a : Act} {M : Mem} {β κ : Nat → Option Nat} (h : Inv NG M0 st a M β κ) (hG : GOK en M0) (t : TypeId) (x : Operand) :
    RelS M β (Go.Proofs.YtllpobcecingiaaGreatDoor.ev en st t x).1 (a.eval x) ∧ TagOK M κ (Go.Proofs.YtllpobcecingiaaGreatDoor.ev en st t x).1 (Go.Proofs.YtllpobcecingiaaGreatDoor.ev en st t x).2 (a.eval x) := by
  cases x with
  | tmp u =>
    simp only [Go.Proofs.YtllpobcecingiaaGreatDoor.ev, Act.eval]
    rcases hu : st.ρ[u]? with _ | y
    · rw [List.getD, hu]; exact ⟨trivial, .inl rfl⟩
    · obtain ⟨v, h1, h2, h3⟩ := h.slot u y hu
      have e : a.tmps.getD u Go.undef = v := by simp [h1]
      rw [List.getD, hu, e]
      exact ⟨h2, h3⟩
  | const v => exact constPV_rel _ _ _ _ _ _
  | global g =>
    simp only [Go.Proofs.YtllpobcecingiaaGreatDoor.ev, Act.eval]
    rcases hg : en.G g with _ | cs
    · exact ⟨trivial, .inl rfl⟩
    · obtain ⟨vs, h1, h2⟩ := (hG.mono h.le0) g cs hg
      exact ⟨⟨g, 0, vs, rfl, h1, h2⟩, .inl rfl⟩
  | func f => exact ⟨⟨[], rfl, rfl⟩, .inl rfl⟩

end Go.Proofs.YtllpobcecingiaaGreatDoor
