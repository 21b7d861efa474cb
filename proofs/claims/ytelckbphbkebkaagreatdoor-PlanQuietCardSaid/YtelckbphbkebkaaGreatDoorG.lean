/-
  Lists as the cells of a slice, in general.
-/
import Derived.Test.YtelckbphbkebkaaGreatDoorPGw
set_option linter.unusedVariables false
set_option linter.unusedSimpArgs false
namespace Go.Proofs.YtelckbphbkebkaaGreatDoor
open Go.RowKit

theorem flat_len {α : Type} {f : α → List PV} {sz : Nat} (hf : ∀ x, (f x).length = sz) : ∀ (l : List α), (l.flatMap f).length = l.length * sz
  | [] => by simp
  | x :: l => by rw [List.flatMap_cons, List.length_append, hf, flat_len hf l, List.length_cons, Nat.add_mul, Nat.one_mul, Nat.add_comm]
theorem flat_at {α : Type} {f : α → List PV} {sz : Nat} (hf : ∀ x, (f x).length = sz) : ∀ {l : List α} {i : Nat} {x : α}, l[i]? = some x → ((l.flatMap f).drop (i * sz)).take sz = f x
  | y :: l, 0, x, h => by
    simp only [List.getElem?_cons_zero, Option.some.injEq] at h
    subst h
    rw [Nat.zero_mul, List.drop_zero, List.flatMap_cons, ← hf y, List.take_left]
  | y :: l, i + 1, x, h => by
    simp only [List.getElem?_cons_succ] at h
    rw [List.flatMap_cons, Nat.add_mul, Nat.one_mul, Nat.add_comm, ← List.drop_drop, ← hf y, List.drop_left, hf y]
    exact flat_at hf h
/-- the list that cells are -/
def decG {α : Type} (sz : Nat) (g : List PV → Option α) : Nat → List PV → Option (List α)
  | 0, [] => some []
  | 0, _ :: _ => none
  | n + 1, c => (g (c.take sz)).bind fun x => (decG sz g n (c.drop sz)).map (x :: ·)
theorem decG_of {α : Type} {sz : Nat} {g : List PV → Option α} {f : α → List PV} (hf : ∀ x, (f x).length = sz) (hg : ∀ x, g (f x) = some x) : ∀ (l : List α), decG sz g l.length (l.flatMap f) = some l
  | [] => rfl
  | x :: l => by
    rw [List.length_cons, List.flatMap_cons, decG, ← hf x, List.take_left, List.drop_left, hg x, hf x, Option.bind_some, decG_of hf hg l]
    rfl
theorem decG_inv {α : Type} {sz : Nat} {g : List PV → Option α} {f : α → List PV} (hg : ∀ c x, g c = some x → c = f x) : ∀ {n : Nat} {c : List PV} {l : List α}, decG sz g n c = some l → n = l.length ∧ c = l.flatMap f
  | 0, [], l, h => by injection h with h; subst h; exact ⟨rfl, rfl⟩
  | 0, _ :: _, l, h => by cases h
  | n + 1, c, l, h => by
    rw [decG] at h
    obtain ⟨x, h1, h2⟩ := Option.bind_eq_some_iff.1 h
    obtain ⟨t, h3, rfl⟩ := Option.map_eq_some_iff.1 h2
    obtain ⟨rfl, h4⟩ := decG_inv hg h3
    refine ⟨rfl, ?_⟩
    rw [List.flatMap_cons, ← hg _ _ h1, ← h4, List.take_append_drop]
theorem bindL_nat {α R : Type} {a : Option (List α)} {g : List α → Bool} {v : List α → PV} {k : PV → Option R} :
    (a.bind fun A => bif g A then k (v A) else none) = (a.bind fun A => bif g A then some (v A) else none).bind k := by
  cases a with
  | none => rfl
  | some a => simp only [Option.bind_some]; cases g a <;> rfl
theorem bindL_inv {α : Type} {a : Option (List α)} {g : List α → Bool} {v : List α → PV} {r : PV} (h : (a.bind fun A => bif g A then some (v A) else none) = some r) : ∃ A, a = some A ∧ g A = true ∧ r = v A := by
  obtain ⟨A, h1, h⟩ := Option.bind_eq_some_iff.1 h
  cases hg : g A <;> rw [hg] at h
  · cases h
  · injection h with h
    exact ⟨A, h1, hg, h.symm⟩

end Go.Proofs.YtelckbphbkebkaaGreatDoor
