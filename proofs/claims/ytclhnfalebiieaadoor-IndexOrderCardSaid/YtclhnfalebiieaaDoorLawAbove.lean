/-
  The law KeysAbove in plain lists: the least bytes behind all that begin with some.
-/
import Derived.Test.YtclhnfalebiieaaDoorKeysH
set_option linter.unusedVariables false
set_option linter.unusedSimpArgs false
namespace Go.Proofs.YtclhnfalebiieaaDoor
open Go.RowKit

theorem textCmp_same (a x y : List UInt8) : textCmp (a ++ x) (a ++ y) = textCmp x y := by
  induction a with
  | nil => rfl
  | cons c a ih => simp only [List.cons_append, textCmp, if_true]; exact ih
theorem cmpN_lt {a b : Int} (h : a < b) : cmpN a b = -1 := if_pos h
theorem cmpN_gt {a b : Int} (h : b < a) : cmpN a b = 1 := by unfold cmpN; rw [if_neg (by omega), if_pos h]
theorem u8_ne_toNat {x y : UInt8} (h : x ≠ y) : x.toNat ≠ y.toNat := fun e => h (UInt8.toNat_inj.1 e)
theorem succ_toNat {x : UInt8} (h : x ≠ 255) : (x + 1).toNat = x.toNat + 1 := by
  have h1 := u8_ne_toNat h
  have h2 := x.toNat_lt
  rw [UInt8.toNat_add]
  have : (1 : UInt8).toNat = 1 := rfl
  have h3 : (255 : UInt8).toNat = 255 := rfl
  omega
theorem ff_begins : ∀ (m : Nat) (r : List UInt8), (m ≤ r.length ∧ r.take m = List.replicate m 255) ∨ textCmp r (List.replicate m 255) < 0
  | 0, r => .inl ⟨by omega, by simp⟩
  | m + 1, [] => .inr (by simp [List.replicate_succ, textCmp])
  | m + 1, c :: r => by
    by_cases h : c = 255
    · subst h
      rcases ff_begins m r with ⟨h1, h2⟩ | h1
      · exact .inl ⟨by simp; omega, by simp [List.replicate_succ, h2]⟩
      · exact .inr (by simpa [List.replicate_succ, textCmp] using h1)
    · have h1 := u8_ne_toNat h
      have h2 := c.toNat_lt
      have h3 : (255 : UInt8).toNat = 255 := rfl
      right
      rw [List.replicate_succ, textCmp, if_neg h, cmpN_lt (by omega)]
      omega
theorem between (x : UInt8) (hx : x ≠ 255) (m : Nat) : ∀ (p l : List UInt8),
    ((p ++ x :: List.replicate m 255).length ≤ l.length ∧ l.take (p ++ x :: List.replicate m 255).length = p ++ x :: List.replicate m 255) ∨ textCmp l (p ++ x :: List.replicate m 255) < 0 ∨ 0 ≤ textCmp l (p ++ [x + 1])
  | [], [] => .inr (.inl (by simp [textCmp]))
  | _ :: _, [] => .inr (.inl (by simp [textCmp]))
  | [], y :: r => by
    have hs := succ_toNat hx
    rcases Nat.lt_trichotomy y.toNat x.toNat with h | h | h
    · refine .inr (.inl ?_)
      have : y ≠ x := fun e => by subst e; omega
      rw [List.nil_append, textCmp, if_neg this, cmpN_lt (by omega)]
      omega
    · obtain rfl : y = x := UInt8.toNat_inj.1 h
      rcases ff_begins m r with ⟨h1, h2⟩ | h1
      · exact .inl ⟨by simp; omega, by simp [h2]⟩
      · exact .inr (.inl (by rw [List.nil_append, textCmp, if_pos rfl]; exact h1))
    · refine .inr (.inr ?_)
      by_cases e : y = x + 1
      · rw [List.nil_append, textCmp, if_pos e]
        cases r <;> simp [textCmp]
      · have := u8_ne_toNat e
        rw [List.nil_append, textCmp, if_neg e, cmpN_gt (by omega)]
        omega
  | a :: p, y :: r => by
    rcases Nat.lt_trichotomy y.toNat a.toNat with h | h | h
    · refine .inr (.inl ?_)
      have : y ≠ a := fun e => by subst e; omega
      rw [List.cons_append, textCmp, if_neg this, cmpN_lt (by omega)]
      omega
    · obtain rfl : y = a := UInt8.toNat_inj.1 h
      rcases between x hx m p r with ⟨h1, h2⟩ | h1 | h1
      · refine .inl ⟨by simp at h1 ⊢; omega, ?_⟩
        simp only [List.cons_append, List.length_cons, List.take_succ_cons]
        rw [h2]
      · exact .inr (.inl (by rw [List.cons_append, textCmp, if_pos rfl]; exact h1))
      · exact .inr (.inr (by rw [List.cons_append, textCmp, if_pos rfl]; exact h1))
    · refine .inr (.inr ?_)
      have : y ≠ a := fun e => by subst e; omega
      rw [List.cons_append, textCmp, if_neg this, cmpN_gt (by omega)]
      omega
theorem strip_form : ∀ (k : Nat) (l : List UInt8), l.length = k → (strip l = [] ∨ ∃ p x m, x ≠ 255 ∧ l = p ++ x :: List.replicate m 255 ∧ strip l = p ++ [x]) := by
  intro k
  induction k with
  | zero =>
    intro l h
    have : l = [] := List.eq_nil_of_length_eq_zero h
    subst this
    exact .inl rfl
  | succ k ih =>
    intro l h
    have hne : l ≠ [] := by intro e; subst e; simp at h
    have hl := List.dropLast_concat_getLast hne
    generalize l.dropLast = q at hl
    generalize l.getLast hne = c at hl
    subst hl
    have hq : q.length = k := by simpa using h
    by_cases hc : c = 255
    · subst hc
      rw [strip_last]
      rcases ih q hq with h1 | ⟨p, x, m, hx, h1, h2⟩
      · exact .inl h1
      · exact .inr ⟨p, x, m + 1, hx, by rw [h1, List.replicate_succ']; simp, h2⟩
    · exact .inr ⟨q, c, 0, hc, by simp, strip_stop hc⟩

/-- the law, plain -/
theorem above_law (b rest : List UInt8) (h : aboveL b ≠ []) : textCmp (b ++ rest) (aboveL b) < 0 ∧
    ((b.length ≤ rest.length ∧ rest.take b.length = b) ∨ textCmp rest b < 0 ∨ 0 ≤ textCmp rest (aboveL b)) := by
  rcases strip_form _ b rfl with h1 | ⟨p, x, m, hx, h1, h2⟩
  · exact absurd (by rw [aboveL, h1]; rfl) h
  · have ha : aboveL b = p ++ [x + 1] := by rw [aboveL, h2, bump_last]
    rw [ha]
    constructor
    · rw [h1, List.append_assoc, textCmp_same]
      have hs := succ_toNat hx
      have : x ≠ x + 1 := fun e => by have := congrArg UInt8.toNat e; omega
      rw [List.cons_append, textCmp, if_neg this, cmpN_lt (by omega)]
      omega
    · have := between x hx m p rest
      rw [← h1] at this
      exact this
end Go.Proofs.YtclhnfalebiieaaDoor
