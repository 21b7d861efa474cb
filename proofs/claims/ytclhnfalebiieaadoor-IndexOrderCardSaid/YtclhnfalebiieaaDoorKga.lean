/-
  Plain words: what is decoded is encoded again as the same bytes.
-/
import Derived.Test.YtclhnfalebiieaaDoorLawCode
import Derived.Test.YtclhnfalebiieaaDoorKab
set_option linter.unusedVariables false
set_option linter.unusedSimpArgs false
namespace Go.Proofs.YtclhnfalebiieaaDoor
open Go.RowKit

theorem be_inj : ∀ (n : Nat) (a b : List UInt8), a.length = n → b.length = n → be a = be b → a = b := by
  intro n
  induction n with
  | zero => intro a b ha hb _; rw [List.length_eq_zero_iff.1 ha, List.length_eq_zero_iff.1 hb]
  | succ n ih =>
    intro a b ha hb h
    have ea : a ≠ [] := by intro e; rw [e] at ha; cases ha
    have eb : b ≠ [] := by intro e; rw [e] at hb; cases hb
    obtain ⟨s, c, rfl⟩ : ∃ t c, a = t ++ [c] := ⟨a.dropLast, a.getLast ea, (List.dropLast_concat_getLast ea).symm⟩
    obtain ⟨t, d, rfl⟩ : ∃ t c, b = t ++ [c] := ⟨b.dropLast, b.getLast eb, (List.dropLast_concat_getLast eb).symm⟩
    rw [be_snoc, be_snoc] at h
    have hc := c.toNat_lt
    have hd := d.toNat_lt
    have e1 : be s = be t := by omega
    have e2 : c.toNat = d.toNat := by omega
    rw [ih s t (by simpa using ha) (by simpa using hb) e1, UInt8.toNat_inj.1 e2]
theorem deTo_be (l : List UInt8) (k : Nat) : deTo l k = be (l.take k) := rfl
theorem be8_back {r : List UInt8} (h : 8 ≤ r.length) : be8 ((be (r.take 8) : Int) - 9223372036854775808) = r.take 8 := by
  have hl : (r.take 8).length = 8 := by rw [List.length_take]; omega
  have hlt : be (r.take 8) < 18446744073709551616 := by simpa using be_lt 8 _ hl
  have e : flipN ((be (r.take 8) : Int) - 9223372036854775808) = be (r.take 8) := by unfold flipN; omega
  unfold be8
  rw [e]
  refine be_inj 8 _ _ (beTo_length _ _) hl ?_
  have := deTo_beTo (be (r.take 8)) hlt []
  rw [deTo_be, List.append_nil, List.take_of_length_le (by rw [beTo_length]; exact Nat.le_refl _)] at this
  exact this
theorem untext_inv : ∀ (k : Nat) (l s r : List UInt8), l.length ≤ k → untext l = some (s, r) → l = escTo s ++ 0 :: 1 :: r := by
  intro k
  induction k with
  | zero => intro l s r hl h; obtain rfl : l = [] := List.length_eq_zero_iff.1 (by omega); simp [untext] at h
  | succ k ih =>
    intro l s r hl h
    match l, hl, h with
    | [], _, h => simp [untext] at h
    | [c], _, h => simp [untext] at h
    | c :: d :: t, hl, h =>
      simp only [List.length_cons] at hl
      rw [untext] at h
      split at h
      · rename_i hc
        subst hc
        split at h
        · rename_i hd
          subst hd
          obtain ⟨p, hp, he⟩ := Option.map_eq_some_iff.1 h
          simp only [Prod.mk.injEq] at he
          obtain ⟨rfl, rfl⟩ := he
          rw [ih t p.1 p.2 (by omega) hp, escTo, if_pos rfl]
          rfl
        · split at h
          · rename_i hd
            subst hd
            simp only [Option.some.injEq, Prod.mk.injEq] at h
            obtain ⟨rfl, rfl⟩ := h
            rfl
          · cases h
      · rename_i hc
        obtain ⟨p, hp, he⟩ := Option.map_eq_some_iff.1 h
        simp only [Prod.mk.injEq] at he
        obtain ⟨rfl, rfl⟩ := he
        rw [ih (d :: t) p.1 p.2 (by simpa using hl) hp, escTo, if_neg hc]
        rfl
theorem ofNat_toNat (c : UInt8) : UInt8.ofNat ((c.toNat : Int).toNat) = c := by simp
theorem nextS_inv {l : List UInt8} {x : Val} {r : List UInt8} (h : nextS l = some (x, r)) (hr : right x = true) : l = enc x ++ r := by
  unfold enc
  rw [plain_right hr]
  unfold nextS at h
  split at h
  · cases h
  · rename_i t r0
    split at h
    · rename_i ht
      simp only [Option.some.injEq, Prod.mk.injEq] at h
      obtain ⟨rfl, rfl⟩ := h
      rw [ht]; rfl
    split at h
    · rename_i ht
      split at h
      · cases h
      · simp only [Option.some.injEq, Prod.mk.injEq] at h
        obtain ⟨rfl, rfl⟩ := h
        rw [ht]
        unfold enc0
        simp
    split at h
    · rename_i ht
      split at h
      · cases h
      · rename_i hlen
        simp only [Option.some.injEq, Prod.mk.injEq] at h
        obtain ⟨rfl, rfl⟩ := h
        rw [ht]
        unfold enc0
        simp only [deTo_be, be8_back (show 8 ≤ r0.length by omega)]
        simp
    split at h
    · rename_i ht
      split at h
      · cases h
      · split at h
        · cases h
        · rename_i c r' hlen
          simp only [Option.some.injEq, Prod.mk.injEq] at h
          obtain ⟨rfl, rfl⟩ := h
          rw [ht]
          unfold enc0
          simp only [deTo_be, be8_back (show 8 ≤ r'.length by omega)]
          simp
    split at h
    · rename_i ht
      obtain ⟨p, hp, he⟩ := Option.map_eq_some_iff.1 h
      simp only [Prod.mk.injEq] at he
      obtain ⟨rfl, rfl⟩ := he
      rw [untext_inv _ r0 p.1 p.2 (Nat.le_refl _) hp]
      unfold enc0
      rcases ht with rfl | rfl <;> simp
    · cases h
end Go.Proofs.YtclhnfalebiieaaDoor
