/-
  Decimal: lists of digits, the lowest first (no program in sight).
-/
import Derived.Test.YtelckbphbkebkaaGreatDoorPGv
set_option linter.unusedVariables false
set_option linter.unusedSimpArgs false
namespace Go.Proofs.YtelckbphbkebkaaGreatDoor
open Go.RowKit

/-- the lowest k digits -/
def dg : Nat → Nat → List Nat
  | 0, _ => []
  | k + 1, n => (n % 10) :: dg k (n / 10)
/-- how many digits -/
def dlenF : Nat → Nat → Nat
  | 0, _ => 0
  | f + 1, n => if n = 0 then 0 else dlenF f (n / 10) + 1
def dlen (n : Nat) : Nat := dlenF n n
theorem dlenF_irr : ∀ (f g n : Nat), n ≤ f → n ≤ g → dlenF f n = dlenF g n
  | 0, 0, n, _, _ => rfl
  | 0, g + 1, n, h, _ => by
    have : n = 0 := by omega
    subst this; rfl
  | f + 1, 0, n, _, h => by
    have : n = 0 := by omega
    subst this; rfl
  | f + 1, g + 1, n, h, k => by
    unfold dlenF
    split
    · rfl
    · rw [dlenF_irr f g (n / 10) (by omega) (by omega)]
def dgs (n : Nat) : List Nat := dg (dlen n) n
theorem dlen_zero : dlen 0 = 0 := rfl
theorem dlen_pos {n : Nat} (h : n ≠ 0) : dlen n = dlen (n / 10) + 1 := by
  obtain ⟨m, rfl⟩ := Nat.exists_eq_succ_of_ne_zero h
  unfold dlen
  show (if m + 1 = 0 then 0 else dlenF m ((m + 1) / 10) + 1) = _
  rw [if_neg (by omega), dlenF_irr m ((m + 1) / 10) _ (by omega) (Nat.le_refl _)]
theorem dg_len : ∀ (k n : Nat), (dg k n).length = k
  | 0, _ => rfl
  | k + 1, n => by simp [dg, dg_len k]
theorem dlen_le : ∀ (k n : Nat), dlen n ≤ k ↔ n < 10 ^ k
  | 0, n => by
    by_cases h : n = 0
    · subst h; simp [dlen_zero]
    · rw [dlen_pos h]; simp; omega
  | k + 1, n => by
    by_cases h : n = 0
    · subst h; simp [dlen_zero]; exact Nat.pos_of_ne_zero (by simp)
    · rw [dlen_pos h, Nat.add_le_add_iff_right, dlen_le k, Nat.pow_succ]
      exact Nat.div_lt_iff_lt_mul (by decide)
theorem lt_dlen {k n : Nat} : k < dlen n ↔ 10 ^ k ≤ n := by
  have := dlen_le k n
  omega
theorem lt_pow_dlen (n : Nat) : n < 10 ^ dlen n := (dlen_le _ _).1 (Nat.le_refl _)
theorem dlen_mono {a b : Nat} (h : a ≤ b) : dlen a ≤ dlen b := (dlen_le _ _).2 (Nat.lt_of_le_of_lt h (lt_pow_dlen b))
theorem div_div10 (n i : Nat) : n / 10 ^ (i + 1) = n / 10 ^ i / 10 := by rw [Nat.pow_succ, Nat.div_div_eq_div_mul]
theorem div_div10' (n i : Nat) : n / 10 / 10 ^ i = n / 10 ^ (i + 1) := by rw [Nat.pow_succ, Nat.div_div_eq_div_mul, Nat.mul_comm]
theorem dg_get : ∀ (k n i : Nat), i < k → (dg k n)[i]? = some (n / 10 ^ i % 10)
  | k + 1, n, 0, _ => by simp [dg]
  | k + 1, n, i + 1, h => by
    simp only [dg, List.getElem?_cons_succ]
    rw [dg_get k (n / 10) i (by omega), div_div10']
theorem dg_snoc : ∀ (k n : Nat), dg (k + 1) n = dg k n ++ [n / 10 ^ k % 10]
  | 0, n => by simp [dg]
  | k + 1, n => by
    show (n % 10) :: dg (k + 1) (n / 10) = ((n % 10) :: dg k (n / 10)) ++ _
    rw [dg_snoc k (n / 10), div_div10']
    rfl
theorem dg_take : ∀ (k n : Nat), (dg (k + 1) n).take k = dg k n := by
  intro k n
  rw [dg_snoc, List.take_left' (dg_len k n)]
theorem dg_cons (k n : Nat) (d : Nat) (h : d < 10) : d :: dg k n = dg (k + 1) (d + 10 * n) := by
  show _ = (d + 10 * n) % 10 :: dg k ((d + 10 * n) / 10)
  rw [show (d + 10 * n) % 10 = d by omega, show (d + 10 * n) / 10 = n by omega]
theorem dg_zero : ∀ (k : Nat), dg k 0 = List.replicate k 0
  | 0 => rfl
  | k + 1 => by simp [dg, dg_zero k, List.replicate_succ]
theorem dg_shift (n : Nat) : ∀ (k : Nat), List.replicate k 0 ++ dgs n = dg (k + dlen n) (n * 10 ^ k)
  | 0 => by simp [dgs]
  | k + 1 => by
    rw [List.replicate_succ, List.cons_append, dg_shift n k, dg_cons _ _ 0 (by decide)]
    rw [show k + 1 + dlen n = k + dlen n + 1 by omega]
    congr 1
    rw [Nat.pow_succ, Nat.zero_add, Nat.mul_comm 10, Nat.mul_assoc]
theorem dlen_shift {n : Nat} (h : n ≠ 0) : ∀ (k : Nat), dlen (n * 10 ^ k) = k + dlen n
  | 0 => by simp
  | k + 1 => by
    have hp : 0 < 10 ^ k := Nat.pow_pos (by decide)
    have hnz : n * 10 ^ k ≠ 0 := Nat.mul_ne_zero h (by omega)
    rw [Nat.pow_succ, ← Nat.mul_assoc, dlen_pos (Nat.mul_ne_zero hnz (by decide)), Nat.mul_div_cancel _ (by decide), dlen_shift h k]
    omega

/-- the digits as cells -/
def cellD (d : Nat) : PV := .int .i64 (d : Int)
def cellsD (l : List Nat) : List PV := l.map cellD
def cellsN (n : Nat) : List PV := cellsD (dgs n)
/-- a number as a slice of digits -/
def big (n : Nat) : PV := .sl (some (n == 0)) 1 (dlen n) (cellsN n)
theorem cellsN_len (n : Nat) : (cellsN n).length = dlen n := by simp [cellsN, cellsD, dgs, dg_len]
/-- the number that cells are the digits of -/
def natC : List PV → Option Nat
  | [] => some 0
  | .int .i64 d :: l => if 0 ≤ d ∧ d < 10 then (natC l).map fun n => d.toNat + 10 * n else none
  | _ => none
theorem natC_dg : ∀ (k n : Nat), natC (cellsD (dg k n)) = some (n % 10 ^ k)
  | 0, n => by simp [dg, cellsD, natC]; omega
  | k + 1, n => by
    have h : n % 10 < 10 := Nat.mod_lt _ (by decide)
    show (if 0 ≤ ((n % 10 : Nat) : Int) ∧ ((n % 10 : Nat) : Int) < 10 then (natC (cellsD (dg k (n / 10)))).map fun m => ((n % 10 : Nat) : Int).toNat + 10 * m else none) = _
    rw [if_pos (by omega), natC_dg k (n / 10)]
    simp only [Option.map_some, Int.toNat_natCast, Option.some.injEq]
    rw [Nat.pow_succ, Nat.mul_comm (10 ^ k) 10, Nat.mod_mul]
/-- a slice of the digits of a number, without noughts at the end -/
def decN (len : Nat) (c : List PV) : Option Nat := (natC c).bind fun n => if len = dlen n ∧ c.length = dlen n then some n else none
theorem decN_big (n : Nat) : decN (dlen n) (cellsN n) = some n := by
  unfold decN cellsN dgs
  rw [natC_dg, Nat.mod_eq_of_lt (lt_pow_dlen n)]
  simp [cellsD, dg_len]
theorem natC_inv : ∀ {c : List PV} {n : Nat}, natC c = some n → c = cellsD (dg c.length n) ∧ n < 10 ^ c.length
  | [], n, h => by simp [natC] at h; subst h; exact ⟨rfl, by simp⟩
  | x :: l, n, h => by
    unfold natC at h
    split at h
    · rename_i e; cases e
    · rename_i d l' e
      injection e with e1 e2
      subst e1 e2
      split at h
      · rename_i hd
        obtain ⟨m, hm, rfl⟩ := Option.map_eq_some_iff.1 h
        obtain ⟨i1, i2⟩ := natC_inv hm
        refine ⟨?_, ?_⟩
        · show _ = cellsD ((d.toNat + 10 * m) % 10 :: dg _ ((d.toNat + 10 * m) / 10))
          rw [show (d.toNat + 10 * m) % 10 = d.toNat by omega, show (d.toNat + 10 * m) / 10 = m by omega]
          show _ :: _ = cellD _ :: cellsD _
          rw [← i1]
          congr 1
          unfold cellD
          rw [show ((d.toNat : Nat) : Int) = d by omega]
        · simp only [List.length_cons, Nat.pow_succ]
          omega
      · cases h
    · cases h
theorem decN_inv {len : Nat} {c : List PV} {n : Nat} (h : decN len c = some n) : len = dlen n ∧ c = cellsN n := by
  unfold decN at h
  obtain ⟨m, hm, h⟩ := Option.bind_eq_some_iff.1 h
  split at h
  · rename_i hl
    injection h with h
    subst h
    obtain ⟨i1, _⟩ := natC_inv hm
    rw [hl.2] at i1
    exact ⟨hl.1, i1⟩
  · cases h

end Go.Proofs.YtelckbphbkebkaaGreatDoor
