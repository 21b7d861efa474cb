/-
  Plain law: what is coded is decoded again.
-/
import Derived.Test.YtclhnfalebiieaaDoorKeysE
set_option linter.unusedVariables false
set_option linter.unusedSimpArgs false
namespace Go.Proofs.YtclhnfalebiieaaDoor

/-- the number of a value is one of 64 bits -/
def Val.in64 (x : Val) : Prop := -9223372036854775808 ≤ x.n ∧ x.n ≤ 9223372036854775807
theorem null64 : vnull.in64 := by unfold Val.in64 vnull; simp
theorem plain64 {x : Val} (h : x.in64) : (plain x).in64 := by
  unfold plain; split
  · exact h
  · exact null64

theorem beTo_get (u : Nat) (r : List UInt8) {k : Nat} (hk : k < 8) : (beTo u 8 ++ r)[k]? = some (UInt8.ofNat (u / 2 ^ (56 - 8 * k) % 256)) := by
  rw [List.getElem?_append_left (by rw [beTo_length]; exact hk)]
  simp [beTo, hk]
theorem deTo_beTo_at (u : Nat) (h : u < 2 ^ 64) (r : List UInt8) : ∀ k, k ≤ 8 → deTo (beTo u 8 ++ r) k = u / 2 ^ (64 - 8 * k) := by
  intro k
  induction k with
  | zero => intro _; rw [Nat.mul_zero, Nat.sub_zero, Nat.div_eq_of_lt h]; rfl
  | succ k ih =>
    intro hk
    rw [deTo_succ (beTo_get u r (by omega)), ih (by omega), UInt8.toNat_ofNat', show 64 - 8 * k = (56 - 8 * k) + 8 from by omega, Nat.pow_add, ← Nat.div_div_eq_div_mul, show 64 - 8 * (k + 1) = 56 - 8 * k from by omega]
    generalize u / 2 ^ (56 - 8 * k) = v
    omega
theorem deTo_beTo (u : Nat) (h : u < 18446744073709551616) (r : List UInt8) : deTo (beTo u 8 ++ r) 8 = u := by
  rw [deTo_beTo_at u h r 8 (Nat.le_refl _)]
  simp
theorem deTo_be8 {n : Int} (h : -9223372036854775808 ≤ n ∧ n ≤ 9223372036854775807) (r : List UInt8) : (deTo (be8 n ++ r) 8 : Int) - 9223372036854775808 = n := by
  rw [be8, deTo_beTo _ (flipN_lt n)]
  unfold flipN
  omega
theorem be8_length (n : Int) : (be8 n).length = 8 := by rw [be8, beTo_length]
theorem untext_escTo (s r : List UInt8) : untext (escTo s ++ 0 :: 1 :: r) = some (s, r) := by
  induction s with
  | nil => rw [escTo, List.nil_append, untext_one]
  | cons c s ih =>
    rw [escTo]
    split
    · rename_i h; subst h
      simp only [List.cons_append, List.nil_append]
      rw [untext_esc, ih]; rfl
    · rename_i h
      simp only [List.cons_append, List.nil_append]
      rw [untext_ne _ h, ih]; rfl

theorem ofNat_byte {k : Int} {m : Nat} (h : k = m) : UInt8.ofNat k.toNat = UInt8.ofNat m := by rw [h, Int.toNat_natCast]

theorem val_eq {x : Val} {k n s : Int} {t : List UInt8} (h1 : x.kind = k) (h2 : x.n = n) (h3 : x.scale = s) (h4 : x.s = t) : (⟨k, n, s, t⟩ : Val) = x := by
  cases x; simp_all
theorem nextS_enc0 {x : Val} (hr : right x = true) (h : x.in64) (r : List UInt8) : nextS (enc0 x ++ r) = some (x, r) := by
  unfold right at hr
  unfold Val.in64 at h
  unfold enc0
  split at hr
  · rename_i hk
    simp only [decide_eq_true_eq] at hr
    rw [hk]
    simp only [nextS, hk]
    simp
    exact val_eq hk hr.1 hr.2.1 hr.2.2
  split at hr
  · rename_i hk
    simp only [decide_eq_true_eq] at hr
    rw [hk]
    simp [nextS, hk]
    refine val_eq hk ?_ hr.2.1 hr.2.2
    omega
  split at hr
  · rename_i hk
    simp only [decide_eq_true_eq] at hr
    rw [hk]
    simp only [nextS, hk]
    simp [be8_length, deTo_be8 h]
    exact val_eq hk rfl hr.1 hr.2
  split at hr
  · rename_i hk
    simp only [decide_eq_true_eq] at hr
    rw [hk]
    simp only [nextS, hk]
    simp [be8_length, deTo_be8 h]
    refine val_eq hk rfl ?_ hr.1
    omega
  split at hr
  · rename_i hk
    simp only [Bool.and_eq_true, decide_eq_true_eq] at hr
    rw [hk]
    simp only [nextS, hk]
    simp [untext_escTo]
    exact val_eq hk hr.1.1 hr.1.2.1 rfl
  split at hr
  · rename_i hk
    simp only [decide_eq_true_eq] at hr
    rw [hk]
    simp only [nextS, hk]
    simp [untext_escTo]
    exact val_eq hk hr.1 hr.2.1 rfl
  · cases hr
theorem nextV_enc {x : Val} (h : x.in64) (r : List UInt8) : nextV (enc x ++ r) = some (plain x, r) := by
  unfold nextV enc
  rw [nextS_enc0 (right_plain x) (plain64 h)]
  simp [right_plain]
theorem nextV_nil : nextV [] = none := rfl
theorem encs_cons (x : Val) (l : List Val) : encs (x :: l) = enc x ++ encs l := rfl
theorem enc_ne (x : Val) (r : List UInt8) : enc x ++ r ≠ [] := by simp [enc, enc0]
theorem getV_encs : ∀ (l : List Val), (∀ x ∈ l, x.in64) → getV (encs l) = some (l.map plain)
  | [], _ => rfl
  | x :: l, h => by
    rw [encs_cons, getV_step (enc_ne _ _), nextV_enc (h x (by simp))]
    dsimp only
    rw [getV_encs l (fun y hy => h y (by simp [hy]))]
    rfl
end Go.Proofs.YtclhnfalebiieaaDoor
