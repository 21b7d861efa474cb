/-
  Decimal: rounded quotients, products, signs, scales.
-/
import Derived.Test.YtllpobcecingiaaGreatDoorDo
set_option linter.unusedVariables false
set_option linter.unusedSimpArgs false
namespace Go.Proofs.YtllpobcecingiaaGreatDoor
open Go.RowKit

def roundI (a b : Int) : Int := a / b + bif decide (b ≤ 2 * (a % b)) then 1 else 0
def p_rounded : PFn := ⟨fun xs k => match xs with
  | [.agg [.int .u64 h, .int .u64 l], .agg [.int .u64 h', .int .u64 l']] => bif inU h && (inU l && (inU h' && (inU l' && decide (0 < N2 h' l')))) then k (W2 (roundI (N2 h l) (N2 h' l'))) else none
  | _ => none, false⟩
noncomputable def lRounded : List (FuncId × PFn) := [(135, p_over), (136, p_wsub), (137, p_less), (138, p_Add64)]
def roundBody (h l h' l' : Int) : Option PV :=
  bif inU h && (inU l && (inU h' && (inU l' && decide (0 < N2 h' l')))) then
    bif inU h' && (inU l' && (inU (hiI (N2 h l % N2 h' l')) && inU (loI (N2 h l % N2 h' l')))) then
      bif !lessI (hiI (N2 h l % N2 h' l')) (loI (N2 h l % N2 h' l')) (hiI (N2 h' l' - N2 (hiI (N2 h l % N2 h' l')) (loI (N2 h l % N2 h' l')))) (loI (N2 h' l' - N2 (hiI (N2 h l % N2 h' l')) (loI (N2 h l % N2 h' l')))) then
        bif decide (0 ≤ loI (N2 h l / N2 h' l')) && (decide ((0 : Int) ≤ 1) && (decide ((0 : Int) ≤ 0) && decide ((0 : Int) ≤ 1))) then
          some (.agg [.int .u64 (IntKind.u64.wrap (hiI (N2 h l / N2 h' l') + (loI (N2 h l / N2 h' l') + 1 + 0) / 18446744073709551616)), .int .u64 ((loI (N2 h l / N2 h' l') + 1 + 0) % 18446744073709551616)])
        else none
      else some (.agg [.int .u64 (hiI (N2 h l / N2 h' l')), .int .u64 (loI (N2 h l / N2 h' l'))])
    else none
  else none
theorem rounded_raw (a b c d : Int) : prun (en lRounded) ⟨[], []⟩ 0 false Tryz.f116 [.agg [.int .u64 a, .int .u64 b], .agg [.int .u64 c, .int .u64 d]] = roundBody a b c d := by kernel_rfl
theorem w1 {q : Int} : IntKind.u64.wrap (hiI q + (loI q + 1 + 0) / 18446744073709551616) = hiI (q + 1) := by rw [wrapU]; unfold hiI loI; omega
theorem w2 {q : Int} : (loI q + 1 + 0) % 18446744073709551616 = loI (q + 1) := by unfold loI; omega
theorem round_body {a b c d : Int} (ha : inU a = true) (hb : inU b = true) (hc : inU c = true) (hd : inU d = true) (h : 0 < N2 c d) : roundBody a b c d = some (W2 (roundI (N2 a b) (N2 c d))) := by
  unfold roundBody
  rw [cond_t (by simp [ha, hb, hc, hd, h]), cond_t (by simp [hc, hd, hiI_u, loI_u]), lessI_eq (hiI_u _) (loI_u _) (hiI_u _) (loI_u _)]
  rw [inU_iff] at ha hb hc hd
  have hx : 0 ≤ N2 a b := by unfold N2; omega
  have hx2 : N2 a b < 340282366920938463463374607431768211456 := by unfold N2; omega
  have hy2 : N2 c d < 340282366920938463463374607431768211456 := by unfold N2; omega
  generalize N2 a b = x at *
  generalize N2 c d = y at *
  have r0 := Int.emod_nonneg x (show y ≠ 0 by omega)
  have r1 := Int.emod_lt_of_pos x h
  unfold roundI
  generalize x % y = r at *
  generalize x / y = q at *
  rw [N2_W2 (n := r) r0 (by omega), N2_W2 (n := y - r) (by omega) (by omega), w1, w2]
  by_cases k : r < y - r
  · rw [decide_eq_true k, decide_eq_false (show ¬ y ≤ 2 * r by omega)]
    simp only [Bool.not_true, cond_false, Int.add_zero]
    rfl
  · rw [decide_eq_false k, decide_eq_true (show y ≤ 2 * r by omega)]
    simp only [Bool.not_false, cond_true]
    rw [cond_t (by unfold loI; simp; omega)]
    rfl
theorem ok_rounded : FOK NGd Wd 116 p_rounded := by
  refine fok wokd (l := lRounded) (allOK_cons ok_over (allOK_cons ok_wsub (allOK_cons ok_less (allOK_cons ok_Add64 allOK_nil)))) (h := ⟨[], []⟩) Tryz.func116 rfl (by decide) ?_ ?_
  · intro R xs k
    simp only [p_rounded]
    split
    · exact cond_nat
    · rfl
  · intro xs r h
    simp only [p_rounded] at h
    split at h
    · rename_i a b c d
      rcases hb : (inU a && (inU b && (inU c && (inU d && decide (0 < N2 c d))))) with _ | _ <;> rw [hb] at h
      · cases h
      · simp only [cond_true, Option.some.injEq] at h
        subst h
        simp only [Bool.and_eq_true, decide_eq_true_eq] at hb
        exact ⟨0, (rounded_raw a b c d).trans (round_body hb.1 hb.2.1 hb.2.2.1 hb.2.2.2.1 hb.2.2.2.2)⟩
    · cases h

/-! ## products -/
def p_Mul64 : PFn := ⟨fun xs k => match xs with
  | [.int .u64 x, .int .u64 y] => bif inU x && inU y then k (.tuple [.int .u64 (x * y / 18446744073709551616), .int .u64 (x * y % 18446744073709551616)]) else none
  | _ => none, false⟩
theorem ok_Mul64 : FOK NGd Wd 134 p_Mul64 := by
  refine fok_calls Tryz.func134 (by kernel_rfl) (by decide) ?_ rfl ?_
  · intro R xs k
    simp only [p_Mul64]
    split
    · exact cond_nat
    · rfl
  · intro xs r M vs hW h hr
    simp only [p_Mul64] at h
    split at h
    · rename_i x y
      rcases hb : (inU x && inU y) with _ | _ <;> rw [hb] at h
      · cases h
      · simp only [cond_true, Option.some.injEq] at h
        subst h
        simp only [Bool.and_eq_true, inU_iff] at hb
        obtain ⟨v, u, rfl, h1, h2⟩ := relT2 hr
        simp only [RelD] at h1 h2
        subst h1 h2
        obtain ⟨X, rfl⟩ := Int.eq_ofNat_of_zero_le hb.1.1
        obtain ⟨Y, rfl⟩ := Int.eq_ofNat_of_zero_le hb.2.1
        refine (Any.bits_Mul64 Tryz.lays264 X Y (by omega) (by omega) M.w).mono ?_
        rintro e w' ⟨rfl, rfl⟩
        exact ⟨_, rfl, Below.refl _ _, fun U' _ => relT_ints2 (by simp)⟩
    · cases h
def p_times : PFn := ⟨fun xs k => match xs with
  | [.int .u64 x, .int .u64 y] => bif inU x && inU y then k (W2 (x * y)) else none
  | _ => none, false⟩
theorem prod_lt {x y : Int} (h0 : 0 ≤ x) (h1 : x < 18446744073709551616) (h2 : 0 ≤ y) (h3 : y < 18446744073709551616) : 0 ≤ x * y ∧ x * y < 340282366920938463463374607431768211456 := by
  refine ⟨Int.mul_nonneg h0 h2, ?_⟩
  have k := Int.mul_le_mul (show x ≤ 18446744073709551615 by omega) (show y ≤ 18446744073709551615 by omega) h2 (by decide)
  omega
theorem ok_times : FOK NGd Wd 113 p_times := by
  refine fok wokd (allOK_cons ok_Mul64 allOK_nil) (h := ⟨[], []⟩) Tryz.func113 rfl (by decide) ?_ ?_
  · intro R xs k
    simp only [p_times]
    split
    · exact cond_nat
    · rfl
  · intro xs r h
    simp only [p_times] at h
    split at h
    · rename_i x y
      rcases hb : (inU x && inU y) with _ | _ <;> rw [hb] at h
      · cases h
      · simp only [cond_true, Option.some.injEq] at h
        subst h
        have raw : prun (en [(134, p_Mul64)]) ⟨[], []⟩ 0 false Tryz.f113 [.int .u64 x, .int .u64 y] =
            bif inU x && inU y then some (.agg [.int .u64 (x * y / 18446744073709551616), .int .u64 (x * y % 18446744073709551616)]) else none := by kernel_rfl
        refine ⟨0, raw.trans ?_⟩
        rw [cond_t hb]
        simp only [Bool.and_eq_true, inU_iff] at hb
        have := prod_lt hb.1.1 hb.1.2 hb.2.1 hb.2.2
        generalize x * y = z at *
        exact agg2 (by unfold hiI; omega) rfl
    · cases h

/-! ## signs -/
def signedK {R : Type} (h l : Int) (m : Bool) (k : PV → Option R) : Option R :=
  bif decide (0 < h) || decide (9223372036854775808 < l) || (l == 9223372036854775808 && !m) then k (.tuple [.int .i64 0, .int .i64 20]) else
  bif m then k (.tuple [.int .i64 (IntKind.i64.wrap (IntKind.u64.wrap (0 - l))), .int .i64 0]) else k (.tuple [.int .i64 (IntKind.i64.wrap l), .int .i64 0])
theorem signed_raw (l : List (FuncId × PFn)) (a b : Int) (m : Bool) (fuel : Nat) : prun (en l) ⟨[], []⟩ fuel false Tryz.f112 [.agg [.int .u64 a, .int .u64 b], .bool m] = signedK a b m some := by kernel_rfl
/-- the signed number of a size, and the error -/
def sgn (n : Int) (m : Bool) : Int := bif m then -n else n
def over64 (n : Int) : Bool := decide (n < -9223372036854775808) || decide (9223372036854775807 < n)
/-- an answer: the number if it can be held, else an error -/
def ansV (n : Int) : Int := bif over64 n then 0 else n
def ansE (n : Int) : Int := bif over64 n then 20 else 0
def ansI (n : Int) : PV := .tuple [.int .i64 (ansV n), .int .i64 (ansE n)]
theorem signedK_eq {h l : Int} {m : Bool} (hh : inU h = true) (hl : inU l = true) : signedK h l m some = some (ansI (sgn (N2 h l) m)) := by
  rw [inU_iff] at hh hl
  have big : (9223372036854775808 < N2 h l ∨ (N2 h l = 9223372036854775808 ∧ m = false)) → (decide (0 < h) || decide (9223372036854775808 < l) || (l == 9223372036854775808 && !m)) = true := by
    unfold N2
    intro k
    simp only [Bool.or_eq_true, Bool.and_eq_true, decide_eq_true_eq, beq_iff_eq, Bool.not_eq_true']
    by_cases c : 0 < h
    · exact .inl (.inl c)
    · rcases k with k | ⟨k, e⟩
      · exact .inl (.inr (by omega))
      · exact .inr ⟨by omega, e⟩
  have small : N2 h l ≤ 9223372036854775808 → (N2 h l = 9223372036854775808 → m = true) → (decide (0 < h) || decide (9223372036854775808 < l) || (l == 9223372036854775808 && !m)) = false ∧ N2 h l = l := by
    unfold N2
    intro k1 k2
    have h0 : h = 0 := by omega
    subst h0
    refine ⟨?_, by omega⟩
    rw [decide_eq_false (by omega), decide_eq_false (by omega)]
    by_cases c : l = 9223372036854775808
    · rw [k2 (by omega)]; simp
    · rw [beq_eq_false_iff_ne.2 c]; rfl
  have h0 : 0 ≤ N2 h l := by unfold N2; omega
  unfold signedK ansI ansV ansE over64 sgn
  by_cases a : 9223372036854775808 < N2 h l ∨ (N2 h l = 9223372036854775808 ∧ m = false)
  · rw [cond_t (big a)]
    cases m <;> simp only [cond_true, cond_false]
    · have : 9223372036854775808 ≤ N2 h l := a.elim (fun a => Int.le_of_lt a) (fun a => Int.le_of_eq a.1.symm)
      rw [decide_eq_false (by omega), decide_eq_true (by omega)]; rfl
    · have : 9223372036854775808 < N2 h l := a.elim (fun a => a) (fun a => absurd a.2 (by decide))
      rw [decide_eq_true (by omega)]; rfl
  · obtain ⟨k, e⟩ := small (Int.not_lt.1 fun k => a (.inl k)) (fun e => by cases m with | true => rfl | false => exact (a (.inr ⟨e, rfl⟩)).elim)
    rw [cond_f k, e]
    rw [e] at a h0
    cases m <;> simp only [cond_true, cond_false]
    · have : l < 9223372036854775808 := by
        rcases Int.lt_trichotomy l 9223372036854775808 with k | k | k
        · exact k
        · exact (a (.inr ⟨k, rfl⟩)).elim
        · exact (a (.inl k)).elim
      rw [decide_eq_false (by omega), decide_eq_false (by omega), wrapI_of (by omega) (by omega)]
      simp
    · have : l ≤ 9223372036854775808 := Int.not_lt.1 fun k => a (.inl k)
      rw [decide_eq_false (by omega), decide_eq_false (by omega), wrapU, IntKind.wrap_i64]
      simp only [Bool.or_self, cond_false, Option.some.injEq, PV.tuple.injEq, List.cons.injEq, PV.int.injEq, true_and, and_true]
      omega
def p_signed : PFn := ⟨fun xs k => match xs with
  | [.agg [.int .u64 h, .int .u64 l], .bool m] => bif inU h && inU l then k (ansI (sgn (N2 h l) m)) else none
  | _ => none, false⟩
theorem ok_signed : FOK NGd Wd 112 p_signed := by
  refine fok wokd allOK_nil (h := ⟨[], []⟩) Tryz.func112 rfl (by decide) ?_ ?_
  · intro R xs k
    simp only [p_signed]
    split
    · exact cond_nat
    · rfl
  · intro xs r h
    simp only [p_signed] at h
    split at h
    · rename_i a b m
      rcases hb : (inU a && inU b) with _ | _ <;> rw [hb] at h
      · cases h
      · simp only [cond_true, Option.some.injEq] at h
        subst h
        simp only [Bool.and_eq_true] at hb
        exact ⟨0, (signed_raw [] a b m 0).trans (signedK_eq hb.1 hb.2)⟩
    · cases h

end Go.Proofs.YtllpobcecingiaaGreatDoor
