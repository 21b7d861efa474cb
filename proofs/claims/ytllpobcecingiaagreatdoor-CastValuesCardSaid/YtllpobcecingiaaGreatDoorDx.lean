/-
  Decimal: wide numbers, continued: comparison, difference, double, division.
-/
import Derived.Test.YtllpobcecingiaaGreatDoorDw
set_option linter.unusedVariables false
set_option linter.unusedSimpArgs false
namespace Go.Proofs.YtllpobcecingiaaGreatDoor
open Go.RowKit

/-! ## comparison -/
def cmpI (a b : Int) : Int := bif decide (a < b) then -1 else bif decide (b < a) then 1 else 0
def p_nanU : PFn := ⟨fun xs k => match xs with | [.int .u64 _] => k (.bool false) | _ => none, false⟩
theorem ok_nanU : FOK NGd Wd 162 p_nanU := by
  refine fok wokd allOK_nil (h := ⟨[], []⟩) Tryz.func162 rfl (by decide) ?_ ?_
  · intro R xs k
    simp only [p_nanU]
    split <;> rfl
  · intro xs r h
    simp only [p_nanU] at h
    split at h
    · rename_i n
      injection h with h
      subst h
      have raw : prun (en []) ⟨[], []⟩ 0 false Tryz.f162 [.int .u64 n] = some (.bool (n != n)) := by kernel_rfl
      refine ⟨0, raw.trans ?_⟩
      simp
    · cases h
def p_cmpU : PFn := ⟨fun xs k => match xs with | [.int .u64 a, .int .u64 b] => k (.int .i64 (cmpI a b)) | _ => none, false⟩
theorem ok_cmpU : FOK NGd Wd 147 p_cmpU := by
  refine fok wokd (allOK_cons ok_nanU allOK_nil) (h := ⟨[], []⟩) Tryz.func147 rfl (by decide) ?_ ?_
  · intro R xs k
    simp only [p_cmpU]
    split <;> rfl
  · intro xs r h
    simp only [p_cmpU] at h
    split at h
    · rename_i a b
      injection h with h
      subst h
      have raw : prun (en [(162, p_nanU)]) ⟨[], []⟩ 0 false Tryz.f147 [.int .u64 a, .int .u64 b] = bif decide (a < b) then some (.int .i64 (-1)) else bif decide (b < a) then some (.int .i64 1) else some (.int .i64 0) := by kernel_rfl
      refine ⟨0, raw.trans ?_⟩
      unfold cmpI
      cases decide (a < b) <;> cases decide (b < a) <;> rfl
    · cases h
def orC (a b : Int) : Int := bif a != 0 then a else b
def hOr : Hints := ⟨[], [(0, ⟨[(3, false), (6, false), (7, false), (8, false)], []⟩)]⟩
def p_or2 : PFn := ⟨fun xs k => match xs with | [.sl _ 1 2 [.int .i64 a, .int .i64 b]] => k (.int .i64 (orC a b)) | _ => none, false⟩
theorem ok_or2 : FOK NGd Wd 95 p_or2 := by
  refine fok wokd allOK_nil (h := hOr) Tryz.func95 rfl (by decide) ?_ ?_
  · intro R xs k
    simp only [p_or2]
    split <;> rfl
  · intro xs r h
    simp only [p_or2] at h
    split at h
    · rename_i nl a b
      injection h with h
      subst h
      have raw : prun (en []) hOr 5 false Tryz.f95 [.sl nl 1 2 [.int .i64 a, .int .i64 b]] = bif a != 0 then some (.int .i64 a) else bif b != 0 then some (.int .i64 b) else some (.int .i64 0) := by kernel_rfl
      refine ⟨5, raw.trans ?_⟩
      unfold orC
      cases h1 : a != 0
      · cases h2 : b != 0
        · simp only [bne_eq_false_iff_eq] at h2
          subst h2; rfl
        · rfl
      · rfl
    · cases h
def lessI (h l h' l' : Int) : Bool := decide (orC (cmpI h h') (cmpI l l') < 0)
def N2 (h l : Int) : Int := h * 18446744073709551616 + l
theorem lessI_eq {h l h' l' : Int} (h1 : inU h = true) (h2 : inU l = true) (h3 : inU h' = true) (h4 : inU l' = true) : lessI h l h' l' = decide (N2 h l < N2 h' l') := by
  rw [inU_iff] at *
  unfold lessI orC cmpI N2
  by_cases a : h < h'
  · rw [decide_eq_true a]
    exact Eq.trans (b := true) rfl (decide_eq_true (by omega)).symm
  · by_cases b : h' < h
    · rw [decide_eq_false a, decide_eq_true b]
      exact Eq.trans (b := false) rfl (decide_eq_false (by omega)).symm
    · have e : h = h' := by omega
      subst e
      rw [decide_eq_false a]; simp only [cond_false]
      by_cases c : l < l'
      · rw [decide_eq_true c]
        exact Eq.trans (b := true) rfl (decide_eq_true (by omega)).symm
      · by_cases d : l' < l
        · rw [decide_eq_false c, decide_eq_true d]
          exact Eq.trans (b := false) rfl (decide_eq_false (by omega)).symm
        · rw [decide_eq_false c, decide_eq_false d]
          exact Eq.trans (b := false) rfl (decide_eq_false (by omega)).symm
def p_less : PFn := ⟨fun xs k => match xs with | [.agg [.int .u64 h, .int .u64 l], .agg [.int .u64 h', .int .u64 l']] => k (.bool (lessI h l h' l')) | _ => none, false⟩
theorem ok_less : FOK NGd Wd 137 p_less := by
  refine fok wokd (allOK_cons ok_or2 (allOK_cons ok_cmpU allOK_nil)) (h := ⟨[], []⟩) Tryz.func137 rfl (by decide) ?_ ?_
  · intro R xs k
    simp only [p_less]
    split <;> rfl
  · intro xs r h
    simp only [p_less] at h
    split at h
    · rename_i a b c d
      injection h with h
      subst h
      have raw : prun (en [(95, p_or2), (147, p_cmpU)]) ⟨[], []⟩ 0 false Tryz.f137 [.agg [.int .u64 a, .int .u64 b], .agg [.int .u64 c, .int .u64 d]] = some (.bool (lessI a b c d)) := by kernel_rfl
      exact ⟨0, raw⟩
    · cases h

/-! ## difference, double -/
def hiI (n : Int) : Int := n / 18446744073709551616 % 18446744073709551616
def loI (n : Int) : Int := n % 18446744073709551616
def W2 (n : Int) : PV := .agg [.int .u64 (hiI n), .int .u64 (loI n)]
theorem hiI_u (n : Int) : inU (hiI n) = true := by rw [inU_iff]; unfold hiI; omega
theorem loI_u (n : Int) : inU (loI n) = true := by rw [inU_iff]; unfold loI; omega
theorem N2_W2 {n : Int} (h0 : 0 ≤ n) (h1 : n < 340282366920938463463374607431768211456) : N2 (hiI n) (loI n) = n := by unfold N2 hiI loI; omega
theorem agg2 {a a' b b' : Int} (h : a = a') (k : b = b') : some (PV.agg [.int .u64 a, .int .u64 b]) = some (PV.agg [.int .u64 a', .int .u64 b']) := by rw [h, k]
def p_wsub : PFn := ⟨fun xs k => match xs with
  | [.agg [.int .u64 h, .int .u64 l], .agg [.int .u64 h', .int .u64 l']] => bif inU h && (inU l && (inU h' && inU l')) then k (W2 (N2 h l - N2 h' l')) else none
  | _ => none, false⟩
theorem ok_wsub : FOK NGd Wd 136 p_wsub := by
  refine fok wokd (allOK_cons ok_Sub64 allOK_nil) (h := ⟨[], []⟩) Tryz.func136 rfl (by decide) ?_ ?_
  · intro R xs k
    simp only [p_wsub]
    split
    · exact cond_nat
    · rfl
  · intro xs r h
    simp only [p_wsub] at h
    split at h
    · rename_i a b c d
      rcases hb : (inU a && (inU b && (inU c && inU d))) with _ | _ <;> rw [hb] at h
      · cases h
      · simp only [cond_true, Option.some.injEq] at h
        subst h
        simp only [Bool.and_eq_true, inU_iff] at hb
        have raw : prun (en [(150, p_Sub64)]) ⟨[], []⟩ 0 false Tryz.f136 [.agg [.int .u64 a, .int .u64 b], .agg [.int .u64 c, .int .u64 d]] =
            bif decide (0 ≤ b) && (decide (0 ≤ d) && (decide (d ≤ 18446744073709551615) && (decide ((0 : Int) ≤ 0) && decide ((0 : Int) ≤ 1)))) then
              bif decide (0 ≤ a) && (decide (0 ≤ c) && (decide (c ≤ 18446744073709551615) && (decide (0 ≤ bif decide (b < d + 0) then (1 : Int) else 0) && decide ((bif decide (b < d + 0) then (1 : Int) else 0) ≤ 1)))) then
                some (.agg [.int .u64 ((a - c - bif decide (b < d + 0) then (1 : Int) else 0) % 18446744073709551616), .int .u64 ((b - d - 0) % 18446744073709551616)])
              else none
            else none := by kernel_rfl
        refine ⟨0, raw.trans ?_⟩
        by_cases e : b < d
        · rw [decide_eq_true (show b < d + 0 by omega)]
          rw [cond_t (by simp; omega), cond_t (by simp; omega)]
          unfold W2 hiI loI N2
          simp only [cond_true]
          exact agg2 (by omega) (by omega)
        · rw [decide_eq_false (show ¬ b < d + 0 by omega)]
          rw [cond_t (by simp; omega), cond_t (by simp; omega)]
          unfold W2 hiI loI N2
          simp only [cond_false]
          exact agg2 (by omega) (by omega)
    · cases h

def orU (a b : Int) : Int := IntKind.u64.wrap ((BitVec.ofInt IntKind.u64.bits a ||| BitVec.ofInt IntKind.u64.bits b).toNat : Int)
def andU (a b : Int) : Int := IntKind.u64.wrap ((BitVec.ofInt IntKind.u64.bits a &&& BitVec.ofInt IntKind.u64.bits b).toNat : Int)
theorem ofInt_toNat {a : Int} (h0 : 0 ≤ a) (h1 : a < 18446744073709551616) : (BitVec.ofInt IntKind.u64.bits a).toNat = a.toNat := by
  rw [BitVec.toNat_ofInt]
  show (a % 18446744073709551616).toNat = _
  congr 1
  omega
theorem orU_even {a b : Int} (h0 : 0 ≤ a) (h1 : a < 18446744073709551616) (h2 : a % 2 = 0) (h3 : 0 ≤ b) (h4 : b ≤ 1) : orU a b = a + b := by
  unfold orU
  rw [BitVec.toNat_or, ofInt_toNat h0 h1, ofInt_toNat h3 (by omega)]
  obtain ⟨A, rfl⟩ := Int.eq_ofNat_of_zero_le h0
  obtain ⟨B, rfl⟩ := Int.eq_ofNat_of_zero_le h3
  have := Nat.two_pow_add_eq_or_of_lt (i := 1) (b := B) (by omega) (A / 2)
  rw [show 2 ^ 1 * (A / 2) = A by omega] at this
  simp only [Int.toNat_natCast]
  rw [← this, wrapU_of (by omega) (by omega)]
  omega
theorem andU_one {a : Int} (h0 : 0 ≤ a) (h1 : a < 18446744073709551616) : andU a 1 = a % 2 := by
  unfold andU
  rw [BitVec.toNat_and, ofInt_toNat h0 h1, ofInt_toNat (by omega) (by omega)]
  obtain ⟨A, rfl⟩ := Int.eq_ofNat_of_zero_le h0
  simp only [Int.toNat_natCast]
  rw [show Int.toNat 1 = 1 from rfl, Nat.and_one_is_mod, wrapU_of (by omega) (by omega)]
  omega
theorem orU_low {a b : Int} (h0 : 0 ≤ a) (h1 : a < 18446744073709551616) (h2 : a % 2 = 0) (h3 : 0 ≤ b) (h4 : b ≤ 1) : orU a b = a + b := orU_even h0 h1 h2 h3 h4
def p_double : PFn := ⟨fun xs k => match xs with
  | [.agg [.int .u64 h, .int .u64 l]] => bif inU h && inU l then k (W2 (2 * N2 h l)) else none
  | _ => none, false⟩
theorem ok_double : FOK NGd Wd 149 p_double := by
  refine fok wokd allOK_nil (h := ⟨[], []⟩) Tryz.func149 rfl (by decide) ?_ ?_
  · intro R xs k
    simp only [p_double]
    split
    · exact cond_nat
    · rfl
  · intro xs r h
    simp only [p_double] at h
    split at h
    · rename_i a b
      rcases hb : (inU a && inU b) with _ | _ <;> rw [hb] at h
      · cases h
      · simp only [cond_true, Option.some.injEq] at h
        subst h
        simp only [Bool.and_eq_true, inU_iff] at hb
        have raw : prun (en []) ⟨[], []⟩ 0 false Tryz.f149 [.agg [.int .u64 a, .int .u64 b]] =
            some (.agg [.int .u64 (orU (IntKind.u64.wrap (a * 2 ^ min (Int.toNat 1) IntKind.u64.bits)) (b.fdiv (2 ^ min (Int.toNat 63) IntKind.u64.bits))), .int .u64 (IntKind.u64.wrap (b * 2 ^ min (Int.toNat 1) IntKind.u64.bits))]) := by kernel_rfl
        refine ⟨0, raw.trans ?_⟩
        have e1 : ((2 : Int) ^ min (Int.toNat 1) IntKind.u64.bits) = 2 := by decide
        have e2 : ((2 : Int) ^ min (Int.toNat 63) IntKind.u64.bits) = 9223372036854775808 := by decide
        rw [e1, e2, wrapU, wrapU, Int.fdiv_eq_ediv_of_nonneg _ (by decide), orU_even (by omega) (by omega) (by omega) (by omega) (by omega)]
        unfold W2 hiI loI N2
        exact agg2 (by omega) (by omega)
    · cases h

end Go.Proofs.YtllpobcecingiaaGreatDoor
