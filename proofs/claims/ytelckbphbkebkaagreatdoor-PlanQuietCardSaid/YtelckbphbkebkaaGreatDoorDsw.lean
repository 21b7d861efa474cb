/-
  Decimal: the laws DecimalSwaps and DecimalOrders.
-/
import Derived.Test.YtelckbphbkebkaaGreatDoorDq
set_option linter.unusedVariables false
set_option linter.unusedSimpArgs false
namespace Go.Proofs.YtelckbphbkebkaaGreatDoor
open Go.RowKit
theorem rel_pair (M : Mem) (a b : Int) : RelL M [.int .i64 a, .int .i64 b] [.int .i64 a, .int .i64 b] := by
  simp only [RelL, RelD]
  exact ⟨_, _, rfl, rfl, rfl, _, _, rfl, rfl, rfl, rfl⟩

/-! ## DecimalSwaps -/
def swapBody (a0 a1 b0 b1 t : Int) : Option PV :=
  bif inI a0 && inI b0 then bif inI b0 && inI a0 then bif inI a0 && inI b0 then bif inI b0 && inI a0 then
    bif !(mulV a0 a1 b0 b1 t == mulV b0 b1 a0 a1 t) || !(mulE a0 a1 b0 b1 t == mulE b0 b1 a0 a1 t) || !(ansV (a0 + b0) == ansV (b0 + a0)) || !(ansE (a0 + b0) == ansE (b0 + a0)) then some (.bool false) else
    bif inI a0 && inI 1 then bif inI a0 && inI 1 then bif inI a0 then
      some (.bool (mulV a0 a1 1 0 t == divV a0 a1 1 0 t && mulE a0 a1 1 0 t == divE a0 a1 1 0 t && mulV a0 a1 1 0 t == scaV a0 a1 t && mulE a0 a1 1 0 t == scaE a0 a1 t))
    else none else none else none
  else none else none else none else none
theorem mulS_comm (a b : Int) : mulS a b = mulS b a := by unfold mulS; rw [Bool.beq_comm]
theorem mulN_comm (a0 a1 b0 b1 t : Int) : mulN a0 a1 b0 b1 t = mulN b0 b1 a0 a1 t := by
  unfold mulN
  rw [Int.add_comm b1 a1, Int.mul_comm (absI b0) (absI a0), show t - b1 - a1 = t - a1 - b1 by omega]
theorem and3_comm (x y z : Bool) : (x && y && z) = (y && x && z) := by cases x <;> cases y <;> rfl
theorem mulV_comm (a0 a1 b0 b1 t : Int) : mulV a0 a1 b0 b1 t = mulV b0 b1 a0 a1 t := by
  unfold mulV
  rw [mulN_comm a0, mulS_comm a0, and3_comm]
theorem mulE_comm (a0 a1 b0 b1 t : Int) : mulE a0 a1 b0 b1 t = mulE b0 b1 a0 a1 t := by
  unfold mulE
  rw [mulN_comm a0, mulS_comm a0, and3_comm]
theorem and_mid (x z : Bool) : (x && scaleB 0 && z) = (x && z) := by rw [show scaleB 0 = true from rfl]; simp
theorem mulS_one (a : Int) : mulS a 1 = decide (a < 0) := by unfold mulS; rw [show decide ((1 : Int) < 0) = false from rfl]; cases decide (a < 0) <;> rfl
theorem absI_one : absI 1 = 1 := rfl
theorem round_one (x : Int) : roundI x 1 = x := by unfold roundI; rw [Int.emod_one, Int.ediv_one]; simp
theorem mulN_one (a k t : Int) : mulN a k 1 0 t = scaN a k t := by
  unfold mulN scaN
  rw [absI_one, Int.mul_one]
  by_cases h : k ≤ t
  · rw [decide_eq_true h, decide_eq_false (show ¬ 0 < k + 0 - t by omega), show t - k - 0 = t - k by omega]; rfl
  · rw [decide_eq_false h, decide_eq_true (show 0 < k + 0 - t by omega), show k + 0 - t = k - t by omega]; rfl
theorem divN_one (a k t : Int) : divN a k 1 0 t = scaN a k t := by
  unfold divN scaN
  rw [absI_one, Int.one_mul, round_one]
  by_cases h : k ≤ t
  · rw [decide_eq_true h, decide_eq_true (show 0 ≤ 0 + t - k by omega), show 0 + t - k = t - k by omega]; rfl
  · rw [decide_eq_false h, decide_eq_false (show ¬ 0 ≤ 0 + t - k by omega), show k - 0 - t = k - t by omega]; rfl
theorem mulV_one (a k t : Int) : mulV a k 1 0 t = scaV a k t := by unfold mulV scaV; rw [and_mid, mulN_one, mulS_one]
theorem mulE_one (a k t : Int) : mulE a k 1 0 t = scaE a k t := by unfold mulE scaE; rw [and_mid, mulN_one, mulS_one]
theorem divV_one (a k t : Int) : divV a k 1 0 t = scaV a k t := by unfold divV scaV; rw [and_mid, divN_one, mulS_one]; rfl
theorem divE_one (a k t : Int) : divE a k 1 0 t = scaE a k t := by unfold divE scaE; rw [and_mid, divN_one, mulS_one]; rfl
theorem swap_body {a0 b0 : Int} (a1 b1 t : Int) (ha : inI a0 = true) (hb : inI b0 = true) : swapBody a0 a1 b0 b1 t = some (.bool true) := by
  unfold swapBody
  rw [ha, hb, mulV_comm b0, mulE_comm b0, Int.add_comm b0 a0, mulV_one, mulE_one, divV_one, divE_one, show inI 1 = true from rfl]
  simp
/-! ## DecimalOrders -/
def ordT (a1 b1 : Int) : Int := if b1 > a1 then b1 else a1
def ordS (a0 a1 b0 b1 w : Int) : Option PV :=
  bif inI a0 && inI b0 then bif !(dcmp a0 3 b0 3 == w) then some (.bool false) else
  bif inI a0 then bif inI b0 then
    bif !(!(scaE a0 a1 (ordT a1 b1) == 0) || !(scaE b0 b1 (ordT a1 b1) == 0)) then
      bif inI a0 && inI b0 then bif inI (scaV a0 a1 (ordT a1 b1)) && inI (scaV b0 b1 (ordT a1 b1)) then
        some (.bool (dcmp a0 a1 b0 b1 == dcmp (scaV a0 a1 (ordT a1 b1)) (ordT a1 b1) (scaV b0 b1 (ordT a1 b1)) (ordT a1 b1))) else none else none
    else some (.bool true)
  else none else none else none
def ordN (a0 a1 b0 b1 : Int) : Option PV := bif inI a0 && inI b0 then some (.bool (dcmp a0 a1 b0 b1 == 0)) else none
def ordBody (a0 a1 b0 b1 : Int) : Option PV :=
  bif !!scaleB a1 then
    bif !scaleB b1 then ordN a0 a1 b0 b1 else
    bif decide (a0 < b0) then bif decide (b0 < a0) then ordS a0 a1 b0 b1 1 else ordS a0 a1 b0 b1 (-1)
    else bif decide (b0 < a0) then ordS a0 a1 b0 b1 1 else ordS a0 a1 b0 b1 0
  else ordN a0 a1 b0 b1
theorem cmpI_scale {a b t : Int} (ht : 0 < t) : cmpI (a * t) (b * t) = cmpI a b := by
  rcases cmpI_cases a b with ⟨k, e⟩ | ⟨k, e⟩ | ⟨k, e⟩
  · rw [e, cmpI_lt (Int.mul_lt_mul_of_pos_right k ht)]
  · rw [k, cmpI_self, cmpI_self]
  · rw [e, cmpI_gt (Int.mul_lt_mul_of_pos_right k ht)]
theorem sca_fine {n f t : Int} (h : scaE n f t = 0) : scaleB f = true ∧ scaleB t = true ∧ scaV n f t = sgn (scaN n f t) (decide (n < 0)) := by
  unfold scaE at h
  unfold scaV
  cases hs : scaleB f && scaleB t
  · rw [hs] at h; cases h
  · rw [hs] at h
    rw [Bool.and_eq_true] at hs
    refine ⟨hs.1, hs.2, ?_⟩
    simp only [cond_true, ansE, ansV] at h ⊢
    cases ho : over64 (sgn (scaN n f t) (decide (n < 0)))
    · rfl
    · rw [ho] at h; cases h
theorem sca_up {n f t : Int} (h : f ≤ t) : sgn (scaN n f t) (decide (n < 0)) = n * tenI (t - f) := by
  unfold scaN sgn
  rw [decide_eq_true h, cond_true]
  by_cases k : n < 0
  · rw [decide_eq_true k, cond_true, show absI n = -n by unfold absI; omega, Int.neg_mul, Int.neg_neg]
  · rw [decide_eq_false k, cond_false, show absI n = n by unfold absI; omega]
theorem ansV_in (n : Int) : inI (ansV n) = true := by
  unfold ansV
  cases h : over64 n
  · rw [cond_false, inI_iff]
    unfold over64 at h
    simp only [Bool.or_eq_false_iff, decide_eq_false_iff_not] at h
    omega
  · rfl
theorem scaV_in (n f t : Int) : inI (scaV n f t) = true := by
  unfold scaV
  cases scaleB f && scaleB t
  · rfl
  · exact ansV_in _
theorem tenI_add {i j : Int} (hi : 0 ≤ i) (hj : 0 ≤ j) (h : i + j ≤ 13) : tenI i * tenI j = tenI (i + j) := by
  unfold tenI
  rw [← Int.natCast_mul, ← Nat.pow_add, show (min i 13).toNat + (min j 13).toNat = (min (i + j) 13).toNat by omega]
theorem ord_s {a0 a1 b0 b1 : Int} (ha : inI a0 = true) (hb : inI b0 = true) (h1 : scaleB a1 = true) (h2 : scaleB b1 = true) {w : Int} (hw : cmpI a0 b0 = w) : ordS a0 a1 b0 b1 w = some (.bool true) := by
  unfold ordS
  have e3 : dcmp a0 3 b0 3 = w := by
    unfold dcmp
    rw [show (scaleB 3 && scaleB 3) = true from rfl, cond_true, cmpI_scale (by have := tenI_le 3; omega), hw]
  rw [ha, hb, e3, scaV_in, scaV_in]
  simp only [Bool.and_self, cond_true, beq_self_eq_true, Bool.not_true, cond_false]
  cases he : scaE a0 a1 (ordT a1 b1) == 0
  · rfl
  · cases hf : scaE b0 b1 (ordT a1 b1) == 0
    · rfl
    · simp only [Bool.not_true, Bool.or_self, Bool.not_false, cond_true, Option.some.injEq, PV.bool.injEq, beq_iff_eq]
      obtain ⟨_, s1, v1⟩ := sca_fine (by simpa using he)
      obtain ⟨_, _, v2⟩ := sca_fine (by simpa using hf)
      rw [scaleB_iff] at h1 h2
      have ht : a1 ≤ ordT a1 b1 ∧ b1 ≤ ordT a1 b1 ∧ ordT a1 b1 ≤ 6 ∧ (ordT a1 b1 = a1 ∨ ordT a1 b1 = b1) := by unfold ordT; split <;> omega
      rw [v1, v2, sca_up ht.1, sca_up ht.2.1]
      unfold dcmp
      rw [s1, show (scaleB a1 && scaleB b1) = true by rw [Bool.and_eq_true, scaleB_iff, scaleB_iff]; exact ⟨h1, h2⟩]
      simp only [Bool.and_self, cond_true]
      have tp := tenI_le (ordT a1 b1)
      rw [cmpI_scale (by omega)]
      generalize ordT a1 b1 = t at *
      rcases ht.2.2.2 with e | e
      · subst e
        rw [show t - t = 0 by omega, tenI_0, Int.mul_one, ← cmpI_scale (t := tenI b1) (by have := tenI_le b1; omega) (a := a0), Int.mul_assoc, tenI_add (by omega) (by omega) (by omega), show t - b1 + b1 = t by omega]
      · subst e
        rw [show t - t = 0 by omega, tenI_0, Int.mul_one, ← cmpI_scale (t := tenI a1) (by have := tenI_le a1; omega) (b := b0), Int.mul_assoc, tenI_add (by omega) (by omega) (by omega), show t - a1 + a1 = t by omega]
theorem ord_n {a0 a1 b0 b1 : Int} (ha : inI a0 = true) (hb : inI b0 = true) (h : scaleB a1 = false ∨ scaleB b1 = false) : ordN a0 a1 b0 b1 = some (.bool true) := by
  unfold ordN dcmp
  rw [ha, hb]
  rcases h with h | h <;> rw [h]
  · rfl
  · rw [Bool.and_false]; rfl
theorem ord_body {a0 a1 b0 b1 : Int} (ha : inI a0 = true) (hb : inI b0 = true) : ordBody a0 a1 b0 b1 = some (.bool true) := by
  unfold ordBody
  cases h1 : scaleB a1
  · exact ord_n ha hb (.inl h1)
  · cases h2 : scaleB b1
    · exact ord_n ha hb (.inr h2)
    · simp only [Bool.not_true, Bool.not_false, cond_true, cond_false]
      rcases cmpI_cases a0 b0 with ⟨k, e⟩ | ⟨k, e⟩ | ⟨k, e⟩
      · rw [decide_eq_true k, decide_eq_false (show ¬ b0 < a0 by omega)]
        exact ord_s ha hb h1 h2 e
      · rw [decide_eq_false (show ¬ a0 < b0 by omega), decide_eq_false (show ¬ b0 < a0 by omega)]
        exact ord_s ha hb h1 h2 e
      · rw [decide_eq_false (show ¬ a0 < b0 by omega), decide_eq_true k]
        exact ord_s ha hb h1 h2 e
end Go.Proofs.YtelckbphbkebkaaGreatDoor
