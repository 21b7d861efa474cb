/-
  Decimal: the document's answer: Compare; the law DecimalCompares.
-/
import Derived.Test.YtdgoagnbpbehnaaDoorDt
set_option linter.unusedVariables false
set_option linter.unusedSimpArgs false
namespace Go.Proofs.YtdgoagnbpbehnaaDoor
open Go.RowKit

/-- what Shift yields of cells -/
def shiftO {R : Type} (l0 : Nat) (c0 : List PV) (j : Int) (k : Nat → Option R) : Option R := (decN l0 c0).bind fun A => bif decide (dlen A ≤ 500) && (decide (0 ≤ j) && decide (j ≤ 100)) then k (A * 10 ^ j.toNat) else none
theorem shiftO_eq {R : Type} {A : Nat} {j : Int} {k : Nat → Option R} (hA : dlen A ≤ 500) (h0 : 0 ≤ j) (h1 : j ≤ 100) : shiftO (dlen A) (cellsN A) j k = k (A * 10 ^ j.toNat) := by
  unfold shiftO
  rw [decN_big]
  exact cond_t (by rw [decide_eq_true hA, decide_eq_true h0, decide_eq_true h1]; rfl)
theorem dlen_shift_le {A k : Nat} {m : Nat} (h : dlen A ≤ m) : dlen (A * 10 ^ k) ≤ m + k := by
  by_cases e : A = 0
  · subst e; rw [Nat.zero_mul, dlen_zero]; omega
  · rw [dlen_shift e]; omega
noncomputable def lRC : List (FuncId × PFn) := [(48, p_Of), (47, p_Shift), (55, p_Cmp), (18, p_Scale)]
theorem ok_lRC : AllOK NGd Wd lRC := allOK_cons ok_Of (allOK_cons ok_Shift (allOK_cons ok_Cmp (allOK_cons ok_Scale allOK_nil)))
def rcBody (a sa b sb : Int) : Option PV :=
  bif !!scaleB sa then bif !scaleB sb then some (.int .i64 0) else
    bif decide (a < 0) && decide (0 ≤ b) then some (.int .i64 (-1)) else
    bif decide (0 ≤ a) && decide (b < 0) then some (.int .i64 1) else
    bif inI a then shiftO (dlen a.natAbs) (cellsN a.natAbs) sb fun X => bif inI b then shiftO (dlen b.natAbs) (cellsN b.natAbs) sa fun Y => cmpO (dlen X) (cellsN X) (dlen Y) (cellsN Y) fun z =>
      bif decide (a < 0) then some (.int .i64 (IntKind.i64.wrap (0 - z))) else some (.int .i64 z)
    else none else none
  else some (.int .i64 0)
theorem rc_raw (a sa b sb : Int) : prun (en lRC) ⟨[], []⟩ 0 false Tryd.f30 [.int .i64 a, .int .i64 sa, .int .i64 b, .int .i64 sb] = rcBody a sa b sb := by kernel_rfl
theorem tenI_pow {k : Int} (h0 : 0 ≤ k) (h1 : k ≤ 13) : tenI k = ((10 ^ k.toNat : Nat) : Int) := by
  unfold tenI
  rw [show min k 13 = k by omega]
theorem rc_body {a sa b sb : Int} (ha : inI a = true) (hb : inI b = true) : rcBody a sa b sb = some (.int .i64 (dcmp a sa b sb)) := by
  unfold rcBody dcmp
  cases h1 : scaleB sa
  · rfl
  · cases h2 : scaleB sb
    · rfl
    · rw [scaleB_iff] at h1 h2
      have t1 := tenI_le sa
      have t2 := tenI_le sb
      simp only [Bool.not_true, Bool.not_false, cond_true, cond_false, Bool.and_self]
      by_cases ka : a < 0
      · have q1 : a * tenI sb < 0 := Int.mul_neg_of_neg_of_pos ka (by omega)
        by_cases kb : b < 0
        · rw [decide_eq_true ka, decide_eq_false (show ¬ 0 ≤ b by omega), decide_eq_false (show ¬ 0 ≤ a by omega), ha, hb, shiftO_eq (by have := dlen_abs ha; omega) h2.1 (by omega), cond_true]
          simp only [Bool.and_false, Bool.false_and, cond_false, cond_true]
          rw [shiftO_eq (by have := dlen_abs hb; omega) h1.1 (by omega), cmpO_eq (by have := dlen_shift_le (k := sb.toNat) (dlen_abs ha); omega) (by have := dlen_shift_le (k := sa.toNat) (dlen_abs hb); omega)]
          rw [Int.natCast_mul, Int.natCast_mul, ← tenI_pow h2.1 (by omega), ← tenI_pow h1.1 (by omega), show ((a.natAbs : Nat) : Int) = -a by omega, show ((b.natAbs : Nat) : Int) = -b by omega, Int.neg_mul, Int.neg_mul]
          have e : IntKind.i64.wrap (0 - cmpI (-(a * tenI sb)) (-(b * tenI sa))) = cmpI (a * tenI sb) (b * tenI sa) := by
            rcases cmpI_cases (a * tenI sb) (b * tenI sa) with ⟨k, e⟩ | ⟨k, e⟩ | ⟨k, e⟩
            · rw [e, cmpI_gt (by omega)]; decide
            · rw [e, k, cmpI_self]; decide
            · rw [e, cmpI_lt (by omega)]; decide
          rw [e]
        · have q2 : 0 ≤ b * tenI sa := Int.mul_nonneg (by omega) (by omega)
          rw [decide_eq_true ka, decide_eq_true (show 0 ≤ b by omega), cmpI_lt (by omega)]
          rfl
      · have q1 : 0 ≤ a * tenI sb := Int.mul_nonneg (by omega) (by omega)
        by_cases kb : b < 0
        · have q2 : b * tenI sa < 0 := Int.mul_neg_of_neg_of_pos kb (by omega)
          rw [decide_eq_false ka, decide_eq_true (show 0 ≤ a by omega), decide_eq_true kb, cmpI_gt (by omega)]
          rfl
        · rw [decide_eq_false ka, decide_eq_false kb, ha, hb]
          simp only [Bool.and_false, Bool.false_and, cond_false, cond_true]
          rw [shiftO_eq (by have := dlen_abs ha; omega) h2.1 (by omega), shiftO_eq (by have := dlen_abs hb; omega) h1.1 (by omega), cmpO_eq (by have := dlen_shift_le (k := sb.toNat) (dlen_abs ha); omega) (by have := dlen_shift_le (k := sa.toNat) (dlen_abs hb); omega)]
          rw [Int.natCast_mul, Int.natCast_mul, ← tenI_pow h2.1 (by omega), ← tenI_pow h1.1 (by omega), show ((a.natAbs : Nat) : Int) = a by omega, show ((b.natAbs : Nat) : Int) = b by omega]
def p_RCompare : PFn := ⟨fun xs k => match xs with | [.int .i64 a, .int .i64 sa, .int .i64 b, .int .i64 sb] => bif inI a && inI b then k (.int .i64 (dcmp a sa b sb)) else none | _ => none, false⟩
theorem ok_RCompare : FOK NGd Wd 30 p_RCompare := by
  refine fok wokd ok_lRC (h := ⟨[], []⟩) Tryd.func30 rfl (by decide) ?_ ?_
  · intro R xs k
    simp only [p_RCompare]
    split
    · exact cond_nat
    · rfl
  · intro xs r h
    simp only [p_RCompare] at h
    split at h
    · rename_i a sa b sb
      rcases hb : (inI a && inI b) with _ | _ <;> rw [hb] at h
      · cases h
      · simp only [Bool.and_eq_true] at hb
        exact ⟨0, (rc_raw a sa b sb).trans ((rc_body hb.1 hb.2).trans h)⟩
    · cases h
noncomputable def lLaw3 : List (FuncId × PFn) := (30, p_RCompare) :: lLaw
theorem ok_lLaw3 : AllOK NGd Wd lLaw3 := allOK_cons ok_RCompare ok_lLaw
theorem comp_raw (a0 a1 b0 b1 : Int) : prun (en lLaw3) ⟨[], []⟩ 0 false Tryd.f9 [.agg [.int .i64 a0, .int .i64 a1], .agg [.int .i64 b0, .int .i64 b1]] =
    bif inI a0 && inI b0 then bif inI a0 && inI b0 then bif dcmp a0 a1 b0 b1 == dcmp a0 a1 b0 b1 then bif inI b0 && inI a0 then some (.bool (dcmp a0 a1 b0 b1 == IntKind.i64.wrap (0 - dcmp b0 b1 a0 a1))) else none else some (.bool false) else none else none := by kernel_rfl
theorem comp_body {a0 a1 b0 b1 : Int} (ha : inI a0 = true) (hb : inI b0 = true) :
    (bif inI a0 && inI b0 then bif inI a0 && inI b0 then bif dcmp a0 a1 b0 b1 == dcmp a0 a1 b0 b1 then bif inI b0 && inI a0 then some (PV.bool (dcmp a0 a1 b0 b1 == IntKind.i64.wrap (0 - dcmp b0 b1 a0 a1))) else none else some (.bool false) else none else none) = some (.bool true) := by
  have e : IntKind.i64.wrap (0 - dcmp b0 b1 a0 a1) = dcmp a0 a1 b0 b1 := by
    unfold dcmp
    rw [Bool.and_comm]
    cases scaleB a1 && scaleB b1
    · rfl
    · simp only [cond_true]
      rw [cmpI_swap (a0 * tenI b1) (b0 * tenI a1)]
      rcases cmpI_cases (a0 * tenI b1) (b0 * tenI a1) with ⟨k, e⟩ | ⟨k, e⟩ | ⟨k, e⟩ <;> rw [e] <;> decide
  rw [ha, hb, e]
  simp
theorem compLaw (W : World) (a0 a1 b0 b1 : Int) (ha : inI a0 = true) (hb : inI b0 = true) (hW : Wd W) :
    Calls Tryd.prog 9 #[.agg #[.int .i64 a0, .int .i64 a1], .agg #[.int .i64 b0, .int .i64 b1]] W fun e W' => e = .returned (.bool true) ∧ Below W.heap.size W W' :=
  law_run (vs := [.agg #[.int .i64 a0, .int .i64 a1], .agg #[.int .i64 b0, .int .i64 b1]]) (xs := [.agg [.int .i64 a0, .int .i64 a1], .agg [.int .i64 b0, .int .i64 b1]]) wokd ok_lLaw3 Tryd.func9 hW (wd_size hW)
    (by simp only [RelT, RelD]; exact ⟨_, _, rfl, ⟨[.int .i64 a0, .int .i64 a1], rfl, rel_pair _ _ _⟩, _, _, rfl, ⟨[.int .i64 b0, .int .i64 b1], rfl, rel_pair _ _ _⟩, rfl⟩) ((comp_raw a0 a1 b0 b1).trans (comp_body ha hb))
end Go.Proofs.YtdgoagnbpbehnaaDoor
