/-
  Decimal: the law DecimalRests.
-/
import Derived.Test.YtdgoagnbpbehnaaDoorDl
set_option linter.unusedVariables false
set_option linter.unusedSimpArgs false
namespace Go.Proofs.YtdgoagnbpbehnaaDoor
open Go.RowKit

noncomputable def lRests : List (FuncId × PFn) := [(12, p_first), (31, p_Mod), (27, p_Sub)]
theorem ok_lRests : AllOK NGd Wd lRests := allOK_cons ok_first (allOK_cons ok_Mod (allOK_cons ok_Sub allOK_nil))
def restBody (a b : Int) : Option PV :=
  bif b == 0 then some (.bool (modE b == 21 && modV a b == 0)) else
  bif !(modE b == 0) || decide (modV a b < 0) && decide (0 ≤ a) || decide (0 < modV a b) && decide (a < 0) then some (.bool false) else
  bif decide (0 < b) && (decide (b ≤ modV a b) || decide (modV a b ≤ IntKind.i64.wrap (0 - b))) || decide (b < 0) && (decide (0 ≤ modV a b) && decide (IntKind.i64.wrap (0 - modV a b) ≤ b) || decide (modV a b < 0) && decide (modV a b ≤ b)) then some (.bool false) else
  bif inI a && inI (modV a b) then some (.bool (ansE (a - modV a b) == 0 && modE b == 0 && modV (ansV (a - modV a b)) b == 0)) else none
theorem rest_raw (a b : Int) : prun (en lRests) ⟨[], []⟩ 0 false Tryd.f11 [.int .i64 a, .int .i64 b] = restBody a b := by kernel_rfl
theorem tmod_facts {a b : Int} (hb : b ≠ 0) : (0 ≤ a → 0 ≤ a.tmod b) ∧ (a ≤ 0 → a.tmod b ≤ 0) ∧ (a.tmod b).natAbs < b.natAbs ∧ (a - a.tmod b).tmod b = 0 ∧ (a.tmod b).natAbs ≤ a.natAbs := by
  refine ⟨fun h => Int.tmod_nonneg b h, fun h => ?_, ?_, ?_, ?_⟩
  · have := Int.tmod_nonneg b (show 0 ≤ -a by omega)
    rw [Int.neg_tmod] at this
    omega
  · rw [Int.natAbs_tmod]
    exact Nat.mod_lt _ (by omega)
  · have := Int.mul_tdiv_add_tmod a b
    rw [show a - a.tmod b = b * a.tdiv b by omega, Int.mul_tmod_right]
  · rw [Int.natAbs_tmod]
    exact Nat.mod_le _ _
theorem rest_body {a b : Int} (ha : -9223372036854775808 ≤ a ∧ a ≤ 9223372036854775807) (hb : -9223372036854775808 ≤ b ∧ b ≤ 9223372036854775807) : restBody a b = some (.bool true) := by
  unfold restBody
  by_cases h0 : b = 0
  · subst h0; rfl
  · have e0 : (b == 0) = false := by simpa using h0
    have ee : modE b = 0 := by unfold modE; rw [e0]; rfl
    obtain ⟨f1, f2, f3, f4, f5⟩ := tmod_facts (a := a) h0
    have er : modV a b = a.tmod b := by
      unfold modV
      rw [e0, cond_false]
      by_cases h1 : b = -1
      · subst h1
        rw [cond_t (by rfl)]
        omega
      · rw [cond_f (by simpa using h1)]
    have er2 : ∀ y, y.tmod b = 0 → modV y b = 0 := by
      intro y hy
      unfold modV
      rw [e0, cond_false]
      by_cases h1 : b = -1
      · subst h1; rfl
      · rw [cond_f (by simpa using h1), hy]
    rw [er, ee, e0]
    generalize a.tmod b = r at *
    have ans : ansV (a - r) = a - r ∧ ansE (a - r) = 0 := by
      have e : over64 (a - r) = false := by unfold over64; rw [decide_eq_false (by omega), decide_eq_false (by omega)]; rfl
      unfold ansV ansE; rw [e]; exact ⟨rfl, rfl⟩
    have g : (inI a && inI r) = true := by simp only [Bool.and_eq_true, inI_iff]; omega
    have w1 : IntKind.i64.wrap (0 - r) = 0 - r := wrapI_of (by omega) (by omega)
    rw [cond_false, cond_f (by simp only [Bool.or_eq_false_iff, Bool.and_eq_false_iff, decide_eq_false_iff_not]; exact ⟨⟨rfl, by omega⟩, by omega⟩), cond_f, g, cond_true, ans.1, ans.2, er2 _ f4]
    · rfl
    · rw [w1]
      simp only [Bool.or_eq_false_iff, Bool.and_eq_false_iff, decide_eq_false_iff_not]
      refine ⟨?_, ?_⟩
      · by_cases c : 0 < b
        · right; rw [wrapI_of (by omega) (by omega)]; omega
        · exact .inl c
      · omega

theorem restLaw (W : World) (a b : Int) (ha : -9223372036854775808 ≤ a ∧ a ≤ 9223372036854775807) (hb : -9223372036854775808 ≤ b ∧ b ≤ 9223372036854775807) (hW : Wd W) :
    Calls Tryd.prog 11 #[.int .i64 a, .int .i64 b] W fun e W' => e = .returned (.bool true) ∧ Below W.heap.size W W' :=
  law_run (vs := [.int .i64 a, .int .i64 b]) (xs := [.int .i64 a, .int .i64 b]) wokd ok_lRests Tryd.func11 hW (wd_size hW) (by simp only [RelT, RelD]; exact ⟨_, _, rfl, rfl, _, _, rfl, rfl, rfl⟩) ((rest_raw a b).trans (rest_body ha hb))
end Go.Proofs.YtdgoagnbpbehnaaDoor
