/-
  Decimal: from what a law's function computes to what a call of it does; the first check; sums, differences, remainders.
-/
import Derived.Test.YtelckbphbkebkaaGreatDoorFirst
set_option linter.unusedVariables false
set_option linter.unusedSimpArgs false
namespace Go.Proofs.YtelckbphbkebkaaGreatDoor
open Go.RowKit

theorem law_run {NG : Nat} {W : World → Prop} (hW : WOK NG W) {l : List (FuncId × PFn)} (hl : AllOK NG W l) {f : FuncId} {fn : Func} (hf : Tryz.prog.funcs[f]? = some fn) {h : Hints} {fuel : Nat} {w : World} {xs : List PV} {vs : List Value}
    (hw : W w) (hng : NG ≤ w.heap.size) (hr : RelT ⟨w, fun _ => 0, ⟨0, fun _ _ => none⟩⟩ xs vs) (hrun : prun (en l) h fuel false fn xs = some (.bool true)) :
    Calls Tryz.prog f vs.toArray w fun e w' => e = .returned (.bool true) ∧ Below w.heap.size w w' := by
  refine (run_ok (env_ok hW hl) rfl hf (M := ⟨w, fun _ => 0, ⟨0, fun _ _ => none⟩⟩) hw hng (fun g cs hg => by cases hg) hr hrun).mono ?_
  rintro e w' ⟨v, rfl, U', hm, hv, _⟩
  simp only [RelD] at hv
  subst hv
  exact ⟨rfl, hm.os, hm.tape, hm.output, hm.size, fun b hb => (hm.block b hb (by simp)).1⟩

/-- a function that is known at one list of arguments -/
theorem fok_at {NG : Nat} {W : World → Prop} {f : FuncId} {p q : PFn} (hp : FOK NG W f p) (hn : q.nat) (ho : q.own = false) (h : ∀ xs r, q.F xs (R := PV) some = some r → p.F xs (R := PV) some = some r) : FOK NG W f q where
  nat := hn
  call := by
    intro M xs vs r hW hng hg hr hF
    have k := hp.call M xs vs r hW hng hg hr (h xs r hF)
    refine k.imp ?_ ?_
    · rintro ⟨v, w', h1, U', h2, h3, _⟩
      exact ⟨v, w', h1, U', h2, h3, fun e => by rw [ho] at e; cases e⟩
    · rintro ⟨h0, h1⟩
      refine ⟨h0, h1.mono ?_⟩
      rintro e w' ⟨v, h2, U', h3, h4, _⟩
      exact ⟨v, h2, U', h3, h4, fun e => by rw [ho] at e; cases e⟩
def p_first : PFn := ⟨fun xs k => match xs with | [] => k (.bool true) | _ => none, false⟩
/-! ## sums, differences, remainders -/
def inI (x : Int) : Bool := decide (-9223372036854775808 ≤ x) && decide (x ≤ 9223372036854775807)
theorem inI_iff {x : Int} : inI x = true ↔ -9223372036854775808 ≤ x ∧ x ≤ 9223372036854775807 := by
  simp only [inI, Bool.and_eq_true, decide_eq_true_eq]
def subBody (a b : Int) : Option PV :=
  bif decide (b < 0) && decide (IntKind.i64.wrap (9223372036854775807 + b) < a) || decide (0 < b) && decide (a < IntKind.i64.wrap (-9223372036854775808 + b)) then some (.tuple [.int .i64 0, .int .i64 20])
  else some (.tuple [.int .i64 (IntKind.i64.wrap (a - b)), .int .i64 0])
theorem sub_raw (l : List (FuncId × PFn)) (a b : Int) (fuel : Nat) : prun (en l) ⟨[], []⟩ fuel false Tryz.f59 [.int .i64 a, .int .i64 b] = subBody a b := by kernel_rfl
def addBody (a b : Int) : Option PV :=
  bif decide (0 < b) && decide (IntKind.i64.wrap (9223372036854775807 - b) < a) || decide (b < 0) && decide (a < IntKind.i64.wrap (-9223372036854775808 - b)) then some (.tuple [.int .i64 0, .int .i64 20])
  else some (.tuple [.int .i64 (IntKind.i64.wrap (a + b)), .int .i64 0])
theorem add_raw (l : List (FuncId × PFn)) (a b : Int) (fuel : Nat) : prun (en l) ⟨[], []⟩ fuel false Tryz.f119 [.int .i64 a, .int .i64 b] = addBody a b := by kernel_rfl
def modBody (a b : Int) : Option PV :=
  bif b == 0 then some (.tuple [.int .i64 0, .int .i64 21])
  else bif b == -1 then some (.tuple [.int .i64 0, .int .i64 0])
  else bif b == 0 then none else some (.tuple [.int .i64 (a.tmod b), .int .i64 0])
theorem mod_raw (l : List (FuncId × PFn)) (a b : Int) (fuel : Nat) : prun (en l) ⟨[], []⟩ fuel false Tryz.f122 [.int .i64 a, .int .i64 b] = modBody a b := by kernel_rfl
theorem ansI_fine {n : Int} (h : -9223372036854775808 ≤ n ∧ n ≤ 9223372036854775807) : ansI n = .tuple [.int .i64 n, .int .i64 0] := by
  have e : over64 n = false := by unfold over64; rw [decide_eq_false (by omega), decide_eq_false (by omega)]; rfl
  unfold ansI ansV ansE; rw [e]; rfl
theorem ansI_over {n : Int} (h : ¬ (-9223372036854775808 ≤ n ∧ n ≤ 9223372036854775807)) : ansI n = .tuple [.int .i64 0, .int .i64 20] := by
  have e : over64 n = true := by unfold over64; simp only [Bool.or_eq_true, decide_eq_true_eq]; omega
  unfold ansI ansV ansE; rw [e]; rfl
theorem sub_body {a b : Int} (ha : -9223372036854775808 ≤ a ∧ a ≤ 9223372036854775807) (hb : -9223372036854775808 ≤ b ∧ b ≤ 9223372036854775807) : subBody a b = some (ansI (a - b)) := by
  unfold subBody
  rw [IntKind.wrap_i64 (9223372036854775807 + b), IntKind.wrap_i64 (-9223372036854775808 + b)]
  by_cases h : -9223372036854775808 ≤ a - b ∧ a - b ≤ 9223372036854775807
  · rw [ansI_fine h, cond_f (by simp only [Bool.or_eq_false_iff, Bool.and_eq_false_iff, decide_eq_false_iff_not]; omega), wrapI_of h.1 h.2]
  · rw [ansI_over h, cond_t (by simp only [Bool.or_eq_true, Bool.and_eq_true, decide_eq_true_eq]; omega)]
theorem add_body {a b : Int} (ha : -9223372036854775808 ≤ a ∧ a ≤ 9223372036854775807) (hb : -9223372036854775808 ≤ b ∧ b ≤ 9223372036854775807) : addBody a b = some (ansI (a + b)) := by
  unfold addBody
  rw [IntKind.wrap_i64 (9223372036854775807 - b), IntKind.wrap_i64 (-9223372036854775808 - b)]
  by_cases h : -9223372036854775808 ≤ a + b ∧ a + b ≤ 9223372036854775807
  · rw [ansI_fine h, cond_f (by simp only [Bool.or_eq_false_iff, Bool.and_eq_false_iff, decide_eq_false_iff_not]; omega), wrapI_of h.1 h.2]
  · rw [ansI_over h, cond_t (by simp only [Bool.or_eq_true, Bool.and_eq_true, decide_eq_true_eq]; omega)]
def modV (a b : Int) : Int := bif b == 0 then 0 else bif b == -1 then 0 else a.tmod b
def modE (b : Int) : Int := bif b == 0 then 21 else 0
theorem mod_body (a b : Int) : modBody a b = some (.tuple [.int .i64 (modV a b), .int .i64 (modE b)]) := by
  unfold modBody modV modE
  cases b == 0 <;> cases b == -1 <;> rfl
def p_Sub : PFn := ⟨fun xs k => match xs with | [.int .i64 a, .int .i64 b] => bif inI a && inI b then k (ansI (a - b)) else none | _ => none, false⟩
def p_Add : PFn := ⟨fun xs k => match xs with | [.int .i64 a, .int .i64 b] => bif inI a && inI b then k (ansI (a + b)) else none | _ => none, false⟩
def p_Mod : PFn := ⟨fun xs k => match xs with | [.int .i64 a, .int .i64 b] => k (.tuple [.int .i64 (modV a b), .int .i64 (modE b)]) | _ => none, false⟩
theorem ok_Sub : FOK NGd Wd 59 p_Sub := by
  refine fok wokd allOK_nil (h := ⟨[], []⟩) Tryz.func59 rfl (by decide) ?_ ?_
  · intro R xs k
    simp only [p_Sub]
    split
    · exact cond_nat
    · rfl
  · intro xs r h
    simp only [p_Sub] at h
    split at h
    · rename_i a b
      rcases hb : (inI a && inI b) with _ | _ <;> rw [hb] at h
      · cases h
      · simp only [Bool.and_eq_true, inI_iff] at hb
        exact ⟨0, (sub_raw [] a b 0).trans ((sub_body hb.1 hb.2).trans h)⟩
    · cases h
theorem ok_Add : FOK NGd Wd 119 p_Add := by
  refine fok wokd allOK_nil (h := ⟨[], []⟩) Tryz.func119 rfl (by decide) ?_ ?_
  · intro R xs k
    simp only [p_Add]
    split
    · exact cond_nat
    · rfl
  · intro xs r h
    simp only [p_Add] at h
    split at h
    · rename_i a b
      rcases hb : (inI a && inI b) with _ | _ <;> rw [hb] at h
      · cases h
      · simp only [Bool.and_eq_true, inI_iff] at hb
        exact ⟨0, (add_raw [] a b 0).trans ((add_body hb.1 hb.2).trans h)⟩
    · cases h
theorem ok_Mod : FOK NGd Wd 122 p_Mod := by
  refine fok wokd allOK_nil (h := ⟨[], []⟩) Tryz.func122 rfl (by decide) ?_ ?_
  · intro R xs k
    simp only [p_Mod]
    split <;> rfl
  · intro xs r h
    simp only [p_Mod] at h
    split at h
    · rename_i a b
      exact ⟨0, (mod_raw [] a b 0).trans ((mod_body a b).trans h)⟩
    · cases h

end Go.Proofs.YtelckbphbkebkaaGreatDoor
