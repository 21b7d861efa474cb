/-
  Decimal: the document's answer: Int, answer, Sum, Diff, Compare; the laws DecimalSums and DecimalCompares.
-/
import Derived.Test.YtdgoagnbpbehnaaDoorDs
set_option linter.unusedVariables false
set_option linter.unusedSimpArgs false
namespace Go.Proofs.YtdgoagnbpbehnaaDoor
open Go.RowKit

/-! ## Int -/
/-- what Plus and Cmp yield of cells -/
def plusO {R : Type} (l0 : Nat) (c0 : List PV) (l1 : Nat) (c1 : List PV) (k : Nat → Option R) : Option R := (decN l0 c0).bind fun A => (decN l1 c1).bind fun B => bif decide (dlen A ≤ 500) && decide (dlen B ≤ 500) then k (A + B) else none
def cmpO {R : Type} (l0 : Nat) (c0 : List PV) (l1 : Nat) (c1 : List PV) (k : Int → Option R) : Option R := (decN l0 c0).bind fun A => (decN l1 c1).bind fun B => bif decide (dlen A ≤ 500) && decide (dlen B ≤ 500) then k (cmpI A B) else none
theorem plusO_eq {R : Type} {A B : Nat} {k : Nat → Option R} (hA : dlen A ≤ 500) (hB : dlen B ≤ 500) : plusO (dlen A) (cellsN A) (dlen B) (cellsN B) k = k (A + B) := by
  unfold plusO
  rw [decN_big, decN_big]
  exact cond_t (by rw [decide_eq_true hA, decide_eq_true hB]; rfl)
theorem cmpO_eq {R : Type} {A B : Nat} {k : Int → Option R} (hA : dlen A ≤ 500) (hB : dlen B ≤ 500) : cmpO (dlen A) (cellsN A) (dlen B) (cellsN B) k = k (cmpI A B) := by
  unfold cmpO
  rw [decN_big, decN_big]
  exact cond_t (by rw [decide_eq_true hA, decide_eq_true hB]; rfl)
theorem one_cells : (dlen 1, cellsN 1) = (1, [PV.int .i64 1]) := rfl
noncomputable def lInt : List (FuncId × PFn) := [(48, p_Of), (51, p_Plus), (55, p_Cmp)]
theorem ok_lInt : AllOK NGd Wd lInt := allOK_cons ok_Of (allOK_cons ok_Plus (allOK_cons ok_Cmp allOK_nil))
def hInt : Hints := ⟨[], [(0, ⟨[(0, false), (1, false), (7, false), (8, false)], []⟩)]⟩
def frInt (n0 : Option Bool) (l0 : Nat) (c0 : List PV) (m : Bool) (x i : Int) : St := frame 41 [(0, (.sl n0 1 l0 c0, 0)), (1, (.bool m, 0)), (7, (.int .i64 x, 0)), (8, (.int .i64 i, 0))] []
noncomputable def intLoop (fu n : Nat) (st : St) : Option PV := loopF (en lInt) hInt fu false Tryd.f36 [1, 1, 1, 1, 1, 0, 1, 0] 0 n st
def maxN : Nat := (9223372036854775807 : Int).natAbs
def intTop (l0 : Nat) (c0 : List PV) (m : Bool) (L : Option PV) : Option PV :=
  bif m then plusO (dlen maxN) (cellsN maxN) 1 [.int .i64 1] fun Y => cmpO l0 c0 (dlen Y) (cellsN Y) fun z => bif decide (0 < z) then some (.tuple [.int .i64 0, .bool false]) else L
  else cmpO l0 c0 (dlen maxN) (cellsN maxN) fun z => bif decide (0 < z) then some (.tuple [.int .i64 0, .bool false]) else L
theorem int_raw (fu : Nat) (n0 : Option Bool) (l0 : Nat) (c0 : List PV) (m : Bool) : prun (en lInt) hInt fu false Tryd.f36 [.sl n0 1 l0 c0, .bool m] =
    intTop l0 c0 m (intLoop fu fu (frInt n0 l0 c0 m 0 (IntKind.i64.wrap ((l0 : Int) - 1)))) := by kernel_rfl
def intBody (l0 : Nat) (c0 : List PV) (m : Bool) (x i : Int) (G : Int → Int → Option PV) : Option PV :=
  bif decide (0 ≤ i) then
    bif m then ixI l0 c0 i fun v => G (IntKind.i64.wrap (IntKind.i64.wrap (10 * x) - v)) (IntKind.i64.wrap (i - 1))
    else ixI l0 c0 i fun v => G (IntKind.i64.wrap (IntKind.i64.wrap (10 * x) + v)) (IntKind.i64.wrap (i - 1))
  else some (.tuple [.int .i64 x, .bool true])
theorem int_step (fu : Nat) (n0 : Option Bool) (l0 : Nat) (c0 : List PV) (m : Bool) (x i : Int) (K : St → Option PV) :
    stepF (en lInt) hInt fu false Tryd.f36 [1, 1, 1, 1, 1, 0, 1, 0] (frInt n0 l0 c0 m x i) (fun st => pnorm (hInt.loop.lookup 0) st K) = intBody l0 c0 m x i (fun y j => K (frInt n0 l0 c0 m y j)) := by kernel_rfl
theorem int_loop (fu : Nat) (X : Nat) (n0 : Option Bool) (m : Bool) (hX : over64 (sgn X m) = false) : ∀ (k n : Nat), k ≤ dlen X → k < n → k ≤ 900 →
    intLoop fu n (frInt n0 (dlen X) (cellsN X) m (sgn ((X / 10 ^ k : Nat) : Int) m) ((k : Int) - 1)) = some (.tuple [.int .i64 (sgn X m), .bool true])
  | k, 0, _, h, _ => by omega
  | 0, n + 1, _, _, _ => by
    unfold intLoop
    rw [loopF_succ, int_step, intBody, cond_f (by decide)]
    simp
  | k + 1, n + 1, hk, hn, hb => by
    unfold intLoop
    have e : ((k + 1 : Nat) : Int) - 1 = (k : Int) := by omega
    rw [loopF_succ, int_step, intBody, e, cond_t (decide_eq_true (by omega)), ixI_dgs (by omega) (by omega), ixI_dgs (by omega) (by omega), Int.toNat_natCast, wrapI_of (x := (k : Int) - 1) (by omega) (by omega)]
    have ih := int_loop fu X n0 m hX k n (by omega) (by omega) (by omega)
    unfold intLoop at ih
    have hle : X / 10 ^ k ≤ X := Nat.div_le_self _ _
    have hd := div_div10 X k
    unfold over64 at hX
    simp only [Bool.or_eq_false_iff, decide_eq_false_iff_not] at hX
    rw [hd, ← ih]
    generalize X / 10 ^ k = q at *
    cases m
    · simp only [cond_false, sgn] at hX ⊢
      rw [wrapI_of (x := 10 * _) (by omega) (by omega), wrapI_of (by omega) (by omega), show 10 * ((q / 10 : Nat) : Int) + ((q % 10 : Nat) : Int) = (q : Int) by omega]
    · simp only [cond_true, sgn] at hX ⊢
      rw [wrapI_of (x := 10 * _) (by omega) (by omega), wrapI_of (by omega) (by omega), show 10 * -((q / 10 : Nat) : Int) - ((q % 10 : Nat) : Int) = -(q : Int) by omega]
def p_Int : PFn := ⟨fun xs k => match xs with | [.sl _ 1 l0 c0, .bool m] => (decN l0 c0).bind fun X => bif decide (dlen X ≤ 500) then k (.tuple [.int .i64 (ansV (sgn X m)), .bool (!over64 (sgn X m))]) else none | _ => none, false⟩
theorem bind1_nat {R : Type} {a : Option Nat} {g : Nat → Bool} {v : Nat → PV} {k : PV → Option R} :
    (a.bind fun A => bif g A then k (v A) else none) = (a.bind fun A => bif g A then some (v A) else none).bind k := by
  cases a with
  | none => rfl
  | some a => exact cond_nat
theorem bind1_inv {a : Option Nat} {g : Nat → Bool} {v : Nat → PV} {r : PV} (h : (a.bind fun A => bif g A then some (v A) else none) = some r) : ∃ A, a = some A ∧ g A = true ∧ r = v A := by
  obtain ⟨A, h1, h⟩ := Option.bind_eq_some_iff.1 h
  cases hg : g A <;> rw [hg] at h
  · cases h
  · injection h with h
    exact ⟨A, h1, hg, h.symm⟩
theorem maxN_eq : maxN = 9223372036854775807 := rfl
theorem ok_Int : FOK NGd Wd 36 p_Int := by
  refine fok wokd ok_lInt (h := hInt) Tryd.func36 rfl (by decide) ?_ ?_
  · intro R xs k
    simp only [p_Int]
    split
    · exact bind1_nat
    · rfl
  · intro xs r h
    simp only [p_Int] at h
    split at h
    · rename_i n0 l0 c0 m
      obtain ⟨X, h1, hg, rfl⟩ := bind1_inv h
      obtain ⟨rfl, rfl⟩ := decN_inv h1
      simp only [decide_eq_true_eq] at hg
      refine ⟨1000, (int_raw 1000 n0 _ _ m).trans ?_⟩
      have hm : dlen maxN ≤ 500 := by decide
      have hm1 : dlen (maxN + 1) ≤ 500 := by decide
      have key : ∀ (Y : Nat), dlen Y ≤ 500 → (over64 (sgn X m) = decide ((Y : Int) < X)) →
          (bif decide (0 < cmpI X Y) then some (PV.tuple [.int .i64 0, .bool false]) else intLoop 1000 1000 (frInt n0 (dlen X) (cellsN X) m 0 (IntKind.i64.wrap ((dlen X : Int) - 1)))) = some (.tuple [.int .i64 (ansV (sgn X m)), .bool (!over64 (sgn X m))]) := by
        intro Y hY ho
        by_cases hc : (Y : Int) < X
        · rw [cmpI_gt hc, cond_t (by decide)]
          unfold ansV
          rw [ho, decide_eq_true hc]; rfl
        · rw [decide_eq_false hc] at ho
          have hz : X / 10 ^ dlen X = 0 := div0.2 (Nat.le_refl _)
          have := int_loop 1000 X n0 m ho (dlen X) 1000 (Nat.le_refl _) (by omega) (by omega)
          rw [hz, show sgn ((0 : Nat) : Int) m = 0 by cases m <;> rfl] at this
          have hcc : ¬ 0 < cmpI X Y := by
            rcases cmpI_cases X Y with ⟨k, e⟩ | ⟨k, e⟩ | ⟨k, e⟩ <;> omega
          rw [cond_f (decide_eq_false hcc), wrapI_of (by omega) (by omega), this]
          unfold ansV
          rw [ho]; rfl
      unfold intTop
      cases m
      · rw [cond_false, cmpO_eq hg hm]
        refine key maxN hm ?_
        rw [maxN_eq]
        unfold over64 sgn
        simp only [cond_false]
        rw [decide_eq_false (show ¬ (X : Int) < -9223372036854775808 by omega)]
        rfl
      · have e1 := one_cells
        injection e1 with e1 e2
        rw [cond_true, ← e1, ← e2, plusO_eq hm (by decide), cmpO_eq hg hm1]
        refine key (maxN + 1) hm1 ?_
        rw [maxN_eq]
        unfold over64 sgn
        simp only [cond_true]
        rw [decide_eq_false (show ¬ 9223372036854775807 < -(X : Int) by omega), Bool.or_false]
        congr 1
        simp only [eq_iff_iff]
        omega
    · cases h

/-! ## answer -/
def p_answer : PFn := ⟨fun xs k => match xs with | [.sl _ 1 l0 c0, .bool m] => (decN l0 c0).bind fun X => bif decide (dlen X ≤ 500) then k (ansI (sgn X m)) else none | _ => none, false⟩
theorem answer_raw (n0 : Option Bool) (l0 : Nat) (c0 : List PV) (m : Bool) : prun (en [(36, p_Int)]) ⟨[], []⟩ 0 false Tryd.f46 [.sl n0 1 l0 c0, .bool m] =
    (decN l0 c0).bind fun X => bif decide (dlen X ≤ 500) then (bif !(!over64 (sgn X m)) then some (.tuple [.int .i64 0, .int .i64 20]) else some (.tuple [.int .i64 (ansV (sgn X m)), .int .i64 0])) else none := by kernel_rfl
theorem ok_answer : FOK NGd Wd 46 p_answer := by
  refine fok wokd (allOK_cons ok_Int allOK_nil) (h := ⟨[], []⟩) Tryd.func46 rfl (by decide) ?_ ?_
  · intro R xs k
    simp only [p_answer]
    split
    · exact bind1_nat
    · rfl
  · intro xs r h
    simp only [p_answer] at h
    split at h
    · rename_i n0 l0 c0 m
      obtain ⟨X, h1, hg, rfl⟩ := bind1_inv h
      refine ⟨0, (answer_raw n0 _ _ m).trans ?_⟩
      rw [h1]
      simp only [Option.bind_some]
      rw [hg]
      unfold ansI ansV ansE
      cases over64 (sgn X m) <;> rfl
    · cases h

/-! ## Sum, Diff -/
/-- what answer yields of cells -/
def ansO (l0 : Nat) (c0 : List PV) (m : Bool) : Option PV := (decN l0 c0).bind fun X => bif decide (dlen X ≤ 500) then some (.tuple [.int .i64 (ansV (sgn X m)), .int .i64 (ansE (sgn X m))]) else none
theorem ansO_eq {X : Nat} {m : Bool} (h : dlen X ≤ 500) : ansO (dlen X) (cellsN X) m = some (ansI (sgn X m)) := by
  unfold ansO
  rw [decN_big]
  exact cond_t (decide_eq_true h)
theorem dlen_small {n : Nat} (h : n < 10 ^ 20) : dlen n ≤ 20 := (dlen_le _ _).2 h
theorem dlen_abs {n : Int} (h : inI n = true) : dlen n.natAbs ≤ 20 := dlen_small (by rw [inI_iff] at h; omega)
noncomputable def lSum : List (FuncId × PFn) := [(48, p_Of), (51, p_Plus), (46, p_answer)]
theorem ok_lSum : AllOK NGd Wd lSum := allOK_cons ok_Of (allOK_cons ok_Plus (allOK_cons ok_answer allOK_nil))
def sumA (a b : Int) : Option PV := bif inI a then bif inI b then plusO (dlen a.natAbs) (cellsN a.natAbs) (dlen b.natAbs) (cellsN b.natAbs) fun Z => ansO (dlen Z) (cellsN Z) (decide (a < 0)) else none else none
theorem sumA_eq {a b : Int} (ha : inI a = true) (hb : inI b = true) : sumA a b = some (ansI (sgn ((a.natAbs + b.natAbs : Nat) : Int) (decide (a < 0)))) := by
  unfold sumA
  have h1 := dlen_abs ha
  have h2 := dlen_abs hb
  have h3 := dlen_add h1 h2
  rw [ha, hb, cond_true, cond_true, plusO_eq (by omega) (by omega), ansO_eq (by omega)]
theorem rsum_raw (a b : Int) : prun (en lSum) ⟨[], []⟩ 0 false Tryd.f26 [.int .i64 a, .int .i64 b] =
    bif decide (a < 0) == decide (b < 0) then sumA a b else some (.tuple [.int .i64 (IntKind.i64.wrap (a + b)), .int .i64 0]) := by kernel_rfl
theorem rdiff_raw (a b : Int) : prun (en lSum) ⟨[], []⟩ 0 false Tryd.f28 [.int .i64 a, .int .i64 b] =
    bif !(decide (a < 0) == decide (b < 0)) then sumA a b else some (.tuple [.int .i64 (IntKind.i64.wrap (a - b)), .int .i64 0]) := by kernel_rfl
def p_RSum : PFn := ⟨fun xs k => match xs with | [.int .i64 a, .int .i64 b] => bif inI a && inI b then k (ansI (a + b)) else none | _ => none, false⟩
def p_RDiff : PFn := ⟨fun xs k => match xs with | [.int .i64 a, .int .i64 b] => bif inI a && inI b then k (ansI (a - b)) else none | _ => none, false⟩
theorem ok_RSum : FOK NGd Wd 26 p_RSum := by
  refine fok wokd ok_lSum (h := ⟨[], []⟩) Tryd.func26 rfl (by decide) ?_ ?_
  · intro R xs k
    simp only [p_RSum]
    split
    · exact cond_nat
    · rfl
  · intro xs r h
    simp only [p_RSum] at h
    split at h
    · rename_i a b
      rcases hb : (inI a && inI b) with _ | _ <;> rw [hb] at h
      · cases h
      · simp only [cond_true, Option.some.injEq] at h
        subst h
        simp only [Bool.and_eq_true] at hb
        refine ⟨0, (rsum_raw a b).trans ?_⟩
        rw [sumA_eq hb.1 hb.2]
        simp only [inI_iff] at hb
        by_cases h1 : a < 0 <;> by_cases h2 : b < 0 <;> simp only [h1, h2, decide_true, decide_false, beq_self_eq_true, cond_true, Bool.true_beq, Bool.false_beq, Bool.not_true, Bool.not_false, cond_false]
        · congr 2; unfold sgn; rw [cond_true]; omega
        · rw [ansI_fine (by omega), wrapI_of (by omega) (by omega)]
        · rw [ansI_fine (by omega), wrapI_of (by omega) (by omega)]
        · congr 2; unfold sgn; rw [cond_false]; omega
    · cases h
theorem ok_RDiff : FOK NGd Wd 28 p_RDiff := by
  refine fok wokd ok_lSum (h := ⟨[], []⟩) Tryd.func28 rfl (by decide) ?_ ?_
  · intro R xs k
    simp only [p_RDiff]
    split
    · exact cond_nat
    · rfl
  · intro xs r h
    simp only [p_RDiff] at h
    split at h
    · rename_i a b
      rcases hb : (inI a && inI b) with _ | _ <;> rw [hb] at h
      · cases h
      · simp only [cond_true, Option.some.injEq] at h
        subst h
        simp only [Bool.and_eq_true] at hb
        refine ⟨0, (rdiff_raw a b).trans ?_⟩
        rw [sumA_eq hb.1 hb.2]
        simp only [inI_iff] at hb
        by_cases h1 : a < 0 <;> by_cases h2 : b < 0 <;> simp only [h1, h2, decide_true, decide_false, beq_self_eq_true, cond_true, Bool.true_beq, Bool.false_beq, Bool.not_true, Bool.not_false, cond_false]
        · rw [ansI_fine (by omega), wrapI_of (by omega) (by omega)]
        · congr 2; unfold sgn; rw [cond_true]; omega
        · congr 2; unfold sgn; rw [cond_false]; omega
        · rw [ansI_fine (by omega), wrapI_of (by omega) (by omega)]
    · cases h
/-! ## the law DecimalSums -/
noncomputable def lLaw2 : List (FuncId × PFn) := (26, p_RSum) :: (28, p_RDiff) :: lLaw
theorem ok_lLaw2 : AllOK NGd Wd lLaw2 := allOK_cons ok_RSum (allOK_cons ok_RDiff ok_lLaw)
theorem sums_raw (a b : Int) : prun (en lLaw2) ⟨[], []⟩ 0 false Tryd.f8 [.int .i64 a, .int .i64 b] =
    bif inI a && inI b then bif inI a && inI b then bif inI a && inI b then bif inI a && inI b then
      some (.bool (ansV (a + b) == ansV (a + b) && ansE (a + b) == ansE (a + b) && ansV (a - b) == ansV (a - b) && ansE (a - b) == ansE (a - b))) else none else none else none else none := by kernel_rfl
theorem sumsLaw (W : World) (a b : Int) (ha : inI a = true) (hb : inI b = true) (hW : Wd W) :
    Calls Tryd.prog 8 #[.int .i64 a, .int .i64 b] W fun e W' => e = .returned (.bool true) ∧ Below W.heap.size W W' :=
  law_run (vs := [.int .i64 a, .int .i64 b]) (xs := [.int .i64 a, .int .i64 b]) wokd ok_lLaw2 Tryd.func8 hW (wd_size hW) (by simp only [RelT, RelD]; exact ⟨_, _, rfl, rfl, _, _, rfl, rfl, rfl⟩) ((sums_raw a b).trans (by rw [ha, hb]; simp))
end Go.Proofs.YtdgoagnbpbehnaaDoor
