/-
  Keys by the evaluator: the order of numbers and of texts.
-/
import Derived.Test.YtclhnfalebiieaaDoorKt
set_option linter.unusedVariables false
set_option linter.unusedSimpArgs false
namespace Go.Proofs.YtclhnfalebiieaaDoor
open Go.RowKit

def numI (a b : Int) : Int := bif decide (a < b) then -1 else bif decide (b < a) then 1 else 0
theorem numI_lt {a b : Int} (h : a < b) : numI a b = -1 := by unfold numI; rw [decide_eq_true h]; rfl
theorem numI_gt {a b : Int} (h : b < a) : numI a b = 1 := by unfold numI; rw [decide_eq_false (by omega), decide_eq_true h]; rfl
theorem numI_self (a : Int) : numI a a = 0 := by unfold numI; rw [decide_eq_false (by omega)]; rfl
theorem num_raw (l : List (FuncId × PFn)) (a b : Int) (fuel : Nat) : prun (en l) ⟨[], []⟩ fuel false Tryd.f39 [.int .i64 a, .int .i64 b] =
    bif decide (a < b) then some (.int .i64 (-1)) else bif decide (b < a) then some (.int .i64 1) else some (.int .i64 0) := by kernel_rfl
def p_numbers : PFn := ⟨fun xs k => match xs with | [.int .i64 a, .int .i64 b] => k (.int .i64 (numI a b)) | _ => none, false⟩
theorem ok_numbers : FOK NGk Tabs 39 p_numbers := by
  refine fok wokk allOK_nil (h := ⟨[], []⟩) Tryd.func39 rfl (by decide) ?_ ?_
  · intro R xs k
    simp only [p_numbers]
    split <;> rfl
  · intro xs r h
    simp only [p_numbers] at h
    split at h
    · rename_i a b
      refine ⟨0, (num_raw [] a b 0).trans ?_⟩
      rw [← h]
      unfold numI
      cases decide (a < b) <;> cases decide (b < a) <;> rfl
    · cases h
/-- how texts compare -/
def txtL : List UInt8 → List UInt8 → Int
  | [], [] => 0
  | [], _ :: _ => -1
  | _ :: _, [] => 1
  | a :: x, b :: y => bif a == b then txtL x y else numI (a.toNat : Int) (b.toNat : Int)
theorem txt_nil : ∀ (x : List UInt8), txtL x [] = numI (x.length : Int) 0
  | [] => rfl
  | c :: x => by rw [numI_gt (by simp only [List.length_cons]; omega)]; rfl
theorem nil_txt : ∀ (x : List UInt8), txtL [] x = numI 0 (x.length : Int)
  | [] => rfl
  | c :: x => by rw [numI_lt (by simp only [List.length_cons]; omega)]; rfl
def ixS {R : Type} (s : List UInt8) (i : Int) (K : UInt8 → Option R) : Option R := bif decide (0 ≤ i) && decide (i < (s.length : Int)) then s[i.toNat]?.bind K else none
theorem ixS_eq {R : Type} {s : List UInt8} {i : Nat} {c : UInt8} {K : UInt8 → Option R} (h : s[i]? = some c) : ixS s (i : Int) K = K c := by
  have := (List.getElem?_eq_some_iff.1 h).1
  unfold ixS
  rw [cond_t (by rw [decide_eq_true (by omega), decide_eq_true (by omega)]; rfl), Int.toNat_natCast, h]
  rfl
def hTx : Hints := ⟨[], [(0, ⟨[(0, false), (1, false), (5, false)], []⟩)]⟩
def frTx (x y : List UInt8) (i : Int) : St := frame 39 [(0, (.str x, 0)), (1, (.str y, 0)), (5, (.int .i64 i, 0))] []
noncomputable def lTx : List (FuncId × PFn) := [(39, p_numbers)]
noncomputable def txLoop (fu n : Nat) (st : St) : Option PV := loopF (en lTx) hTx fu false Tryd.f22 [1, 0, 1, 0] 0 n st
theorem tx_raw (fu : Nat) (x y : List UInt8) : prun (en lTx) hTx fu false Tryd.f22 [.str x, .str y] = txLoop fu fu (frTx x y 0) := by kernel_rfl
theorem tx_step (fu : Nat) (x y : List UInt8) (i : Int) (K : St → Option PV) : stepF (en lTx) hTx fu false Tryd.f22 [1, 0, 1, 0] (frTx x y i) (fun st => pnorm (hTx.loop.lookup 0) st K) =
    bif decide (i < (x.length : Int)) && decide (i < (y.length : Int)) then ixS x i fun a => ixS y i fun b => bif !((a.toNat : Int) == (b.toNat : Int)) then
        ixS x i fun a => ixS y i fun b => some (.int .i64 (numI (IntKind.i64.wrap (a.toNat : Int)) (IntKind.i64.wrap (b.toNat : Int)))) else K (frTx x y (IntKind.i64.wrap (i + 1)))
    else some (.int .i64 (numI (x.length : Int) (y.length : Int))) := by kernel_rfl
theorem tx_loop (fu : Nat) (x y : List UInt8) (hx : x.length ≤ 1000000) : ∀ (k i n : Nat), i + k = x.length → k < n → i ≤ y.length → txLoop fu n (frTx x y (i : Int)) = some (.int .i64 (txtL (x.drop i) (y.drop i)))
  | k, i, 0, _, h, _ => by omega
  | k, i, n + 1, hi, hn, hy => by
    unfold txLoop
    rw [loopF_succ, tx_step]
    by_cases h1 : i < x.length
    · by_cases h2 : i < y.length
      · have c1 := List.getElem?_eq_getElem h1
        have c2 := List.getElem?_eq_getElem h2
        rw [cond_t (by rw [decide_eq_true (by omega), decide_eq_true (by omega)]; rfl), ixS_eq c1, ixS_eq c2, ixS_eq c1, ixS_eq c2, List.drop_eq_getElem_cons h1, List.drop_eq_getElem_cons h2, txtL]
        have b1 := x[i].toNat_lt
        have b2 := y[i].toNat_lt
        have e : ((x[i].toNat : Int) == (y[i].toNat : Int)) = (x[i] == y[i]) := by
          rw [Bool.eq_iff_iff]
          simp only [beq_iff_eq]
          constructor
          · intro e; apply UInt8.toNat_inj.1; omega
          · intro e; rw [e]
        rw [e, wrapI_of (x := (x[i].toNat : Int)) (by omega) (by omega), wrapI_of (x := (y[i].toNat : Int)) (by omega) (by omega), wrapI_of (by omega) (by omega)]
        cases x[i] == y[i]
        · rfl
        · simp only [Bool.not_true, cond_false, cond_true]
          have ih := tx_loop fu x y hx (k - 1) (i + 1) n (by omega) (by omega) (by omega)
          unfold txLoop at ih
          exact ih
      · have hyl : y.length = i := by omega
        rw [cond_f (by rw [decide_eq_false (show ¬ (i : Int) < (y.length : Int) by omega), Bool.and_false]), show y.drop i = [] from List.drop_of_length_le (by omega), txt_nil, List.length_drop, numI_gt (by omega), numI_gt (by omega)]
    · rw [cond_f (by rw [decide_eq_false (show ¬ (i : Int) < (x.length : Int) by omega), Bool.false_and]), show x.drop i = [] from List.drop_of_length_le (by omega), nil_txt, List.length_drop]
      by_cases h2 : i < y.length
      · rw [numI_lt (by omega), numI_lt (by omega)]
      · rw [show y.length = x.length by omega, show x.length - i = 0 by omega, numI_self]; rfl
def p_Texts : PFn := ⟨fun xs k => match xs with | [.str x, .str y] => bif decide (x.length ≤ 1000000) then k (.int .i64 (txtL x y)) else none | _ => none, false⟩
theorem ok_Texts : FOK NGk Tabs 22 p_Texts := by
  refine fok wokk (allOK_cons ok_numbers allOK_nil) (h := hTx) Tryd.func22 rfl (by decide) ?_ ?_
  · intro R xs k
    simp only [p_Texts]
    split
    · exact cond_nat
    · rfl
  · intro xs r h
    simp only [p_Texts] at h
    split at h
    · rename_i x y
      rcases hb : decide (x.length ≤ 1000000) with _ | _ <;> rw [hb] at h
      · cases h
      · simp only [cond_true, Option.some.injEq] at h
        subst h
        simp only [decide_eq_true_eq] at hb
        exact ⟨x.length + 1, (tx_raw _ x y).trans (tx_loop _ x y hb x.length 0 _ (by omega) (by omega) (by omega))⟩
    · cases h
end Go.Proofs.YtclhnfalebiieaaDoor
