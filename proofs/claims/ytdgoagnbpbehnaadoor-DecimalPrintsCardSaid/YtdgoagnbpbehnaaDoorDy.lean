/-
  Decimal: the document's answer: Times, Round.
-/
import Derived.Test.YtdgoagnbpbehnaaDoorDv
set_option linter.unusedVariables false
set_option linter.unusedSimpArgs false
namespace Go.Proofs.YtdgoagnbpbehnaaDoor
open Go.RowKit

/-! ## loops in loops -/
def stepI (e : Env) (h : Hints) (fuel : Nat) (own : Bool) (fn : Func) (path : List Nat) (KL : St → Option PV) (st : St) (k : St → Option PV) : Option PV :=
  stepAt e h fuel (pfin e own fn) path (fn.body.getD .skip) 0 (pfin e own fn) [] KL st k
def loopI (e : Env) (h : Hints) (fuel : Nat) (own : Bool) (fn : Func) (path : List Nat) (cur : Nat) (KL : St → Option PV) (n : Nat) (st : St) : Option PV :=
  ploop (h.loop.lookup cur) (stepI e h fuel own fn path KL) n st
theorem loopI_succ {e : Env} {h : Hints} {fuel : Nat} {own : Bool} {fn : Func} {path : List Nat} {cur n : Nat} {KL : St → Option PV} {st : St} :
    loopI e h fuel own fn path cur KL (n + 1) st = stepI e h fuel own fn path KL st (fun st' => pnorm (h.loop.lookup cur) st' (loopI e h fuel own fn path cur KL n)) := rfl

/-! ## Times -/
def hTimes : Hints := ⟨[], [(2, ⟨[(1, false), (5, false), (6, false), (7, false), (8, false), (9, false), (10, false), (11, false)], []⟩), (0, ⟨[(1, false), (5, false), (9, false), (10, false), (11, false)], []⟩)]⟩
noncomputable def lTimes : List (FuncId × PFn) := [(47, p_Shift), (51, p_Plus)]
theorem ok_lTimes : AllOK NGd Wd lTimes := allOK_cons ok_Shift (allOK_cons ok_Plus allOK_nil)
def fr1 (n1 : Option Bool) (l1 : Nat) (c1 : List PV) (n5 : Option Bool) (l5 : Nat) (c5 : List PV) (n9 : Option Bool) (l9 : Nat) (c9 : List PV) (L i : Int) : St :=
  frame 28 [(1, (.sl n1 1 l1 c1, 0)), (5, (.sl n5 1 l5 c5, 0)), (9, (.sl n9 1 l9 c9, 0)), (10, (.int .i64 L, 0)), (11, (.int .i64 i, 0))] []
def fr2 (n1 : Option Bool) (l1 : Nat) (c1 : List PV) (n5 : Option Bool) (l5 : Nat) (c5 : List PV) (j d k : Int) (n9 : Option Bool) (l9 : Nat) (c9 : List PV) (L i : Int) : St :=
  frame 28 [(1, (.sl n1 1 l1 c1, 0)), (5, (.sl n5 1 l5 c5, 0)), (6, (.int .i64 j, 0)), (7, (.int .i64 d, 0)), (8, (.int .i64 k, 0)), (9, (.sl n9 1 l9 c9, 0)), (10, (.int .i64 L, 0)), (11, (.int .i64 i, 0))] []
noncomputable def timesLoop (fu n : Nat) (st : St) : Option PV := loopF (en lTimes) hTimes fu false Tryd.f50 [1, 1, 0, 1, 0] 0 n st
noncomputable def timesIn (fu : Nat) (KL : St → Option PV) (n : Nat) (st : St) : Option PV := loopI (en lTimes) hTimes fu false Tryd.f50 [1, 1, 0, 1, 0, 0, 1, 1, 0, 0, 1, 1, 0] 2 KL n st
theorem rtimes_raw (fu : Nat) (n0 : Option Bool) (l0 : Nat) (c0 : List PV) (n1 : Option Bool) (l1 : Nat) (c1 : List PV) : prun (en lTimes) hTimes fu false Tryd.f50 [.sl n0 1 l0 c0, .sl n1 1 l1 c1] =
    timesLoop fu fu (fr1 n1 l1 c1 (some true) 0 [] n0 l0 c0 (l0 : Int) 0) := by kernel_rfl
theorem times_step (fu : Nat) (n1 : Option Bool) (l1 : Nat) (c1 : List PV) (n5 : Option Bool) (l5 : Nat) (c5 : List PV) (n9 : Option Bool) (l9 : Nat) (c9 : List PV) (L i : Int) (K : St → Option PV) :
    stepF (en lTimes) hTimes fu false Tryd.f50 [1, 1, 0, 1, 0] (fr1 n1 l1 c1 n5 l5 c5 n9 l9 c9 L i) (fun st => pnorm (hTimes.loop.lookup 0) st K) =
    bif decide (i < L) then ixI l9 c9 i fun d => timesIn fu (fun st => pnorm (hTimes.loop.lookup 0) st K) fu (fr2 n1 l1 c1 n5 l5 c5 i d 0 n9 l9 c9 L i)
    else some (.sl n5 1 l5 c5) := by kernel_rfl
theorem times_in (fu : Nat) (n1 : Option Bool) (l1 : Nat) (c1 : List PV) (n5 : Option Bool) (l5 : Nat) (c5 : List PV) (j d k : Int) (n9 : Option Bool) (l9 : Nat) (c9 : List PV) (L i : Int) (K KO : St → Option PV) :
    stepI (en lTimes) hTimes fu false Tryd.f50 [1, 1, 0, 1, 0, 0, 1, 1, 0, 0, 1, 1, 0] (fun st => pnorm (hTimes.loop.lookup 0) st KO) (fr2 n1 l1 c1 n5 l5 c5 j d k n9 l9 c9 L i) (fun st => pnorm (hTimes.loop.lookup 2) st K) =
    bif decide (k < d) then shiftO l1 c1 j fun S => plusO l5 c5 (dlen S) (cellsN S) fun Z => K (fr2 n1 l1 c1 (some (Z == 0)) (dlen Z) (cellsN Z) j d (IntKind.i64.wrap (k + 1)) n9 l9 c9 L i)
    else KO (fr1 n1 l1 c1 n5 l5 c5 n9 l9 c9 L (IntKind.i64.wrap (i + 1))) := by kernel_rfl
theorem times_inner (fu : Nat) (n1 n9 : Option Bool) (l9 : Nat) (c9 : List PV) (L : Int) {B i d : Nat} (hB : dlen B ≤ 100) (hi : i ≤ 100) (hd : d ≤ 9) (KO : St → Option PV) : ∀ (m k n O : Nat), k + m = d → m < n → dlen (O + m * (B * 10 ^ i)) ≤ 400 → 
    timesIn fu (fun st => pnorm (hTimes.loop.lookup 0) st KO) n (fr2 n1 (dlen B) (cellsN B) (some (O == 0)) (dlen O) (cellsN O) (i : Int) (d : Int) (k : Int) n9 l9 c9 L (i : Int)) =
    KO (fr1 n1 (dlen B) (cellsN B) (some (O + m * (B * 10 ^ i) == 0)) (dlen (O + m * (B * 10 ^ i))) (cellsN (O + m * (B * 10 ^ i))) n9 l9 c9 L ((i : Int) + 1))
  | m, k, 0, O, _, h, _ => by omega
  | 0, k, n + 1, O, hk, hn, hO => by
    unfold timesIn
    rw [loopI_succ, times_in, cond_f (decide_eq_false (by omega)), wrapI_of (by omega) (by omega), Nat.zero_mul, Nat.add_zero]
  | m + 1, k, n + 1, O, hk, hn, hO => by
    unfold timesIn
    have hS := dlen_shift_le (k := i) hB
    have hO1 := dlen_mono (show O ≤ O + (m + 1) * (B * 10 ^ i) by omega)
    rw [loopI_succ, times_in, cond_t (decide_eq_true (by omega)), shiftO_eq (by omega) (by omega) (by omega), Int.toNat_natCast, plusO_eq (by omega) (by omega), wrapI_of (by omega) (by omega)]
    have e : O + B * 10 ^ i + m * (B * 10 ^ i) = O + (m + 1) * (B * 10 ^ i) := by rw [Nat.add_mul, Nat.one_mul]; omega
    have ih := times_inner fu n1 n9 l9 c9 L hB hi hd KO m (k + 1) n (O + B * 10 ^ i) (by omega) (by omega) (by rw [e]; exact hO)
    unfold timesIn at ih
    rw [e] at ih
    exact ih
theorem dlen_mul {A B a b : Nat} (h1 : dlen A ≤ a) (h2 : dlen B ≤ b) : dlen (A * B) ≤ a + b := by
  refine (dlen_le _ _).2 ?_
  have h1 := (dlen_le _ _).1 h1
  have h2 := (dlen_le _ _).1 h2
  rw [Nat.pow_add]
  exact Nat.mul_lt_mul'' h1 h2
theorem mod_step (A i : Nat) : A % 10 ^ (i + 1) = A % 10 ^ i + A / 10 ^ i % 10 * 10 ^ i := by
  rw [Nat.pow_succ, Nat.mod_mul, Nat.mul_comm (10 ^ i)]
theorem times_loop (fu : Nat) (hfu : 20 ≤ fu) {A B : Nat} (n0 n1 : Option Bool) (hA : dlen A ≤ 100) (hB : dlen B ≤ 100) : ∀ (m i n : Nat), i + m = dlen A → m < n →
    timesLoop fu n (fr1 n1 (dlen B) (cellsN B) (some (A % 10 ^ i * B == 0)) (dlen (A % 10 ^ i * B)) (cellsN (A % 10 ^ i * B)) n0 (dlen A) (cellsN A) (dlen A : Int) (i : Int)) = some (big (A * B))
  | m, i, 0, _, h => by omega
  | 0, i, n + 1, hi, hn => by
    unfold timesLoop
    have e : A % 10 ^ i = A := Nat.mod_eq_of_lt (by rw [show i = dlen A by omega]; exact lt_pow_dlen A)
    rw [loopF_succ, times_step, cond_f (decide_eq_false (by omega)), e]
    rfl
  | m + 1, i, n + 1, hi, hn => by
    unfold timesLoop
    rw [loopF_succ, times_step, cond_t (decide_eq_true (by omega)), ixI_dgs (by omega) (by omega), Int.toNat_natCast]
    have e : A % 10 ^ i * B + A / 10 ^ i % 10 * (B * 10 ^ i) = A % 10 ^ (i + 1) * B := by
      rw [mod_step, Nat.add_mul, Nat.mul_comm B, Nat.mul_assoc]
    have hm : dlen (A % 10 ^ (i + 1) * B) ≤ 200 := dlen_mul (a := 100) (b := 100) (by have := dlen_mono (Nat.mod_le A (10 ^ (i + 1))); omega) hB
    have hin := times_inner fu n1 n0 (dlen A) (cellsN A) (dlen A : Int) (i := i) (d := A / 10 ^ i % 10) hB (by omega) (Nat.le_of_lt_succ (Nat.mod_lt _ (by decide))) (loopF (en lTimes) hTimes fu false Tryd.f50 [1, 1, 0, 1, 0] 0 n)
      (A / 10 ^ i % 10) 0 fu (A % 10 ^ i * B) (by omega) (Nat.lt_of_lt_of_le (Nat.mod_lt _ (by decide)) (by omega)) (by rw [e]; omega)
    rw [e] at hin
    have ih := times_loop fu hfu n0 n1 hA hB m (i + 1) n (by omega) (by omega)
    unfold timesLoop at ih
    exact hin.trans ih
def p_RTimes : PFn := ⟨fun xs k => match xs with | [.sl _ 1 l0 c0, .sl _ 1 l1 c1] => (decN l0 c0).bind fun A => (decN l1 c1).bind fun B => bif decide (dlen A ≤ 100) && decide (dlen B ≤ 100) then k (big (A * B)) else none | _ => none, false⟩
theorem ok_RTimes : FOK NGd Wd 50 p_RTimes := by
  refine fok wokd ok_lTimes (h := hTimes) Tryd.func50 rfl (by decide) ?_ ?_
  · intro R xs k
    simp only [p_RTimes]
    split
    · exact bind2_nat
    · rfl
  · intro xs r h
    simp only [p_RTimes] at h
    split at h
    · rename_i n0 l0 c0 n1 l1 c1
      obtain ⟨A, B, h1, h2, hg, rfl⟩ := bind2_inv h
      obtain ⟨rfl, rfl⟩ := decN_inv h1
      obtain ⟨rfl, rfl⟩ := decN_inv h2
      simp only [Bool.and_eq_true, decide_eq_true_eq] at hg
      refine ⟨1000, (rtimes_raw 1000 n0 _ _ n1 _ _).trans ?_⟩
      have := times_loop 1000 (by decide) (A := A) (B := B) n0 n1 hg.1 hg.2 (dlen A) 0 1000 (by omega) (by omega)
      rw [Nat.pow_zero, Nat.mod_one, Nat.zero_mul] at this
      exact this
    · cases h
end Go.Proofs.YtdgoagnbpbehnaaDoor
