/-
  Keys by the evaluator: lists of values; long.
-/
import Derived.Test.YtclhnfalebiieaaDoorKu
set_option linter.unusedVariables false
set_option linter.unusedSimpArgs false
namespace Go.Proofs.YtclhnfalebiieaaDoor
open Go.RowKit

abbrev V4 := Val
def V4.cs (v : Val) : List PV := [.int .i64 v.kind, .int .i64 v.n, .int .i64 v.scale, .str v.s]
def valsC (vs : List V4) : List PV := vs.flatMap V4.cs
theorem valsC_len (vs : List V4) : (valsC vs).length = vs.length * 4 := by
  induction vs with
  | nil => rfl
  | cons v vs ih => simp only [valsC, List.flatMap_cons, List.length_append, List.length_cons] at ih ⊢; rw [ih]; simp only [V4.cs, List.length_cons, List.length_nil]; omega
theorem vals_at : ∀ {vs : List V4} {i : Nat} {v : V4}, vs[i]? = some v → ((valsC vs).drop (i * 4)).take 4 = V4.cs v
  | v :: vs, 0, w, h => by
    simp only [List.getElem?_cons_zero, Option.some.injEq] at h
    subst h
    rfl
  | v :: vs, i + 1, w, h => by
    simp only [List.getElem?_cons_succ] at h
    have ih := vals_at h
    have e : (valsC (v :: vs)).drop ((i + 1) * 4) = (valsC vs).drop (i * 4) := by
      show (V4.cs v ++ valsC vs).drop _ = _
      rw [show (i + 1) * 4 = (V4.cs v).length + i * 4 by simp only [V4.cs, List.length_cons, List.length_nil]; omega, ← List.drop_drop, List.drop_left]
    rw [e, ih]
def ixV {R : Type} (len : Nat) (c : List PV) (i : Int) (K : Int → Int → Int → List UInt8 → Option R) : Option R :=
  bif decide (0 ≤ i) && decide (i < (len : Int)) then
    ((c.drop (i.toNat * 4)).take 4).head?.bind fun v => (PV.asInt .i64 v).bind fun a => ((c.drop (i.toNat * 4)).take 4).tail.head?.bind fun v => (PV.asInt .i64 v).bind fun n =>
    ((c.drop (i.toNat * 4)).take 4).tail.tail.head?.bind fun v => (PV.asInt .i64 v).bind fun b => ((c.drop (i.toNat * 4)).take 4).tail.tail.tail.head?.bind fun v => v.asStr.bind fun s => K a n b s else none
theorem ixV_eq {R : Type} {vs : List V4} {i : Nat} {v : V4} {K : Int → Int → Int → List UInt8 → Option R} (h : vs[i]? = some v) : ixV vs.length (valsC vs) (i : Int) K = K v.kind v.n v.scale v.s := by
  have := (List.getElem?_eq_some_iff.1 h).1
  unfold ixV
  rw [cond_t (by rw [decide_eq_true (by omega), decide_eq_true (by omega)]; rfl), Int.toNat_natCast, vals_at h]
  rfl
/-! ## long -/
def longL : Nat → List V4 → Bool
  | _, [] => false
  | i, v :: vs => decide (20 ≤ i) || decide (500 < v.s.length) || longL (i + 1) vs
def hLo : Hints := ⟨[], [(0, ⟨[(5, false), (6, false), (7, false)], []⟩)]⟩
def frLo (n5 : Option Bool) (l5 : Nat) (c5 : List PV) (L i : Int) : St := frame 21 [(5, (.sl n5 4 l5 c5, 0)), (6, (.int .i64 L, 0)), (7, (.int .i64 i, 0))] []
noncomputable def loLoop (fu n : Nat) (st : St) : Option PV := loopF (en []) hLo fu false Tryd.f11 [1, 0, 1, 0] 0 n st
theorem lo_raw (fu : Nat) (n5 : Option Bool) (l5 : Nat) (c5 : List PV) : prun (en []) hLo fu false Tryd.f11 [.sl n5 4 l5 c5] = loLoop fu fu (frLo n5 l5 c5 (l5 : Int) 0) := by kernel_rfl
theorem lo_step (fu : Nat) (n5 : Option Bool) (l5 : Nat) (c5 : List PV) (L i : Int) (K : St → Option PV) : stepF (en []) hLo fu false Tryd.f11 [1, 0, 1, 0] (frLo n5 l5 c5 L i) (fun st => pnorm (hLo.loop.lookup 0) st K) =
    bif decide (i < L) then ixV l5 c5 i fun _ _ _ s => bif decide (20 ≤ i) || decide (500 < (s.length : Int)) then some (.bool true) else K (frLo n5 l5 c5 L (IntKind.i64.wrap (i + 1)))
    else some (.bool false) := by kernel_rfl
theorem lo_loop (fu : Nat) (n5 : Option Bool) (vs : List V4) : ∀ (k i n : Nat), i + k = vs.length → i + k < n + i → i ≤ 20 → loLoop fu n (frLo n5 vs.length (valsC vs) (vs.length : Int) (i : Int)) = some (.bool (longL i (vs.drop i)))
  | k, i, 0, _, h, _ => by omega
  | 0, i, n + 1, hi, hn, _ => by
    unfold loLoop
    rw [loopF_succ, lo_step, cond_f (decide_eq_false (by omega)), List.drop_of_length_le (by omega)]
    rfl
  | k + 1, i, n + 1, hi, hn, h20 => by
    unfold loLoop
    have hc := List.getElem?_eq_getElem (l := vs) (i := i) (by omega)
    rw [loopF_succ, lo_step, cond_t (decide_eq_true (by omega)), ixV_eq hc, List.drop_eq_getElem_cons (by omega), longL]
    generalize vs[i] = v
    have e1 : decide ((20 : Int) ≤ (i : Int)) = decide (20 ≤ i) := by congr 1; simp only [eq_iff_iff]; omega
    have e2 : decide (500 < (v.s.length : Int)) = decide (500 < v.s.length) := by congr 1; simp only [eq_iff_iff]; omega
    rw [e1, e2]
    cases hx : decide (20 ≤ i) || decide (500 < v.s.length)
    · rw [cond_false, Bool.false_or, wrapI_of (by omega) (by omega)]
      simp only [Bool.or_eq_false_iff, decide_eq_false_iff_not] at hx
      have ih := lo_loop fu n5 vs k (i + 1) n (by omega) (by omega) (by omega)
      unfold loLoop at ih
      exact ih
    · rfl
end Go.Proofs.YtclhnfalebiieaaDoor
