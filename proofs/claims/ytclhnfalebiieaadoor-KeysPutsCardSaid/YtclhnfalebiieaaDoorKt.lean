/-
  Keys by the evaluator: Clone, power.
-/
import Derived.Test.YtclhnfalebiieaaDoorKs
set_option linter.unusedVariables false
set_option linter.unusedSimpArgs false
namespace Go.Proofs.YtclhnfalebiieaaDoor
open Go.RowKit

/-! ## Clone -/
theorem clone_raw (v : Bool) (l0 : Nat) (c0 : List PV) : prun (en []) ⟨[], []⟩ 0 false Tryd.f35 [.sl (some v) 1 l0 c0] =
    bif v then some (.sl (some true) 1 0 []) else roomY 0 l0 (some (.sl ((some false).map (· && (l0 == 0))) 1 (0 + l0) ([] ++ c0))) := by kernel_rfl
def p_clone : PFn := ⟨fun xs k => match xs with | [.sl (some v) 1 n c] => (decY n c).bind fun l => bif decide (l.length ≤ 100000) then k (.sl (some v) 1 (bif v then 0 else l.length) (bC (bif v then [] else l))) else none | _ => none, false⟩
theorem ok_clone : FOK NGk Tabs 35 p_clone := by
  refine fok wokk allOK_nil (h := ⟨[], []⟩) Tryd.func35 rfl (by decide) ?_ ?_
  · intro R xs k
    simp only [p_clone]
    split
    · exact bindY_nat
    · rfl
  · intro xs r h
    simp only [p_clone] at h
    split at h
    · rename_i v n c
      obtain ⟨l, h1, hg, rfl⟩ := bindY_inv h
      obtain ⟨rfl, rfl⟩ := decY_inv h1
      simp only [decide_eq_true_eq] at hg
      refine ⟨0, (clone_raw v _ _).trans ?_⟩
      cases v
      · rw [cond_false, roomY_eq (by omega), Nat.zero_add]
        simp
      · rfl
    · cases h

/-! ## powers of 256 -/
def hPw : Hints := ⟨[], [(0, ⟨[(0, false), (3, false), (4, false)], []⟩)]⟩
def frPw (k p i : Int) : St := frame 13 [(0, (.int .i64 k, 0)), (3, (.int .u64 p, 0)), (4, (.int .i64 i, 0))] []
noncomputable def pwLoop (fu n : Nat) (st : St) : Option PV := loopF (en []) hPw fu false Tryd.f58 [1, 1, 0, 1, 0] 0 n st
theorem pw_raw (fu : Nat) (k : Int) : prun (en []) hPw fu false Tryd.f58 [.int .i64 k] = pwLoop fu fu (frPw k 1 0) := by kernel_rfl
theorem pw_step (fu : Nat) (k p i : Int) (K : St → Option PV) : stepF (en []) hPw fu false Tryd.f58 [1, 1, 0, 1, 0] (frPw k p i) (fun st => pnorm (hPw.loop.lookup 0) st K) =
    bif decide (i < k) then K (frPw k (IntKind.u64.wrap (p * 256)) (IntKind.i64.wrap (i + 1))) else some (.int .u64 p) := by kernel_rfl
theorem pw_loop (fu k : Nat) (hk : k ≤ 7) : ∀ (m i n : Nat), i + m = k → m < n → pwLoop fu n (frPw (k : Int) ((256 ^ i : Nat) : Int) (i : Int)) = some (.int .u64 ((256 ^ k : Nat) : Int))
  | m, i, 0, _, h => by omega
  | 0, i, n + 1, hi, hn => by
    unfold pwLoop
    rw [loopF_succ, pw_step, cond_f (decide_eq_false (by omega)), show i = k by omega]
  | m + 1, i, n + 1, hi, hn => by
    unfold pwLoop
    have hp := Nat.pow_le_pow_right (n := 256) (by decide) (show i ≤ 6 by omega)
    rw [loopF_succ, pw_step, cond_t (decide_eq_true (by omega)), wrapI_of (by omega) (by omega)]
    have ih := pw_loop fu k hk m (i + 1) n (by omega) (by omega)
    unfold pwLoop at ih
    rw [Nat.pow_succ] at ih
    rw [← ih]
    generalize 256 ^ i = q at *
    rw [wrapU_of (by omega) (by omega)]
    rfl
def p_power : PFn := ⟨fun xs k => match xs with | [.int .i64 j] => bif decide (0 ≤ j) && decide (j ≤ 7) then k (.int .u64 ((256 ^ j.toNat : Nat) : Int)) else none | _ => none, false⟩
theorem ok_power : FOK NGk Tabs 58 p_power := by
  refine fok wokk allOK_nil (h := hPw) Tryd.func58 rfl (by decide) ?_ ?_
  · intro R xs k
    simp only [p_power]
    split
    · exact cond_nat
    · rfl
  · intro xs r h
    simp only [p_power] at h
    split at h
    · rename_i j
      rcases hb : (decide (0 ≤ j) && decide (j ≤ 7)) with _ | _ <;> rw [hb] at h
      · cases h
      · simp only [cond_true, Option.some.injEq] at h
        subst h
        simp only [Bool.and_eq_true, decide_eq_true_eq] at hb
        obtain ⟨k, rfl⟩ := Int.eq_ofNat_of_zero_le hb.1
        refine ⟨20, (pw_raw 20 _).trans ?_⟩
        have := pw_loop 20 k (by omega) k 0 20 (by omega) (by omega)
        rw [Int.toNat_natCast]
        exact this
    · cases h
end Go.Proofs.YtclhnfalebiieaaDoor
