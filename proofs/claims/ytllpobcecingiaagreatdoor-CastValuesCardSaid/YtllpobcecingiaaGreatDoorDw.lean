/-
  Decimal: wide numbers: what the inner functions compute.
-/
import Derived.Test.YtllpobcecingiaaGreatDoorPw
import Derived.Test.YtllpobcecingiaaGreatDoorFirst0
set_option linter.unusedVariables false
set_option linter.unusedSimpArgs false
namespace Go.Proofs.YtllpobcecingiaaGreatDoor
open Go.RowKit

/-! ## size, ten -/
def sizeI (n : Int) : Int := bif decide (n < 0) then IntKind.u64.wrap (0 - IntKind.u64.wrap n) else IntKind.u64.wrap n
theorem sizeI_u (n : Int) : inU (sizeI n) = true := by
  rw [inU_iff]; unfold sizeI
  cases decide (n < 0) <;> simp only [cond_true, cond_false, wrapU] <;> omega
theorem sizeI_eq {n : Int} (h0 : -9223372036854775808 ≤ n) (h1 : n ≤ 9223372036854775807) : sizeI n = n.natAbs := by
  unfold sizeI
  by_cases h : n < 0
  · rw [decide_eq_true h, cond_true, wrapU, wrapU]; omega
  · rw [decide_eq_false h, cond_false, wrapU]; omega
def p_size : PFn := ⟨fun xs k => match xs with | [.int .i64 n] => k (.int .u64 (sizeI n)) | _ => none, false⟩
theorem size_raw (l : List (FuncId × PFn)) (n : Int) (fuel : Nat) : prun (en l) ⟨[], []⟩ fuel false Tryz.f114 [.int .i64 n] =
    bif decide (n < 0) then some (.int .u64 (IntKind.u64.wrap (0 - IntKind.u64.wrap n))) else some (.int .u64 (IntKind.u64.wrap n)) := by kernel_rfl
theorem ok_size : FOK NGd Wd 114 p_size := by
  refine fok wokd allOK_nil (h := ⟨[], []⟩) Tryz.func114 rfl (by decide) ?_ ?_
  · intro R xs k
    simp only [p_size]
    split <;> rfl
  · intro xs r h
    simp only [p_size] at h
    split at h
    · rename_i n
      injection h with h
      subst h
      refine ⟨0, (size_raw [] n 0).trans ?_⟩
      unfold sizeI
      cases decide (n < 0) <;> rfl
    · cases h

def tenI (n : Int) : Int := ((10 ^ (min n 13).toNat : Nat) : Int)
theorem tenI_le (n : Int) : 1 ≤ tenI n ∧ tenI n ≤ 10000000000000 := by
  unfold tenI
  have h : (min n 13).toNat ≤ 13 := by omega
  have h1 := Nat.pow_le_pow_right (n := 10) (by decide) h
  have h2 := Nat.pow_pos (a := 10) (n := (min n 13).toNat) (by decide)
  omega
theorem tenI_u (n : Int) : inU (tenI n) = true := by
  rw [inU_iff]; have := tenI_le n; omega
def p_ten : PFn := ⟨fun xs k => match xs with | [.int .i64 n] => k (.int .u64 (tenI n)) | _ => none, false⟩
def hTen : Hints := ⟨[], [(0, ⟨[(3, false), (5, false), (6, false)], []⟩)]⟩
def frTen (p m i : Int) : St := frame 12 [(3, (.int .u64 p, 0)), (5, (.int .i64 m, 0)), (6, (.int .i64 i, 0))] []
theorem ten_raw (l : List (FuncId × PFn)) (n : Int) (fuel : Nat) : prun (en l) hTen fuel false Tryz.f115 [.int .i64 n] =
    loopF (en l) hTen fuel false Tryz.f115 [1, 1, 0, 1, 0] 0 fuel (frTen 1 (if 13 < n then 13 else n) 0) := by kernel_rfl
theorem ten_step (l : List (FuncId × PFn)) (fuel : Nat) (p m i : Int) (K : St → Option PV) : stepF (en l) hTen fuel false Tryz.f115 [1, 1, 0, 1, 0] (frTen p m i) (fun st => pnorm (hTen.loop.lookup 0) st K) =
    bif decide (i < m) then K (frTen (IntKind.u64.wrap (p * 10)) m (IntKind.i64.wrap (i + 1))) else some (.int .u64 p) := by kernel_rfl
theorem ten_loop (l : List (FuncId × PFn)) (fuel : Nat) (m : Nat) (hm : m ≤ 13) : ∀ (n i : Nat), i ≤ m → m < n + i → loopF (en l) hTen fuel false Tryz.f115 [1, 1, 0, 1, 0] 0 n (frTen ((10 ^ i : Nat) : Int) m i) = some (.int .u64 ((10 ^ m : Nat) : Int))
  | 0, i, h, k => by omega
  | n + 1, i, h, k => by
    rw [loopF_succ, ten_step]
    by_cases e : i < m
    · have h1 := Nat.pow_le_pow_right (n := 10) (by decide) (show i + 1 ≤ 13 by omega)
      have ih := ten_loop l fuel m hm n (i + 1) (by omega) (by omega)
      rw [Nat.pow_succ] at h1 ih
      generalize 10 ^ i = P at *
      rw [cond_t (decide_eq_true (by omega)), wrapI_of (by omega) (by omega), wrapU_of (by omega) (by omega)]
      simpa using ih
    · have : i = m := by omega
      subst this
      rw [cond_f (decide_eq_false (by omega))]
theorem ok_ten : FOK NGd Wd 115 p_ten := by
  refine fok wokd allOK_nil (h := hTen) Tryz.func115 rfl (by decide) ?_ ?_
  · intro R xs k
    simp only [p_ten]
    split <;> rfl
  · intro xs r h
    simp only [p_ten] at h
    split at h
    · rename_i n
      injection h with h
      subst h
      refine ⟨20, (ten_raw [] n 20).trans ?_⟩
      by_cases hn : n < 0
      · rw [if_neg (by omega), loopF_succ, ten_step, cond_f (decide_eq_false (by omega))]
        unfold tenI
        rw [show (min n 13).toNat = 0 by omega]
        rfl
      · have := ten_loop [] 20 (min n 13).toNat (by omega) 20 0 (by omega) (by omega)
        unfold tenI
        rw [← this]
        congr 2
        split <;> omega
    · cases h

end Go.Proofs.YtllpobcecingiaaGreatDoor
