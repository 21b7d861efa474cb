/-
  Decimal: wide numbers: long division, bit by bit.
-/
import Derived.Test.YtllpobcecingiaaGreatDoorDx
set_option linter.unusedVariables false
set_option linter.unusedSimpArgs false
namespace Go.Proofs.YtllpobcecingiaaGreatDoor
open Go.RowKit

def hOver : Hints := ⟨[], [(0, ⟨[(2, false), (3, false), (4, false), (5, false), (6, false), (7, false), (8, false)], [2, 3, 4, 5, 6, 7]⟩)]⟩
def frOver (wh wl xh xl qh ql rh rl i : Int) : St := frame 57 [(2, (.ptr 2 0, 0)), (3, (.ptr 3 0, 0)), (4, (.ptr 4 0, 0)), (5, (.ptr 5 0, 0)), (6, (.ptr 6 0, 0)), (7, (.ptr 7 0, 0)), (8, (.int .i64 i, 0))]
  [(2, [(.int .u64 wh, 0), (.int .u64 wl, 0)]), (3, [(.int .u64 xh, 0), (.int .u64 xl, 0)]), (4, [(.int .u64 0, 0), (.int .u64 0, 0)]), (5, [(.int .u64 0, 0), (.int .u64 0, 0)]), (6, [(.int .u64 qh, 0), (.int .u64 ql, 0)]), (7, [(.int .u64 rh, 0), (.int .u64 rl, 0)])]
noncomputable def lOver : List (FuncId × PFn) := [(149, p_double), (137, p_less), (136, p_wsub)]
noncomputable def overLoop (n : Nat) (st : St) : Option PV := loopF (en lOver) hOver 130 false Tryz.f135 [1, 1, 0, 1, 0] 0 n st
theorem over_raw (a b c d : Int) : prun (en lOver) hOver 130 false Tryz.f135 [.agg [.int .u64 a, .int .u64 b], .agg [.int .u64 c, .int .u64 d]] =
    overLoop 130 (frOver a b c d 0 0 0 0 127) := by kernel_rfl
def oBit (h l i : Int) (k : Int → Option PV) : Option PV :=
  bif decide (i < 0) then none else
  bif decide (64 ≤ i) then (bif decide (IntKind.i64.wrap (i - 64) < 0) then none else k (andU (h.fdiv (2 ^ min (IntKind.i64.wrap (i - 64)).toNat IntKind.u64.bits)) 1)) else k (andU (l.fdiv (2 ^ min i.toNat IntKind.u64.bits)) 1)
def overBody (wh wl xh xl qh ql rh rl i : Int) (G : Int → Int → Int → Int → Int → Option PV) : Option PV :=
    bif decide (0 ≤ i) then oBit wh wl i fun b =>
      bif inU rh && inU rl then bif inU qh && inU ql then
        bif !(rh.fdiv (2 ^ min (Int.toNat 63) IntKind.u64.bits) == 1) then
          bif (bif false then true else !lessI (hiI (2 * N2 rh rl)) (orU (loI (2 * N2 rh rl)) b) xh xl) then bif inU (hiI (2 * N2 rh rl)) && (inU (orU (loI (2 * N2 rh rl)) b) && (inU xh && inU xl)) then
            G (hiI (2 * N2 qh ql)) (orU (loI (2 * N2 qh ql)) 1) (hiI (N2 (hiI (2 * N2 rh rl)) (orU (loI (2 * N2 rh rl)) b) - N2 xh xl)) (loI (N2 (hiI (2 * N2 rh rl)) (orU (loI (2 * N2 rh rl)) b) - N2 xh xl)) (IntKind.i64.wrap (i - 1))
          else none
          else G (hiI (2 * N2 qh ql)) (loI (2 * N2 qh ql)) (hiI (2 * N2 rh rl)) (orU (loI (2 * N2 rh rl)) b) (IntKind.i64.wrap (i - 1))
        else bif inU (hiI (2 * N2 rh rl)) && (inU (orU (loI (2 * N2 rh rl)) b) && (inU xh && inU xl)) then
            G (hiI (2 * N2 qh ql)) (orU (loI (2 * N2 qh ql)) 1) (hiI (N2 (hiI (2 * N2 rh rl)) (orU (loI (2 * N2 rh rl)) b) - N2 xh xl)) (loI (N2 (hiI (2 * N2 rh rl)) (orU (loI (2 * N2 rh rl)) b) - N2 xh xl)) (IntKind.i64.wrap (i - 1))
          else none
      else none else none
    else some (.tuple [.agg [.int .u64 qh, .int .u64 ql], .agg [.int .u64 rh, .int .u64 rl]])
theorem over_step (wh wl xh xl qh ql rh rl i : Int) (K : St → Option PV) :
    stepF (en lOver) hOver 130 false Tryz.f135 [1, 1, 0, 1, 0] (frOver wh wl xh xl qh ql rh rl i) (fun st => pnorm (hOver.loop.lookup 0) st K) =
    overBody wh wl xh xl qh ql rh rl i (fun a b c d e => K (frOver wh wl xh xl a b c d e)) := by kernel_rfl

theorem hiI_nat {w : Nat} (h : w < 340282366920938463463374607431768211456) : hiI w = ((w / 18446744073709551616 : Nat) : Int) := by unfold hiI; omega
theorem loI_nat (w : Nat) : loI w = ((w % 18446744073709551616 : Nat) : Int) := by unfold loI; omega
theorem cdiv_pow (a k : Nat) : ((a : Int).fdiv (2 ^ k)) = ((a / 2 ^ k : Nat) : Int) := by
  have h : ((2 : Int) ^ k) = ((2 ^ k : Nat) : Int) := by simp
  rw [h, Int.fdiv_eq_ediv_of_nonneg _ (Int.natCast_nonneg _), Int.natCast_ediv]
theorem andU_nat {a : Nat} (h : a < 18446744073709551616) : andU (a : Int) 1 = ((a % 2 : Nat) : Int) := by rw [andU_one (by omega) (by omega)]; omega
theorem oBit_eq {w m : Nat} (hw : w < 340282366920938463463374607431768211456) (hm : m ≤ 127) (k : Int → Option PV) : oBit (hiI w) (loI w) m k = k ((w / 2 ^ m % 2 : Nat) : Int) := by
  unfold oBit
  rw [cond_f (decide_eq_false (by omega))]
  by_cases h : 64 ≤ m
  · rw [cond_t (decide_eq_true (by omega)), wrapI_of (by omega) (by omega), cond_f (decide_eq_false (by omega)), hiI_nat hw]
    have e : min ((m : Int) - 64).toNat IntKind.u64.bits = m - 64 := by show min _ 64 = _; omega
    rw [e, cdiv_pow, andU_nat (Nat.lt_of_le_of_lt (Nat.div_le_self _ _) (by omega)), Nat.div_div_eq_div_mul, show 18446744073709551616 = 2 ^ 64 from rfl, ← Nat.pow_add, show 64 + (m - 64) = m by omega]
  · rw [cond_f (decide_eq_false (by omega)), loI_nat]
    have e : min (m : Int).toNat IntKind.u64.bits = m := by show min _ 64 = _; omega
    rw [e, cdiv_pow, andU_nat (Nat.lt_of_le_of_lt (Nat.div_le_self _ _) (by omega))]
    have h1 : 18446744073709551616 = 2 ^ m * 2 ^ (64 - m) := by rw [← Nat.pow_add, show m + (64 - m) = 64 by omega]
    rw [h1, Nat.mod_mul_right_div_self, Nat.mod_mod_of_dvd]
    exact ⟨2 ^ (64 - m - 1), (by rw [← Nat.pow_succ', show (64 - m - 1).succ = 64 - m by omega])⟩

/-- what is known ahead of the bits below m -/
def frDiv (w x m : Nat) : St := frOver (hiI w) (loI w) (hiI x) (loI x) (hiI (w / 2 ^ m / x : Nat)) (loI (w / 2 ^ m / x : Nat)) (hiI (w / 2 ^ m % x : Nat)) (loI (w / 2 ^ m % x : Nat)) ((m : Int) - 1)
theorem div_bit {a x b : Nat} (hx : 0 < x) (hb : b ≤ 1) : (2 * a + b) / x = 2 * (a / x) + (if x ≤ 2 * (a % x) + b then 1 else 0) ∧ (2 * a + b) % x = (if x ≤ 2 * (a % x) + b then 2 * (a % x) + b - x else 2 * (a % x) + b) := by
  have h1 := Nat.div_add_mod a x
  have h2 := Nat.mod_lt a hx
  generalize a % x = r at *
  generalize a / x = q at *
  subst h1
  have e : 2 * (x * q + r) + b = (2 * r + b) + x * (2 * q) := by rw [Nat.mul_left_comm]; omega
  rw [e, Nat.add_mul_div_left _ _ hx, Nat.add_mul_mod_self_left]
  by_cases h : x ≤ 2 * r + b
  · rw [if_pos h, if_pos h, Nat.div_eq_sub_div hx h, Nat.mod_eq_sub_mod h, Nat.div_eq_of_lt (by omega), Nat.mod_eq_of_lt (by omega)]
    exact ⟨by omega, rfl⟩
  · rw [if_neg h, if_neg h, Nat.div_eq_of_lt (by omega), Nat.mod_eq_of_lt (by omega)]
    exact ⟨by omega, rfl⟩
theorem v1 {q : Nat} : hiI (2 * q) = hiI (2 * q + 1 : Nat) := by unfold hiI; omega
theorem v2 {q : Nat} : loI (2 * q) + 1 = loI (2 * q + 1 : Nat) := by unfold loI; omega
theorem v3 {r b : Nat} (hb : b ≤ 1) : N2 (hiI (2 * r)) (loI (2 * r) + b) = (2 * (r : Int) + b) % 340282366920938463463374607431768211456 := by unfold N2 hiI loI; omega
theorem v4 {y : Int} {z : Nat} (h : (y - z) % 340282366920938463463374607431768211456 = 0) : hiI y = hiI z ∧ loI y = loI z := by unfold hiI loI; omega
theorem v5 {r b : Nat} (hb : b ≤ 1) : hiI (2 * r) = hiI (2 * r + b : Nat) := by unfold hiI; omega
theorem v6 {r b : Nat} (hb : b ≤ 1) : loI (2 * r) + b = loI (2 * r + b : Nat) := by unfold loI; omega
theorem v7 {q : Nat} : hiI (2 * q) = hiI (2 * q + 0 : Nat) := by unfold hiI; omega
theorem v8 {q : Nat} : loI (2 * q) = loI (2 * q + 0 : Nat) := by unfold loI; omega
theorem div_body {w x m : Nat} (hw : w < 340282366920938463463374607431768211456) (hx : 0 < x) (hx2 : x < 340282366920938463463374607431768211456) (hm : m ≤ 127) (G : Int → Int → Int → Int → Int → Option PV) :
    overBody (hiI w) (loI w) (hiI x) (loI x) (hiI (w / 2 ^ (m + 1) / x : Nat)) (loI (w / 2 ^ (m + 1) / x : Nat)) (hiI (w / 2 ^ (m + 1) % x : Nat)) (loI (w / 2 ^ (m + 1) % x : Nat)) (m : Int) G =
    G (hiI (w / 2 ^ m / x : Nat)) (loI (w / 2 ^ m / x : Nat)) (hiI (w / 2 ^ m % x : Nat)) (loI (w / 2 ^ m % x : Nat)) ((m : Int) - 1) := by
  unfold overBody
  rw [cond_t (decide_eq_true (by omega)), oBit_eq hw hm, cond_t (by simp [hiI_u, loI_u]), cond_t (by simp [hiI_u, loI_u]), wrapI_of (by omega) (by omega)]
  have hA : w / 2 ^ m = 2 * (w / 2 ^ (m + 1)) + w / 2 ^ m % 2 := by
    rw [Nat.pow_succ, ← Nat.div_div_eq_div_mul]; omega
  have hb : w / 2 ^ m % 2 ≤ 1 := by omega
  have hAw : w / 2 ^ (m + 1) ≤ w := Nat.div_le_self _ _
  obtain ⟨d1, d2⟩ := div_bit (a := w / 2 ^ (m + 1)) hx hb
  rw [← hA] at d1 d2
  rw [d1, d2]
  generalize w / 2 ^ m % 2 = b at *
  generalize w / 2 ^ (m + 1) = a at *
  clear d1 d2 hA
  have hr := Nat.mod_lt a hx
  have hq : a / x ≤ a := Nat.div_le_self _ _
  generalize a % x = r at *
  generalize a / x = q at *
  have er : N2 (hiI r) (loI r) = r := N2_W2 (by omega) (by omega)
  have eq : N2 (hiI q) (loI q) = q := N2_W2 (by omega) (by omega)
  have ex : N2 (hiI x) (loI x) = x := N2_W2 (by omega) (by omega)
  have eo : orU (loI (2 * r)) b = loI (2 * r) + b := orU_even (by unfold loI; omega) (by unfold loI; omega) (by unfold loI; omega) (by omega) (by omega)
  have eo1 : orU (loI (2 * q)) 1 = loI (2 * q) + 1 := orU_even (by unfold loI; omega) (by unfold loI; omega) (by unfold loI; omega) (by omega) (by omega)
  rw [er, eq, ex, eo, eo1]
  have u1 : inU (loI (2 * r) + b) = true := by rw [inU_iff]; unfold loI; omega
  rw [lessI_eq (hiI_u _) u1 (hiI_u _) (loI_u _), ex, cond_t (show (inU (hiI (2 * r)) && (inU (loI (2 * r) + b) && (inU (hiI x) && inU (loI x)))) = true by simp [hiI_u, loI_u, u1])]
  have e63 : ((hiI r).fdiv (2 ^ min (Int.toNat 63) IntKind.u64.bits) == 1) = decide (170141183460469231731687303715884105728 ≤ r) := by
    rw [hiI_nat (by omega), show min (Int.toNat 63) IntKind.u64.bits = 63 from rfl, cdiv_pow]
    rw [Bool.eq_iff_iff]
    simp only [beq_iff_eq, decide_eq_true_eq]
    omega
  rw [e63]
  have fin : ∀ {q0 q1 r0 r1 : Int} {q' r' : Int}, q0 = hiI q' → q1 = loI q' → r0 = hiI r' → r1 = loI r' → G q0 q1 r0 r1 ((m : Int) - 1) = G (hiI q') (loI q') (hiI r') (loI r') ((m : Int) - 1) := by
    intro _ _ _ _ _ _ h1 h2 h3 h4; rw [h1, h2, h3, h4]
  rw [v3 hb]
  by_cases c : 170141183460469231731687303715884105728 ≤ r
  · have hc : x ≤ 2 * r + b := by omega
    have k := v4 (y := (2 * (r : Int) + b) % 340282366920938463463374607431768211456 - x) (z := 2 * r + b - x) (by omega)
    rw [decide_eq_true c, if_pos hc, if_pos hc]
    simp only [Bool.not_true, cond_false]
    exact fin v1 v2 k.1 k.2
  · rw [decide_eq_false c]
    simp only [Bool.not_false, cond_true, cond_false]
    by_cases d : x ≤ 2 * r + b
    · have k := v4 (y := (2 * (r : Int) + b) % 340282366920938463463374607431768211456 - x) (z := 2 * r + b - x) (by omega)
      have hd : ((2 * (r : Int) + b) % 340282366920938463463374607431768211456 < x) = False := by simp only [eq_iff_iff, iff_false]; omega
      simp only [hd, decide_false, Bool.not_false, cond_true]
      rw [if_pos d, if_pos d]
      exact fin v1 v2 k.1 k.2
    · have hd : ((2 * (r : Int) + b) % 340282366920938463463374607431768211456 < x) = True := by simp only [eq_iff_iff, iff_true]; omega
      simp only [hd, decide_true, Bool.not_true, cond_false]
      rw [if_neg d, if_neg d]
      exact fin v7 v8 (v5 hb) (v6 hb)
theorem div_step {w x m : Nat} (hw : w < 340282366920938463463374607431768211456) (hx : 0 < x) (hx2 : x < 340282366920938463463374607431768211456) (hm : m ≤ 127) (K : St → Option PV) :
    stepF (en lOver) hOver 130 false Tryz.f135 [1, 1, 0, 1, 0] (frDiv w x (m + 1)) (fun st => pnorm (hOver.loop.lookup 0) st K) = K (frDiv w x m) := by
  have e : ((m + 1 : Nat) : Int) - 1 = (m : Int) := by omega
  unfold frDiv
  rw [over_step, e, div_body hw hx hx2 hm]
theorem div_loop {w x : Nat} (hw : w < 340282366920938463463374607431768211456) (hx : 0 < x) (hx2 : x < 340282366920938463463374607431768211456) : ∀ (m n : Nat), m ≤ 128 → m < n → overLoop n (frDiv w x m) = some (.tuple [W2 (w / x : Nat), W2 (w % x : Nat)])
  | 0, n + 1, _, _ => by
    unfold overLoop
    rw [loopF_succ]
    unfold frDiv
    rw [over_step, overBody, cond_f (decide_eq_false (by omega))]
    simp only [Nat.pow_zero, Nat.div_one]
    rfl
  | m + 1, n + 1, h, k => by
    unfold overLoop
    rw [loopF_succ, div_step hw hx hx2 (by omega)]
    exact div_loop hw hx hx2 m n (by omega) (by omega)

def p_over : PFn := ⟨fun xs k => match xs with
  | [.agg [.int .u64 h, .int .u64 l], .agg [.int .u64 h', .int .u64 l']] => bif inU h && (inU l && (inU h' && (inU l' && decide (0 < N2 h' l')))) then k (.tuple [W2 (N2 h l / N2 h' l'), W2 (N2 h l % N2 h' l')]) else none
  | _ => none, false⟩
theorem ok_over : FOK NGd Wd 135 p_over := by
  refine fok wokd (l := lOver) (allOK_cons ok_double (allOK_cons ok_less (allOK_cons ok_wsub allOK_nil))) (h := hOver) Tryz.func135 rfl (by decide) ?_ ?_
  · intro R xs k
    simp only [p_over]
    split
    · exact cond_nat
    · rfl
  · intro xs r h
    simp only [p_over] at h
    split at h
    · rename_i a b c d
      rcases hb : (inU a && (inU b && (inU c && (inU d && decide (0 < N2 c d))))) with _ | _ <;> rw [hb] at h
      · cases h
      · simp only [cond_true, Option.some.injEq] at h
        subst h
        simp only [Bool.and_eq_true, inU_iff, decide_eq_true_eq] at hb
        obtain ⟨ha, hb, hc, hd, hp⟩ := hb
        refine ⟨130, (over_raw a b c d).trans ?_⟩
        obtain ⟨w, hw⟩ := Int.eq_ofNat_of_zero_le (show 0 ≤ N2 a b by unfold N2; omega)
        obtain ⟨x, hx⟩ := Int.eq_ofNat_of_zero_le (show 0 ≤ N2 c d by unfold N2; omega)
        have hw2 : w < 340282366920938463463374607431768211456 := by unfold N2 at hw; omega
        have hx2 : x < 340282366920938463463374607431768211456 := by unfold N2 at hx; omega
        have := div_loop hw2 (x := x) (by omega) hx2 128 130 (by omega) (by omega)
        rw [hw, hx, ← Int.natCast_ediv, ← Int.natCast_emod, ← this]
        unfold frDiv
        rw [Nat.div_eq_of_lt (show w < 2 ^ 128 from hw2)]
        simp only [Nat.zero_div, Nat.zero_mod]
        unfold N2 at hw hx
        rw [show hiI w = a by unfold hiI; omega, show loI w = b by unfold loI; omega, show hiI x = c by unfold hiI; omega, show loI x = d by unfold loI; omega]
        rfl
    · cases h

end Go.Proofs.YtllpobcecingiaaGreatDoor
