/-
  Decimal: what Right, all, Rescale, Mul, Div, Compare do.
-/
import Derived.Test.YtelckbphbkebkaaGreatDoorDl
set_option linter.unusedVariables false
set_option linter.unusedSimpArgs false
namespace Go.Proofs.YtelckbphbkebkaaGreatDoor
open Go.RowKit

def scaleB (s : Int) : Bool := decide (0 ≤ s) && decide (s ≤ 6)
theorem scaleB_iff {s : Int} : scaleB s = true ↔ 0 ≤ s ∧ s ≤ 6 := by simp only [scaleB, Bool.and_eq_true, decide_eq_true_eq]
def p_Right : PFn := ⟨fun xs k => match xs with | [.int .i64 s] => k (.bool (scaleB s)) | _ => none, false⟩
theorem right_raw (l : List (FuncId × PFn)) (s : Int) (fuel : Nat) : prun (en l) ⟨[], []⟩ fuel false Tryz.f81 [.int .i64 s] = some (.bool (decide (0 ≤ s) && decide (s ≤ 6))) := by kernel_rfl
theorem ok_Right : FOK NGd Wd 81 p_Right := by
  refine fok wokd allOK_nil (h := ⟨[], []⟩) Tryz.func81 rfl (by decide) ?_ ?_
  · intro R xs k
    simp only [p_Right]
    split <;> rfl
  · intro xs r h
    simp only [p_Right] at h
    split at h
    · exact ⟨0, (right_raw [] _ 0).trans h⟩
    · cases h
def p_Scale : PFn := ⟨fun xs k => match xs with | [.int .i64 s] => k (.bool (scaleB s)) | _ => none, false⟩
theorem scale_raw (l : List (FuncId × PFn)) (s : Int) (fuel : Nat) : prun (en l) ⟨[], []⟩ fuel false Tryz.f129 [.int .i64 s] = some (.bool (decide (0 ≤ s) && decide (s ≤ 6))) := by kernel_rfl
theorem ok_Scale : FOK NGd Wd 129 p_Scale := by
  refine fok wokd allOK_nil (h := ⟨[], []⟩) Tryz.func129 rfl (by decide) ?_ ?_
  · intro R xs k
    simp only [p_Scale]
    split <;> rfl
  · intro xs r h
    simp only [p_Scale] at h
    split at h
    · exact ⟨0, (scale_raw [] _ 0).trans h⟩
    · cases h
def hAll : Hints := ⟨[], [(0, ⟨[(5, false), (6, false), (7, false)], []⟩)]⟩
def p_all : PFn := ⟨fun xs k => match xs with
  | [.sl _ 1 2 [.int .i64 a, .int .i64 b]] => k (.bool (scaleB a && scaleB b))
  | [.sl _ 1 3 [.int .i64 a, .int .i64 b, .int .i64 c]] => k (.bool (scaleB a && scaleB b && scaleB c))
  | _ => none, false⟩
theorem all2_raw (nl : Option Bool) (a b : Int) : prun (en [(81, p_Right)]) hAll 5 false Tryz.f140 [.sl nl 1 2 [.int .i64 a, .int .i64 b]] =
    bif !scaleB a then some (.bool false) else bif !scaleB b then some (.bool false) else some (.bool true) := by kernel_rfl
theorem all3_raw (nl : Option Bool) (a b c : Int) : prun (en [(81, p_Right)]) hAll 5 false Tryz.f140 [.sl nl 1 3 [.int .i64 a, .int .i64 b, .int .i64 c]] =
    bif !scaleB a then some (.bool false) else bif !scaleB b then some (.bool false) else bif !scaleB c then some (.bool false) else some (.bool true) := by kernel_rfl
theorem ok_all : FOK NGd Wd 140 p_all := by
  refine fok wokd (allOK_cons ok_Right allOK_nil) (h := hAll) Tryz.func140 rfl (by decide) ?_ ?_
  · intro R xs k
    simp only [p_all]
    split <;> rfl
  · intro xs r h
    simp only [p_all] at h
    split at h
    · rename_i nl a b
      exact ⟨5, (all2_raw nl a b).trans (by rw [← h]; cases scaleB a <;> cases scaleB b <;> rfl)⟩
    · rename_i nl a b c
      exact ⟨5, (all3_raw nl a b c).trans (by rw [← h]; cases scaleB a <;> cases scaleB b <;> cases scaleB c <;> rfl)⟩
    · cases h
/-! ## compare -/
def p_nanI : PFn := ⟨fun xs k => match xs with | [.int .i64 _] => k (.bool false) | _ => none, false⟩
theorem nanI_raw (l : List (FuncId × PFn)) (a : Int) (fuel : Nat) : prun (en l) ⟨[], []⟩ fuel false Tryz.f113 [.int .i64 a] = some (.bool (!(a == a))) := by kernel_rfl
theorem ok_nanI : FOK NGd Wd 113 p_nanI := by
  refine fok wokd allOK_nil (h := ⟨[], []⟩) Tryz.func113 rfl (by decide) ?_ ?_
  · intro R xs k
    simp only [p_nanI]
    split <;> rfl
  · intro xs r h
    simp only [p_nanI] at h
    split at h
    · rename_i a
      exact ⟨0, (nanI_raw [] a 0).trans (by rw [← h]; simp)⟩
    · cases h
def p_cmpI : PFn := ⟨fun xs k => match xs with | [.int .i64 a, .int .i64 b] => k (.int .i64 (cmpI a b)) | _ => none, false⟩
theorem ok_cmpI : FOK NGd Wd 76 p_cmpI := by
  refine fok wokd (allOK_cons ok_nanI allOK_nil) (h := ⟨[], []⟩) Tryz.func76 rfl (by decide) ?_ ?_
  · intro R xs k
    simp only [p_cmpI]
    split <;> rfl
  · intro xs r h
    simp only [p_cmpI] at h
    split at h
    · rename_i a b
      injection h with h
      subst h
      have raw : prun (en [(113, p_nanI)]) ⟨[], []⟩ 0 false Tryz.f76 [.int .i64 a, .int .i64 b] = bif decide (a < b) then some (.int .i64 (-1)) else bif decide (b < a) then some (.int .i64 1) else some (.int .i64 0) := by kernel_rfl
      refine ⟨0, raw.trans ?_⟩
      unfold cmpI
      cases decide (a < b) <;> cases decide (b < a) <;> rfl
    · cases h
theorem cmpI_lt {a b : Int} (h : a < b) : cmpI a b = -1 := by unfold cmpI; rw [decide_eq_true h]; rfl
theorem cmpI_gt {a b : Int} (h : b < a) : cmpI a b = 1 := by unfold cmpI; rw [decide_eq_false (by omega), decide_eq_true h]; rfl
theorem cmpI_self (a : Int) : cmpI a a = 0 := by unfold cmpI; rw [decide_eq_false (by omega)]; rfl
theorem cmpI_cases (a b : Int) : (a < b ∧ cmpI a b = -1) ∨ (a = b ∧ cmpI a b = 0) ∨ (b < a ∧ cmpI a b = 1) := by
  rcases Int.lt_trichotomy a b with h | h | h
  · exact .inl ⟨h, cmpI_lt h⟩
  · subst h; exact .inr (.inl ⟨rfl, cmpI_self _⟩)
  · exact .inr (.inr ⟨h, cmpI_gt h⟩)
theorem cmpI_swap (a b : Int) : cmpI b a = -cmpI a b := by
  rcases cmpI_cases a b with ⟨h, e⟩ | ⟨h, e⟩ | ⟨h, e⟩
  · rw [e, cmpI_gt h]; rfl
  · subst h; rw [cmpI_self]; rfl
  · rw [e, cmpI_lt h]
theorem or_cmp {h l h' l' : Int} (h2 : inU l = true) (h4 : inU l' = true) : orC (cmpI h h') (cmpI l l') = cmpI (N2 h l) (N2 h' l') := by
  rw [inU_iff] at *
  unfold orC N2
  rcases cmpI_cases h h' with ⟨k, e⟩ | ⟨k, e⟩ | ⟨k, e⟩
  · rw [e, cmpI_lt (a := _ + _) (by omega)]; rfl
  · subst k
    rw [e]
    show cmpI l l' = _
    rcases cmpI_cases l l' with ⟨k, e⟩ | ⟨k, e⟩ | ⟨k, e⟩
    · rw [e, cmpI_lt (a := _ + _) (by omega)]
    · subst k; rw [cmpI_self, cmpI_self]
    · rw [e, cmpI_gt (a := _ + _) (by omega)]
  · rw [e, cmpI_gt (a := _ + _) (by omega)]; rfl

/-! ## what comes of the parts -/
def tm {R : Type} (x y : Int) (G : Int → Option R) : Option R := bif inU x && inU y then G (x * y) else none
def rd {R : Type} (a b c d : Int) (G : Int → Option R) : Option R := bif inU a && (inU b && (inU c && (inU d && decide (0 < N2 c d)))) then G (roundI (N2 a b) (N2 c d)) else none
def sg (z : Int) (m : Bool) : Option PV := bif inU (hiI z) && inU (loI z) then some (.tuple [.int .i64 (ansV (sgn (N2 (hiI z) (loI z)) m)), .int .i64 (ansE (sgn (N2 (hiI z) (loI z)) m))]) else none
theorem tm_eq {R : Type} {x y : Int} {G : Int → Option R} (hx : inU x = true) (hy : inU y = true) : tm x y G = G (x * y) := cond_t (by rw [hx, hy]; rfl)
theorem rd_eq {R : Type} {a b c d : Int} {G : Int → Option R} (ha : inU a = true) (hb : inU b = true) (hc : inU c = true) (hd : inU d = true) (h : 0 < N2 c d) : rd a b c d G = G (roundI (N2 a b) (N2 c d)) := cond_t (by rw [ha, hb, hc, hd, decide_eq_true h]; rfl)
theorem sg_eq {z : Int} {m : Bool} (h0 : 0 ≤ z) (h1 : z < 340282366920938463463374607431768211456) : sg z m = some (ansI (sgn z m)) := by
  unfold sg
  rw [cond_t (by rw [hiI_u, loI_u]; rfl), N2_W2 h0 h1]; rfl
theorem N2_0 (x : Int) : N2 0 x = x := by unfold N2; omega
def absI (n : Int) : Int := (n.natAbs : Int)
theorem absI_u {n : Int} (h : inI n = true) : inU (absI n) = true := by rw [inI_iff] at h; rw [inU_iff]; unfold absI; omega
theorem sizeI_abs {n : Int} (h : inI n = true) : sizeI n = absI n := by rw [inI_iff] at h; exact sizeI_eq h.1 h.2
theorem mul_ten_lt {x k : Int} (h : inU x = true) : 0 ≤ x * tenI k ∧ x * tenI k < 340282366920938463463374607431768211456 := by
  have := tenI_le k
  rw [inU_iff] at h
  exact prod_lt h.1 h.2 (by omega) (by omega)
theorem round_bd {a b : Int} (h0 : 0 ≤ a) (hb : 0 < b) : 0 ≤ roundI a b ∧ roundI a b ≤ a + 1 := by
  have h1 := Int.ediv_nonneg h0 (Int.le_of_lt hb)
  have h2 : a / b ≤ a := Int.ediv_le_self b h0
  unfold roundI
  cases decide (b ≤ 2 * (a % b)) <;> simp only [cond_true, cond_false] <;> omega
theorem tenI_0 : tenI 0 = 1 := by decide

/-! ## rescale -/
def scaN (n f t : Int) : Int := bif decide (f ≤ t) then absI n * tenI (t - f) else roundI (absI n) (tenI (f - t))
def scaV (n f t : Int) : Int := bif scaleB f && scaleB t then ansV (sgn (scaN n f t) (decide (n < 0))) else 0
def scaE (n f t : Int) : Int := bif scaleB f && scaleB t then ansE (sgn (scaN n f t) (decide (n < 0))) else 2
noncomputable def lDec : List (FuncId × PFn) := [(140, p_all), (142, p_size), (143, p_ten), (141, p_times), (147, p_rounded), (146, p_signed), (76, p_cmpI), (144, p_cmpU), (78, p_or2)]
theorem ok_lDec : AllOK NGd Wd lDec := allOK_cons ok_all (allOK_cons ok_size (allOK_cons ok_ten (allOK_cons ok_times (allOK_cons ok_rounded (allOK_cons ok_signed (allOK_cons ok_cmpI (allOK_cons ok_cmpU (allOK_cons ok_or2 allOK_nil))))))))
def scaBody (n f t : Int) : Option PV :=
  bif !(scaleB f && scaleB t) then some (.tuple [.int .i64 0, .int .i64 2]) else
  bif decide (f ≤ t) then tm (sizeI n) (tenI (IntKind.i64.wrap (t - f))) fun z => sg z (decide (n < 0))
  else rd 0 (sizeI n) 0 (tenI (IntKind.i64.wrap (f - t))) fun z => sg z (decide (n < 0))
theorem sca_raw (n f t : Int) : prun (en lDec) ⟨[], []⟩ 0 false Tryz.f123 [.int .i64 n, .int .i64 f, .int .i64 t] = scaBody n f t := by kernel_rfl
theorem sca_body {n f t : Int} (hn : inI n = true) : scaBody n f t = some (.tuple [.int .i64 (scaV n f t), .int .i64 (scaE n f t)]) := by
  unfold scaBody scaV scaE
  cases hs : scaleB f && scaleB t
  · rfl
  · simp only [Bool.and_eq_true, scaleB_iff] at hs
    simp only [Bool.not_true, cond_false, cond_true, scaN, sizeI_abs hn]
    have hu := absI_u hn
    by_cases h : f ≤ t
    · rw [decide_eq_true h, cond_true, cond_true, wrapI_of (by omega) (by omega), tm_eq hu (tenI_u _), sg_eq (mul_ten_lt hu).1 (mul_ten_lt hu).2]
      rfl
    · rw [decide_eq_false h, cond_false, cond_false, wrapI_of (by omega) (by omega), rd_eq (by rfl) hu (by rfl) (tenI_u _) (by rw [N2_0]; have := tenI_le (f - t); omega), N2_0, N2_0]
      have ht := tenI_le (f - t)
      rw [inU_iff] at hu
      have := round_bd (a := absI n) (b := tenI (f - t)) (by omega) (by omega)
      rw [sg_eq this.1 (by omega)]
      rfl
def p_Rescale : PFn := ⟨fun xs k => match xs with | [.int .i64 n, .int .i64 f, .int .i64 t] => bif inI n then k (.tuple [.int .i64 (scaV n f t), .int .i64 (scaE n f t)]) else none | _ => none, false⟩
theorem ok_Rescale : FOK NGd Wd 123 p_Rescale := by
  refine fok wokd ok_lDec (h := ⟨[], []⟩) Tryz.func123 rfl (by decide) ?_ ?_
  · intro R xs k
    simp only [p_Rescale]
    split
    · exact cond_nat
    · rfl
  · intro xs r h
    simp only [p_Rescale] at h
    split at h
    · rename_i n f t
      rcases hb : inI n with _ | _ <;> rw [hb] at h
      · cases h
      · exact ⟨0, (sca_raw n f t).trans ((sca_body hb).trans h)⟩
    · cases h

/-! ## products -/
def mulN (a sa b sb to : Int) : Int := bif decide (0 < sa + sb - to) then roundI (absI a * absI b) (tenI (sa + sb - to)) else absI a * absI b * tenI (to - sa - sb)
def mulS (a b : Int) : Bool := !(decide (a < 0) == decide (b < 0))
def mulV (a sa b sb to : Int) : Int := bif scaleB sa && scaleB sb && scaleB to then ansV (sgn (mulN a sa b sb to) (mulS a b)) else 0
def mulE (a sa b sb to : Int) : Int := bif scaleB sa && scaleB sb && scaleB to then ansE (sgn (mulN a sa b sb to) (mulS a b)) else 2
def mulBody (a sa b sb to : Int) : Option PV :=
  bif !(scaleB sa && scaleB sb && scaleB to) then some (.tuple [.int .i64 0, .int .i64 2]) else
  tm (sizeI a) (sizeI b) fun p =>
  bif decide (0 < IntKind.i64.wrap (IntKind.i64.wrap (sa + sb) - to)) then rd (hiI p) (loI p) 0 (tenI (IntKind.i64.wrap (IntKind.i64.wrap (sa + sb) - to))) fun z => sg z (mulS a b)
  else bif decide (0 < hiI p) then some (.tuple [.int .i64 0, .int .i64 20]) else
  tm (loI p) (tenI (IntKind.i64.wrap (IntKind.i64.wrap (to - sa) - sb))) fun z => sg z (mulS a b)
theorem mul_raw (a sa b sb to : Int) : prun (en lDec) ⟨[], []⟩ 0 false Tryz.f120 [.int .i64 a, .int .i64 sa, .int .i64 b, .int .i64 sb, .int .i64 to] = mulBody a sa b sb to := by kernel_rfl
theorem ansI_big {z : Int} {m : Bool} (h : 18446744073709551616 ≤ z) : ansI (sgn z m) = .tuple [.int .i64 0, .int .i64 20] := by
  refine ansI_over ?_
  unfold sgn
  cases m <;> simp only [cond_true, cond_false] <;> omega
theorem mul_body {a sa b sb to : Int} (ha : inI a = true) (hb : inI b = true) : mulBody a sa b sb to = some (.tuple [.int .i64 (mulV a sa b sb to), .int .i64 (mulE a sa b sb to)]) := by
  unfold mulBody mulV mulE
  cases hs : scaleB sa && scaleB sb && scaleB to
  · rfl
  · simp only [Bool.and_eq_true, scaleB_iff] at hs
    have hu := absI_u ha
    have hv := absI_u hb
    simp only [Bool.not_true, cond_false, cond_true, mulN, sizeI_abs ha, sizeI_abs hb]
    rw [tm_eq hu hv, wrapI_of (x := sa + sb) (by omega) (by omega), wrapI_of (x := sa + sb - to) (by omega) (by omega), wrapI_of (x := to - sa) (by omega) (by omega), wrapI_of (x := to - sa - sb) (by omega) (by omega)]
    rw [inU_iff] at hu hv
    have hp := prod_lt hu.1 hu.2 hv.1 hv.2
    have hp2 : absI a * absI b ≤ 9223372036854775808 * 9223372036854775808 := by
      rw [inI_iff] at ha hb
      exact Int.mul_le_mul (by unfold absI; omega) (by unfold absI; omega) hv.1 (by decide)
    generalize absI a * absI b = p at *
    by_cases h : 0 < sa + sb - to
    · have ht := tenI_le (sa + sb - to)
      rw [decide_eq_true h, cond_true, cond_true, rd_eq (hiI_u _) (loI_u _) (by rfl) (tenI_u _) (by rw [N2_0]; omega), N2_0, N2_W2 hp.1 hp.2]
      have := round_bd (a := p) (b := tenI (sa + sb - to)) (by omega) (by omega)
      rw [sg_eq this.1 (by omega)]
      rfl
    · rw [decide_eq_false h, cond_false, cond_false]
      have ht := tenI_le (to - sa - sb)
      by_cases k : 18446744073709551616 ≤ p
      · rw [cond_t (decide_eq_true (by unfold hiI; omega))]
        have : 18446744073709551616 ≤ p * tenI (to - sa - sb) := by
          have := Int.mul_le_mul (a := p) (b := 1) (c := p) (d := tenI (to - sa - sb)) (Int.le_refl _) ht.1 (by decide) (by omega)
          omega
        have e := ansI_big (m := mulS a b) this
        unfold ansI at e
        rw [e]
      · rw [cond_f (decide_eq_false (by unfold hiI; omega)), show loI p = p by unfold loI; omega]
        have hpu : inU p = true := by rw [inU_iff]; omega
        rw [tm_eq hpu (tenI_u _), sg_eq (mul_ten_lt hpu).1 (mul_ten_lt hpu).2]
        rfl
def p_Mul : PFn := ⟨fun xs k => match xs with | [.int .i64 a, .int .i64 sa, .int .i64 b, .int .i64 sb, .int .i64 to] => bif inI a && inI b then k (.tuple [.int .i64 (mulV a sa b sb to), .int .i64 (mulE a sa b sb to)]) else none | _ => none, false⟩
theorem ok_Mul : FOK NGd Wd 120 p_Mul := by
  refine fok wokd ok_lDec (h := ⟨[], []⟩) Tryz.func120 rfl (by decide) ?_ ?_
  · intro R xs k
    simp only [p_Mul]
    split
    · exact cond_nat
    · rfl
  · intro xs r h
    simp only [p_Mul] at h
    split at h
    · rename_i a sa b sb to
      rcases hb : (inI a && inI b) with _ | _ <;> rw [hb] at h
      · cases h
      · simp only [Bool.and_eq_true] at hb
        exact ⟨0, (mul_raw a sa b sb to).trans ((mul_body hb.1 hb.2).trans h)⟩
    · cases h

/-! ## quotients -/
def divN (a sa b sb to : Int) : Int := bif decide (0 ≤ sb + to - sa) then roundI (absI a * tenI (sb + to - sa)) (absI b) else roundI (absI a) (absI b * tenI (sa - sb - to))
def divV (a sa b sb to : Int) : Int := bif scaleB sa && scaleB sb && scaleB to then bif b == 0 then 0 else ansV (sgn (divN a sa b sb to) (mulS a b)) else 0
def divE (a sa b sb to : Int) : Int := bif scaleB sa && scaleB sb && scaleB to then bif b == 0 then 21 else ansE (sgn (divN a sa b sb to) (mulS a b)) else 2
def divBody (a sa b sb to : Int) : Option PV :=
  bif !(scaleB sa && scaleB sb && scaleB to) then some (.tuple [.int .i64 0, .int .i64 2]) else
  bif b == 0 then some (.tuple [.int .i64 0, .int .i64 21]) else
  bif decide (0 ≤ IntKind.i64.wrap (IntKind.i64.wrap (sb + to) - sa)) then
    tm (sizeI a) (tenI (IntKind.i64.wrap (IntKind.i64.wrap (sb + to) - sa))) fun x => rd (hiI x) (loI x) 0 (sizeI b) fun z => sg z (mulS a b)
  else tm (sizeI b) (tenI (IntKind.i64.wrap (0 - IntKind.i64.wrap (IntKind.i64.wrap (sb + to) - sa)))) fun y => rd 0 (sizeI a) (hiI y) (loI y) fun z => sg z (mulS a b)
theorem div_raw (a sa b sb to : Int) : prun (en lDec) ⟨[], []⟩ 0 false Tryz.f121 [.int .i64 a, .int .i64 sa, .int .i64 b, .int .i64 sb, .int .i64 to] = divBody a sa b sb to := by kernel_rfl
theorem div_all {a sa b sb to : Int} (ha : inI a = true) (hb : inI b = true) : divBody a sa b sb to = some (.tuple [.int .i64 (divV a sa b sb to), .int .i64 (divE a sa b sb to)]) := by
  unfold divBody divV divE
  cases hs : scaleB sa && scaleB sb && scaleB to
  · rfl
  · simp only [Bool.and_eq_true, scaleB_iff] at hs
    have hu := absI_u ha
    have hv := absI_u hb
    simp only [Bool.not_true, cond_false, cond_true, divN, sizeI_abs ha, sizeI_abs hb]
    by_cases h0 : b = 0
    · subst h0; rfl
    · have e0 : (b == 0) = false := by simpa using h0
      have hb1 : 1 ≤ absI b := by unfold absI; omega
      rw [e0, cond_false, cond_false, cond_false, wrapI_of (x := sb + to) (by omega) (by omega), wrapI_of (x := sb + to - sa) (by omega) (by omega)]
      by_cases h : 0 ≤ sb + to - sa
      · rw [decide_eq_true h, cond_true, cond_true, tm_eq hu (tenI_u _)]
        have hm := mul_ten_lt (k := sb + to - sa) hu
        have hm2 : absI a * tenI (sb + to - sa) ≤ 9223372036854775808 * 10000000000000 := by
          rw [inI_iff] at ha
          have := tenI_le (sb + to - sa)
          exact Int.mul_le_mul (by unfold absI; omega) this.2 (by omega) (by decide)
        rw [rd_eq (hiI_u _) (loI_u _) (by rfl) hv (by rw [N2_0]; omega), N2_0, N2_W2 hm.1 hm.2]
        have := round_bd (a := absI a * tenI (sb + to - sa)) (b := absI b) hm.1 (by omega)
        rw [sg_eq this.1 (by omega)]
        rfl
      · rw [decide_eq_false h, cond_false, cond_false, wrapI_of (by omega) (by omega), show 0 - (sb + to - sa) = sa - sb - to by omega, tm_eq hv (tenI_u _)]
        have hm := mul_ten_lt (k := sa - sb - to) hv
        have ht := tenI_le (sa - sb - to)
        have hpos : 0 < absI b * tenI (sa - sb - to) := Int.mul_pos (by omega) (by omega)
        rw [rd_eq (by rfl) hu (hiI_u _) (loI_u _) (by rw [N2_W2 hm.1 hm.2]; exact hpos), N2_0, N2_W2 hm.1 hm.2]
        rw [inU_iff] at hu
        have := round_bd (a := absI a) (b := absI b * tenI (sa - sb - to)) hu.1 hpos
        rw [sg_eq this.1 (by omega)]
        rfl
def p_Div : PFn := ⟨fun xs k => match xs with | [.int .i64 a, .int .i64 sa, .int .i64 b, .int .i64 sb, .int .i64 to] => bif inI a && inI b then k (.tuple [.int .i64 (divV a sa b sb to), .int .i64 (divE a sa b sb to)]) else none | _ => none, false⟩
theorem ok_Div : FOK NGd Wd 121 p_Div := by
  refine fok wokd ok_lDec (h := ⟨[], []⟩) Tryz.func121 rfl (by decide) ?_ ?_
  · intro R xs k
    simp only [p_Div]
    split
    · exact cond_nat
    · rfl
  · intro xs r h
    simp only [p_Div] at h
    split at h
    · rename_i a sa b sb to
      rcases hb : (inI a && inI b) with _ | _ <;> rw [hb] at h
      · cases h
      · simp only [Bool.and_eq_true] at hb
        exact ⟨0, (div_raw a sa b sb to).trans ((div_all hb.1 hb.2).trans h)⟩
    · cases h

/-! ## comparing -/
def dcmp (a sa b sb : Int) : Int := bif scaleB sa && scaleB sb then cmpI (a * tenI sb) (b * tenI sa) else 0
def cmBody (a sa b sb : Int) : Option PV :=
  bif !(scaleB sa && scaleB sb) then some (.int .i64 0) else
  bif mulS a b then some (.int .i64 (cmpI a b)) else
  tm (sizeI a) (tenI sb) fun x => tm (sizeI b) (tenI sa) fun y =>
  bif decide (a < 0) then some (.int .i64 (IntKind.i64.wrap (0 - orC (cmpI (hiI x) (hiI y)) (cmpI (loI x) (loI y))))) else some (.int .i64 (orC (cmpI (hiI x) (hiI y)) (cmpI (loI x) (loI y))))
theorem cm_raw (a sa b sb : Int) : prun (en lDec) ⟨[], []⟩ 0 false Tryz.f114 [.int .i64 a, .int .i64 sa, .int .i64 b, .int .i64 sb] = cmBody a sa b sb := by kernel_rfl
theorem cm_body {a sa b sb : Int} (ha : inI a = true) (hb : inI b = true) : cmBody a sa b sb = some (.int .i64 (dcmp a sa b sb)) := by
  unfold cmBody dcmp
  cases hs : scaleB sa && scaleB sb
  · rfl
  · have hu := absI_u ha
    have hv := absI_u hb
    have t1 := tenI_le sb
    have t2 := tenI_le sa
    have g1 := mul_ten_lt (k := sb) hu
    have g2 := mul_ten_lt (k := sa) hv
    simp only [Bool.not_true, cond_false, cond_true, sizeI_abs ha, sizeI_abs hb]
    rw [tm_eq hu (tenI_u _), tm_eq hv (tenI_u _), or_cmp (loI_u _) (loI_u _), N2_W2 g1.1 g1.2, N2_W2 g2.1 g2.2]
    have neg : ∀ n : Int, n < 0 → absI n = -n := by intro n hn; unfold absI; omega
    have pos : ∀ n : Int, 0 ≤ n → absI n = n := by intro n hn; unfold absI; omega
    by_cases h1 : a < 0
    · have q1 : a * tenI sb < 0 := Int.mul_neg_of_neg_of_pos h1 (by omega)
      by_cases h2 : b < 0
      · unfold mulS
        rw [decide_eq_true h1, decide_eq_true h2]
        simp only [beq_self_eq_true, Bool.not_true, cond_true, cond_false]
        rw [neg a h1, neg b h2, Int.neg_mul, Int.neg_mul]
        have e : IntKind.i64.wrap (0 - cmpI (-(a * tenI sb)) (-(b * tenI sa))) = cmpI (a * tenI sb) (b * tenI sa) := by
          rcases cmpI_cases (a * tenI sb) (b * tenI sa) with ⟨k, e⟩ | ⟨k, e⟩ | ⟨k, e⟩
          · rw [e, cmpI_gt (by omega)]; decide
          · rw [e, k, cmpI_self]; decide
          · rw [e, cmpI_lt (by omega)]; decide
        rw [e]
      · have q2 : 0 ≤ b * tenI sa := Int.mul_nonneg (by omega) (by omega)
        unfold mulS
        rw [decide_eq_true h1, decide_eq_false h2]
        simp only [Bool.true_beq, Bool.not_false, cond_true]
        rw [cmpI_lt (by omega), cmpI_lt (by omega)]
    · have q1 : 0 ≤ a * tenI sb := Int.mul_nonneg (by omega) (by omega)
      by_cases h2 : b < 0
      · have q2 : b * tenI sa < 0 := Int.mul_neg_of_neg_of_pos h2 (by omega)
        unfold mulS
        rw [decide_eq_false h1, decide_eq_true h2]
        simp only [Bool.false_beq, Bool.not_true, Bool.not_false, cond_true]
        rw [cmpI_gt (by omega), cmpI_gt (by omega)]
      · unfold mulS
        rw [decide_eq_false h1, decide_eq_false h2]
        simp only [beq_self_eq_true, Bool.not_true, cond_false]
        rw [pos a (by omega), pos b (by omega)]
def p_Compare : PFn := ⟨fun xs k => match xs with | [.int .i64 a, .int .i64 sa, .int .i64 b, .int .i64 sb] => bif inI a && inI b then k (.int .i64 (dcmp a sa b sb)) else none | _ => none, false⟩
theorem ok_Compare : FOK NGd Wd 114 p_Compare := by
  refine fok wokd ok_lDec (h := ⟨[], []⟩) Tryz.func114 rfl (by decide) ?_ ?_
  · intro R xs k
    simp only [p_Compare]
    split
    · exact cond_nat
    · rfl
  · intro xs r h
    simp only [p_Compare] at h
    split at h
    · rename_i a sa b sb
      rcases hb : (inI a && inI b) with _ | _ <;> rw [hb] at h
      · cases h
      · simp only [Bool.and_eq_true] at hb
        exact ⟨0, (cm_raw a sa b sb).trans ((cm_body hb.1 hb.2).trans h)⟩
    · cases h

end Go.Proofs.YtelckbphbkebkaaGreatDoor
