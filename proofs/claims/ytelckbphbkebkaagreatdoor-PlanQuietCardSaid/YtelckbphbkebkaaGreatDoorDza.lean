/-
  Decimal: the document's answer: Rescale, Mul, Div; the laws DecimalScales and DecimalTimes.
-/
import Derived.Test.YtelckbphbkebkaaGreatDoorDmid
set_option linter.unusedVariables false
set_option linter.unusedSimpArgs false
namespace Go.Proofs.YtelckbphbkebkaaGreatDoor
open Go.RowKit

def roundO {R : Type} (l0 : Nat) (c0 : List PV) (l1 : Nat) (c1 : List PV) (k : Bool → Nat → Option R) : Option R := (decN l0 c0).bind fun A => (decN l1 c1).bind fun B => bif decide (dlen A ≤ 300) && (decide (dlen B ≤ 300) && decide (0 < B)) then k (roundF A B) (roundN A B) else none
theorem roundO_eq {R : Type} {A B : Nat} {k : Bool → Nat → Option R} (hA : dlen A ≤ 300) (hB : dlen B ≤ 300) (h : 0 < B) : roundO (dlen A) (cellsN A) (dlen B) (cellsN B) k = k (roundF A B) (roundN A B) := by
  unfold roundO
  rw [decN_big, decN_big]
  exact cond_t (by rw [decide_eq_true hA, decide_eq_true hB, decide_eq_true h]; rfl)
def timesO {R : Type} (l0 : Nat) (c0 : List PV) (l1 : Nat) (c1 : List PV) (k : Nat → Option R) : Option R := (decN l0 c0).bind fun A => (decN l1 c1).bind fun B => bif decide (dlen A ≤ 100) && decide (dlen B ≤ 100) then k (A * B) else none
theorem timesO_eq {R : Type} {A B : Nat} {k : Nat → Option R} (hA : dlen A ≤ 100) (hB : dlen B ≤ 100) : timesO (dlen A) (cellsN A) (dlen B) (cellsN B) k = k (A * B) := by
  unfold timesO
  rw [decN_big, decN_big]
  exact cond_t (by rw [decide_eq_true hA, decide_eq_true hB]; rfl)
theorem roundN_cast (A B : Nat) : ((roundN A B : Nat) : Int) = roundI A B := by
  unfold roundN roundI
  rw [← Int.natCast_ediv, ← Int.natCast_emod]
  have e : decide ((B : Int) ≤ 2 * ((A % B : Nat) : Int)) = decide (B ≤ 2 * (A % B)) := by
    congr 1; simp only [eq_iff_iff]; omega
  rw [e]
  cases decide (B ≤ 2 * (A % B)) <;> rfl
theorem roundN_scale {A B t : Nat} (ht : 0 < t) : roundN (A * t) (B * t) = roundN A B := by
  unfold roundN
  rw [Nat.mul_div_mul_right A B ht, Nat.mul_mod_mul_right]
  have e : decide (B * t ≤ 2 * (A % B * t)) = decide (B ≤ 2 * (A % B)) := by
    congr 1; simp only [eq_iff_iff]
    rw [← Nat.mul_assoc]
    exact Nat.mul_le_mul_right_iff ht
  rw [e]
theorem roundN_one (A : Nat) : roundN A 1 = A := by unfold roundN; rw [Nat.mod_one, Nat.div_one]; rfl
theorem roundN_le (A B : Nat) : roundN A B ≤ A + 1 := by
  unfold roundN
  have := Nat.div_le_self A B
  cases decide (B ≤ 2 * (A % B)) <;> simp only [cond_true, cond_false] <;> omega
theorem dlen_round {A B k : Nat} (h : dlen A ≤ k) : dlen (roundN A B) ≤ k + 1 := by
  have h1 := dlen_mono (roundN_le A B)
  have h2 := dlen_add (A := A) (B := 1) (k := k + 1) (by omega) (by rw [dlen_one]; omega)
  refine (dlen_le _ _).2 ?_
  have := (dlen_le _ _).1 h
  have := roundN_le A B
  rw [Nat.pow_succ]
  have hp : 0 < 10 ^ k := Nat.pow_pos (by decide)
  omega
theorem dlen_pow {k : Nat} : dlen (1 * 10 ^ k) ≤ k + 1 := by
  have := dlen_shift_le (A := 1) (k := k) (m := 1) (by decide)
  omega
theorem shift1 {R : Type} {j : Int} {k : Nat → Option R} (h0 : 0 ≤ j) (h1 : j ≤ 100) : shiftO 1 [PV.int .i64 1] j k = k (1 * 10 ^ j.toNat) := by
  have := shiftO_eq (A := 1) (j := j) (k := k) (by decide) h0 h1
  rw [dlen_one, cells_one] at this
  exact this
noncomputable def lRR : List (FuncId × PFn) := [(101, p_Of), (135, p_Shift), (136, p_RTimes), (137, p_RRound), (99, p_answer), (129, p_Scale)]
theorem ok_lRR : AllOK NGd Wd lRR := allOK_cons ok_Of (allOK_cons ok_Shift (allOK_cons ok_RTimes (allOK_cons ok_RRound (allOK_cons ok_answer (allOK_cons ok_Scale allOK_nil)))))

/-! ## Rescale -/
def bad2 : Option PV := some (.tuple [.int .i64 0, .int .i64 2])
def rrBody (n f t : Int) : Option PV :=
  bif !!scaleB f then bif !scaleB t then bad2 else
    bif decide (f ≤ t) then bif inI n then shiftO (dlen n.natAbs) (cellsN n.natAbs) (IntKind.i64.wrap (t - f)) fun S => ansO (dlen S) (cellsN S) (decide (n < 0)) else none
    else bif inI n then shiftO 1 [.int .i64 1] (IntKind.i64.wrap (f - t)) fun T => roundO (dlen n.natAbs) (cellsN n.natAbs) (dlen T) (cellsN T) fun _ V => ansO (dlen V) (cellsN V) (decide (n < 0)) else none
  else bad2
theorem rr_raw (n f t : Int) : prun (en lRR) ⟨[], []⟩ 0 false Tryz.f107 [.int .i64 n, .int .i64 f, .int .i64 t] = rrBody n f t := by kernel_rfl
theorem absI_cast (n : Int) : absI n = (n.natAbs : Int) := rfl
theorem rr_body {n f t : Int} (hn : inI n = true) : rrBody n f t = some (.tuple [.int .i64 (scaV n f t), .int .i64 (scaE n f t)]) := by
  unfold rrBody scaV scaE
  cases h1 : scaleB f
  · rfl
  · cases h2 : scaleB t
    · rfl
    · rw [scaleB_iff] at h1 h2
      have hd := dlen_abs hn
      simp only [Bool.not_true, Bool.not_false, cond_true, cond_false, Bool.and_self, scaN, hn]
      by_cases h : f ≤ t
      · rw [decide_eq_true h, cond_true, cond_true, wrapI_of (by omega) (by omega), shiftO_eq (by omega) (by omega) (by omega), ansO_eq (by have := dlen_shift_le (k := (t - f).toNat) hd; omega), Int.natCast_mul, ← tenI_pow (by omega) (by omega)]
        rfl
      · rw [decide_eq_false h, cond_false, cond_false, wrapI_of (by omega) (by omega), shift1 (by omega) (by omega)]
        have hp := dlen_pow (k := (f - t).toNat)
        rw [roundO_eq (by omega) (by omega) (by have := Nat.pow_pos (a := 10) (n := (f - t).toNat) (by decide); omega), ansO_eq (by have := dlen_round (B := 1 * 10 ^ (f - t).toNat) hd; omega), roundN_cast, Nat.one_mul, ← tenI_pow (by omega) (by omega)]
        rfl
def p_RRescale : PFn := ⟨fun xs k => match xs with | [.int .i64 n, .int .i64 f, .int .i64 t] => bif inI n then k (.tuple [.int .i64 (scaV n f t), .int .i64 (scaE n f t)]) else none | _ => none, false⟩
theorem ok_RRescale : FOK NGd Wd 107 p_RRescale := by
  refine fok wokd ok_lRR (h := ⟨[], []⟩) Tryz.func107 rfl (by decide) ?_ ?_
  · intro R xs k
    simp only [p_RRescale]
    split
    · exact cond_nat
    · rfl
  · intro xs r h
    simp only [p_RRescale] at h
    split at h
    · rename_i n f t
      rcases hb : inI n with _ | _ <;> rw [hb] at h
      · cases h
      · exact ⟨0, (rr_raw n f t).trans ((rr_body hb).trans h)⟩
    · cases h

/-! ## Mul -/
def rmBody (a sa b sb to : Int) : Option PV :=
  bif !!scaleB sa then bif !!scaleB sb then bif !scaleB to then bad2 else
    bif inI a then bif inI b then timesO (dlen a.natAbs) (cellsN a.natAbs) (dlen b.natAbs) (cellsN b.natAbs) fun P => shiftO (dlen P) (cellsN P) to fun S => shiftO 1 [.int .i64 1] (IntKind.i64.wrap (sa + sb)) fun T =>
      roundO (dlen S) (cellsN S) (dlen T) (cellsN T) fun _ V => ansO (dlen V) (cellsN V) (mulS a b) else none else none
  else bad2 else bad2
theorem rm_raw (a sa b sb to : Int) : prun (en lRR) ⟨[], []⟩ 0 false Tryz.f105 [.int .i64 a, .int .i64 sa, .int .i64 b, .int .i64 sb, .int .i64 to] = rmBody a sa b sb to := by kernel_rfl
theorem ten_split {x y z : Int} (hx : 0 ≤ x) (hy : 0 ≤ y) (hz : z = x + y) : 10 ^ z.toNat = 10 ^ x.toNat * 10 ^ y.toNat := by rw [← Nat.pow_add, show z.toNat = x.toNat + y.toNat by omega]
theorem mulN_nat {a sa b sb to : Int} (h1 : 0 ≤ sa ∧ sa ≤ 6) (h2 : 0 ≤ sb ∧ sb ≤ 6) (h3 : 0 ≤ to ∧ to ≤ 6) : ((roundN (a.natAbs * b.natAbs * 10 ^ to.toNat) (1 * 10 ^ (sa + sb).toNat) : Nat) : Int) = mulN a sa b sb to := by
  unfold mulN
  by_cases h : 0 < sa + sb - to
  · rw [decide_eq_true h, cond_true, ten_split (x := sa + sb - to) (y := to) (z := sa + sb) (by omega) (by omega) (by omega), ← Nat.mul_assoc, roundN_scale (Nat.pow_pos (by decide)), roundN_cast, Nat.one_mul, ← tenI_pow (by omega) (by omega), Int.natCast_mul]
    rfl
  · rw [decide_eq_false h, cond_false, ten_split (x := to - sa - sb) (y := sa + sb) (z := to) (by omega) (by omega) (by omega), ← Nat.mul_assoc, roundN_scale (Nat.pow_pos (by decide)), roundN_one, Int.natCast_mul, Int.natCast_mul, ← tenI_pow (by omega) (by omega)]
    rfl
theorem pow_pos1 (k : Nat) : 0 < 1 * 10 ^ k := by have := Nat.pow_pos (a := 10) (n := k) (by decide); omega
theorem rm_body {a sa b sb to : Int} (ha : inI a = true) (hb : inI b = true) : rmBody a sa b sb to = some (.tuple [.int .i64 (mulV a sa b sb to), .int .i64 (mulE a sa b sb to)]) := by
  unfold rmBody mulV mulE
  cases h1 : scaleB sa
  · rfl
  · cases h2 : scaleB sb
    · rfl
    · cases h3 : scaleB to
      · rfl
      · rw [scaleB_iff] at h1 h2 h3
        have hd := dlen_abs ha
        have he := dlen_abs hb
        have hm := dlen_mul hd he
        have hs := dlen_shift_le (k := to.toNat) hm
        have hp := dlen_pow (k := (sa + sb).toNat)
        simp only [Bool.not_true, Bool.not_false, cond_true, cond_false, Bool.and_self, ha, hb]
        rw [timesO_eq (by omega) (by omega), shiftO_eq (by omega) (by omega) (by omega), wrapI_of (by omega) (by omega), shift1 (by omega) (by omega), roundO_eq (by omega) (by omega) (pow_pos1 _), ansO_eq (by have := dlen_round (B := 1 * 10 ^ (sa + sb).toNat) hs; omega), mulN_nat h1 h2 h3]
        rfl
def p_RMul : PFn := ⟨fun xs k => match xs with | [.int .i64 a, .int .i64 sa, .int .i64 b, .int .i64 sb, .int .i64 to] => bif inI a && inI b then k (.tuple [.int .i64 (mulV a sa b sb to), .int .i64 (mulE a sa b sb to)]) else none | _ => none, false⟩
theorem ok_RMul : FOK NGd Wd 105 p_RMul := by
  refine fok wokd ok_lRR (h := ⟨[], []⟩) Tryz.func105 rfl (by decide) ?_ ?_
  · intro R xs k
    simp only [p_RMul]
    split
    · exact cond_nat
    · rfl
  · intro xs r h
    simp only [p_RMul] at h
    split at h
    · rename_i a sa b sb to
      rcases hb : (inI a && inI b) with _ | _ <;> rw [hb] at h
      · cases h
      · simp only [Bool.and_eq_true] at hb
        exact ⟨0, (rm_raw a sa b sb to).trans ((rm_body hb.1 hb.2).trans h)⟩
    · cases h

/-! ## Div -/
def rdBody (a sa b sb to : Int) : Option PV :=
  bif !!scaleB sa then bif !!scaleB sb then bif !scaleB to then bad2 else
    bif b == 0 then some (.tuple [.int .i64 0, .int .i64 21]) else
    bif inI a then shiftO (dlen a.natAbs) (cellsN a.natAbs) (IntKind.i64.wrap (sb + to)) fun S => bif inI b then shiftO (dlen b.natAbs) (cellsN b.natAbs) sa fun T =>
      roundO (dlen S) (cellsN S) (dlen T) (cellsN T) fun _ V => ansO (dlen V) (cellsN V) (mulS a b) else none else none
  else bad2 else bad2
theorem rd_raw (a sa b sb to : Int) : prun (en lRR) ⟨[], []⟩ 0 false Tryz.f106 [.int .i64 a, .int .i64 sa, .int .i64 b, .int .i64 sb, .int .i64 to] = rdBody a sa b sb to := by kernel_rfl
theorem divN_nat {a sa b sb to : Int} (h1 : 0 ≤ sa ∧ sa ≤ 6) (h2 : 0 ≤ sb ∧ sb ≤ 6) (h3 : 0 ≤ to ∧ to ≤ 6) : ((roundN (a.natAbs * 10 ^ (sb + to).toNat) (b.natAbs * 10 ^ sa.toNat) : Nat) : Int) = divN a sa b sb to := by
  unfold divN
  by_cases h : 0 ≤ sb + to - sa
  · rw [decide_eq_true h, cond_true, ten_split (x := sb + to - sa) (y := sa) (z := sb + to) (by omega) (by omega) (by omega), ← Nat.mul_assoc, roundN_scale (Nat.pow_pos (by decide)), roundN_cast, Int.natCast_mul, ← tenI_pow (by omega) (by omega)]
    rfl
  · rw [decide_eq_false h, cond_false, ten_split (x := sa - sb - to) (y := sb + to) (z := sa) (by omega) (by omega) (by omega), ← Nat.mul_assoc, roundN_scale (Nat.pow_pos (by decide)), roundN_cast, Int.natCast_mul, ← tenI_pow (by omega) (by omega)]
    rfl
theorem rd_body {a sa b sb to : Int} (ha : inI a = true) (hb : inI b = true) : rdBody a sa b sb to = some (.tuple [.int .i64 (divV a sa b sb to), .int .i64 (divE a sa b sb to)]) := by
  unfold rdBody divV divE
  cases h1 : scaleB sa
  · rfl
  · cases h2 : scaleB sb
    · rfl
    · cases h3 : scaleB to
      · rfl
      · rw [scaleB_iff] at h1 h2 h3
        have hd := dlen_abs ha
        have he := dlen_abs hb
        have hs := dlen_shift_le (k := (sb + to).toNat) hd
        have ht := dlen_shift_le (k := sa.toNat) he
        simp only [Bool.not_true, Bool.not_false, cond_true, cond_false, Bool.and_self, ha, hb]
        cases hz : b == 0
        · have hz' : b ≠ 0 := by simpa using hz
          have hpos : 0 < b.natAbs * 10 ^ sa.toNat := Nat.mul_pos (by omega) (Nat.pow_pos (by decide))
          simp only [cond_false]
          rw [wrapI_of (by omega) (by omega), shiftO_eq (by omega) (by omega) (by omega), shiftO_eq (by omega) (by omega) (by omega), roundO_eq (by omega) (by omega) hpos, ansO_eq (by have := dlen_round (B := b.natAbs * 10 ^ sa.toNat) hs; omega), divN_nat h1 h2 h3]
          rfl
        · rfl
def p_RDiv : PFn := ⟨fun xs k => match xs with | [.int .i64 a, .int .i64 sa, .int .i64 b, .int .i64 sb, .int .i64 to] => bif inI a && inI b then k (.tuple [.int .i64 (divV a sa b sb to), .int .i64 (divE a sa b sb to)]) else none | _ => none, false⟩
theorem ok_RDiv : FOK NGd Wd 106 p_RDiv := by
  refine fok wokd ok_lRR (h := ⟨[], []⟩) Tryz.func106 rfl (by decide) ?_ ?_
  · intro R xs k
    simp only [p_RDiv]
    split
    · exact cond_nat
    · rfl
  · intro xs r h
    simp only [p_RDiv] at h
    split at h
    · rename_i a sa b sb to
      rcases hb : (inI a && inI b) with _ | _ <;> rw [hb] at h
      · cases h
      · simp only [Bool.and_eq_true] at hb
        exact ⟨0, (rd_raw a sa b sb to).trans ((rd_body hb.1 hb.2).trans h)⟩
    · cases h

def scBody (n f t : Int) : Option PV :=
  bif inI n then bif inI n then
    bif !(scaV n f t == scaV n f t) || !(scaE n f t == scaE n f t) then some (.bool false) else
    bif !(scaE n f t == 0) || decide (t < f) then some (.bool true) else
    bif inI (scaV n f t) then some (.bool (scaE (scaV n f t) t f == 0 && scaV (scaV n f t) t f == n)) else none
  else none else none
theorem sc_body {n f t : Int} (hn : inI n = true) : scBody n f t = some (.bool true) := by
  unfold scBody
  rw [hn, scaV_in]
  simp only [cond_true, beq_self_eq_true, Bool.not_true, Bool.or_self, cond_false]
  cases he : scaE n f t == 0
  · rfl
  · by_cases h : t < f
    · rw [decide_eq_true h]; rfl
    · rw [decide_eq_false h]
      simp only [Bool.not_true, Bool.or_self, cond_false, Option.some.injEq, PV.bool.injEq]
      obtain ⟨s1, s2, v⟩ := sca_fine (by simpa using he)
      rw [sca_up (by omega)] at v
      have hk := tenI_le (t - f)
      have back : sgn (scaN (scaV n f t) t f) (decide (scaV n f t < 0)) = n := by
        unfold scaN
        by_cases e : t ≤ f
        · have : t = f := by omega
          subst this
          rw [decide_eq_true (Int.le_refl t), cond_true, v, Int.sub_self, tenI_0, Int.mul_one, Int.mul_one]
          unfold sgn absI
          by_cases k : n < 0
          · rw [decide_eq_true k, cond_true]; omega
          · rw [decide_eq_false k, cond_false]; omega
        · rw [decide_eq_false e, cond_false, v]
          have ex : ∀ x : Int, 0 ≤ x → roundI (x * tenI (t - f)) (tenI (t - f)) = x := by
            intro x hx
            unfold roundI
            rw [Int.mul_emod_left, Int.mul_ediv_cancel _ (by omega), decide_eq_false (by omega)]
            simp
          unfold sgn
          by_cases k : n < 0
          · have : n * tenI (t - f) < 0 := Int.mul_neg_of_neg_of_pos k (by omega)
            rw [decide_eq_true this, cond_true, show absI (n * tenI (t - f)) = -n * tenI (t - f) by rw [Int.neg_mul]; unfold absI; omega, ex (-n) (by omega)]
            omega
          · have : 0 ≤ n * tenI (t - f) := Int.mul_nonneg (by omega) (by omega)
            rw [decide_eq_false (by omega), cond_false, show absI (n * tenI (t - f)) = n * tenI (t - f) by unfold absI; omega, ex n (by omega)]
      have ho : over64 n = false := by
        rw [inI_iff] at hn
        unfold over64
        rw [decide_eq_false (by omega), decide_eq_false (by omega)]; rfl
      have e1 : scaE (scaV n f t) t f = 0 := by unfold scaE; rw [s1, s2, back]; unfold ansE; rw [ho]; rfl
      have e2 : ∀ m, sgn (scaN m t f) (decide (m < 0)) = n → scaV m t f = n := by
        intro m hm
        unfold scaV
        rw [s1, s2, hm]
        unfold ansV
        rw [ho]; rfl
      rw [e1, e2 _ back]
      simp
end Go.Proofs.YtelckbphbkebkaaGreatDoor
