/-
  Decimal: the document's answer: Round, Rescale, Mul, Div; the laws DecimalScales and DecimalTimes.
-/
import Derived.Test.YtdgoagnbpbehnaaDoorDy
set_option linter.unusedVariables false
set_option linter.unusedSimpArgs false
namespace Go.Proofs.YtdgoagnbpbehnaaDoor
open Go.RowKit

/-! ## Round -/
def hRound : Hints := ⟨[], [(2, ⟨[(0, false), (1, false), (5, false), (6, false), (7, false), (8, false)], []⟩), (0, ⟨[(0, false), (1, false), (5, false), (6, false), (7, false)], []⟩)]⟩
noncomputable def lRound : List (FuncId × PFn) := [(37, p_trim), (55, p_Cmp), (66, p_Minus), (51, p_Plus)]
theorem ok_lRound : AllOK NGd Wd lRound := allOK_cons ok_trim (allOK_cons ok_Cmp (allOK_cons ok_Minus (allOK_cons ok_Plus allOK_nil)))
def fq1 (n0 : Option Bool) (l0 : Nat) (c0 : List PV) (n1 : Option Bool) (l1 : Nat) (c1 : List PV) (n5 : Option Bool) (l5 : Nat) (c5 : List PV) (n6 : Option Bool) (l6 : Nat) (c6 : List PV) (i : Int) : St :=
  frame 49 [(0, (.sl n0 1 l0 c0, 0)), (1, (.sl n1 1 l1 c1, 0)), (5, (.sl n5 1 l5 c5, 0)), (6, (.sl n6 1 l6 c6, 0)), (7, (.int .i64 i, 0))] []
def fq2 (n0 : Option Bool) (l0 : Nat) (c0 : List PV) (n1 : Option Bool) (l1 : Nat) (c1 : List PV) (n5 : Option Bool) (l5 : Nat) (c5 : List PV) (n6 : Option Bool) (l6 : Nat) (c6 : List PV) (i d : Int) : St :=
  frame 49 [(0, (.sl n0 1 l0 c0, 0)), (1, (.sl n1 1 l1 c1, 0)), (5, (.sl n5 1 l5 c5, 0)), (6, (.sl n6 1 l6 c6, 0)), (7, (.int .i64 i, 0)), (8, (.int .i64 d, 0))] []
noncomputable def roundLoop (fu n : Nat) (st : St) : Option PV := loopF (en lRound) hRound fu false Tryd.f49 [1, 1, 0, 1, 0] 0 n st
noncomputable def roundIn (fu : Nat) (KL : St → Option PV) (n : Nat) (st : St) : Option PV := loopI (en lRound) hRound fu false Tryd.f49 [1, 1, 0, 1, 0, 0, 1, 0, 0, 1, 1, 0, 0] 2 KL n st
theorem rround_raw (fu : Nat) (n0 : Option Bool) (l0 : Nat) (c0 : List PV) (n1 : Option Bool) (l1 : Nat) (c1 : List PV) : prun (en lRound) hRound fu false Tryd.f49 [.sl n0 1 l0 c0, .sl n1 1 l1 c1] =
    roundLoop fu fu (fq1 n0 l0 c0 n1 l1 c1 (some true) 0 [] (some true) 0 [] (IntKind.i64.wrap ((l0 : Int) - 1))) := by kernel_rfl
theorem round_step (fu : Nat) (n0 : Option Bool) (l0 : Nat) (c0 : List PV) (n1 : Option Bool) (l1 : Nat) (c1 : List PV) (n5 : Option Bool) (l5 : Nat) (c5 : List PV) (n6 : Option Bool) (l6 : Nat) (c6 : List PV) (i : Int) (K : St → Option PV) :
    stepF (en lRound) hRound fu false Tryd.f49 [1, 1, 0, 1, 0] (fq1 n0 l0 c0 n1 l1 c1 n5 l5 c5 n6 l6 c6 i) (fun st => pnorm (hRound.loop.lookup 0) st K) =
    bif decide (0 ≤ i) then ixI l0 c0 i fun v => room 1 l6 (cutO (1 + l6) (PV.int .i64 v :: c6) fun R => roundIn fu (fun st => pnorm (hRound.loop.lookup 0) st K) fu (fq2 n0 l0 c0 n1 l1 c1 n5 l5 c5 ((some false).map (· && (l6 == 0))) (dlen R) (cellsN R) i 0))
    else cutO l5 c5 fun Q => plusO l6 c6 l6 c6 fun T => cmpO (dlen T) (cellsN T) l1 c1 fun z => bif decide (0 ≤ z) then plusO (dlen Q) (cellsN Q) 1 [.int .i64 1] fun W => some (.sl (some (W == 0)) 1 (dlen W) (cellsN W)) else some (.sl n5 1 (dlen Q) (cellsN Q)) := by kernel_rfl
theorem round_in (fu : Nat) (n0 : Option Bool) (l0 : Nat) (c0 : List PV) (n1 : Option Bool) (l1 : Nat) (c1 : List PV) (n5 : Option Bool) (l5 : Nat) (c5 : List PV) (n6 : Option Bool) (l6 : Nat) (c6 : List PV) (i d : Int) (K KO : St → Option PV) :
    stepI (en lRound) hRound fu false Tryd.f49 [1, 1, 0, 1, 0, 0, 1, 0, 0, 1, 1, 0, 0] (fun st => pnorm (hRound.loop.lookup 0) st KO) (fq2 n0 l0 c0 n1 l1 c1 n5 l5 c5 n6 l6 c6 i d) (fun st => pnorm (hRound.loop.lookup 2) st K) =
    cmpO l6 c6 l1 c1 fun z => bif decide (0 ≤ z) then minusO l6 c6 l1 c1 fun A N => K (fq2 n0 l0 c0 n1 l1 c1 n5 l5 c5 (some (dlen A == 0)) (dlen N) (cellsN N) i (IntKind.i64.wrap (d + 1)))
      else room 1 l5 (KO (fq1 n0 l0 c0 n1 l1 c1 ((some false).map (· && (l5 == 0))) (1 + l5) (PV.int .i64 d :: c5) n6 l6 c6 (IntKind.i64.wrap (i - 1)))) := by kernel_rfl
theorem cmp_ge {a b : Int} : (0 ≤ cmpI a b) ↔ b ≤ a := by
  rcases cmpI_cases a b with ⟨k, e⟩ | ⟨k, e⟩ | ⟨k, e⟩ <;> rw [e] <;> omega
theorem div_sub {R B : Nat} (hB : 0 < B) (h : B ≤ R) : R / B = (R - B) / B + 1 ∧ R % B = (R - B) % B :=
  ⟨Nat.div_eq_sub_div hB h, Nat.mod_eq_sub_mod h⟩
theorem round_inner (fu : Nat) (n0 : Option Bool) (l0 : Nat) (c0 : List PV) (n1 n5 : Option Bool) (l5 : Nat) (c5 : List PV) (i : Int) (hi : 0 ≤ i) (hi2 : i ≤ 1000) (hl5 : l5 ≤ 500) {B : Nat} (hB0 : 0 < B) (hB : dlen B ≤ 400) (KO : St → Option PV) (r : Option PV) : ∀ (m d n R : Nat) (n6 : Option Bool), R / B = m → m < n → d + m ≤ 1000 → dlen R ≤ 450 →
    (∀ n6', KO (fq1 n0 l0 c0 n1 (dlen B) (cellsN B) (some false) (1 + l5) (PV.int .i64 ((d + m : Nat) : Int) :: c5) n6' (dlen (R % B)) (cellsN (R % B)) (i - 1)) = r) →
    roundIn fu (fun st => pnorm (hRound.loop.lookup 0) st KO) n (fq2 n0 l0 c0 n1 (dlen B) (cellsN B) n5 l5 c5 n6 (dlen R) (cellsN R) i (d : Int)) = r
  | m, d, 0, R, n6, _, h, _, _, _ => by omega
  | 0, d, n + 1, R, n6, hm, hn, hd, hR, hK => by
    unfold roundIn
    have hlt : R < B := by
      rcases Nat.lt_or_ge R B with h | h
      · exact h
      · have := Nat.div_pos h hB0; omega
    rw [loopI_succ, round_in, cmpO_eq (by omega) (by omega), cond_f (decide_eq_false (by rw [cmp_ge]; omega)), room_eq (by omega), wrapI_of (by omega) (by omega)]
    have := hK n6
    rw [Nat.mod_eq_of_lt hlt, Nat.add_zero] at this
    exact this
  | m + 1, d, n + 1, R, n6, hm, hn, hd, hR, hK => by
    unfold roundIn
    have hge : B ≤ R := by
      rcases Nat.lt_or_ge R B with h | h
      · rw [Nat.div_eq_of_lt h] at hm; omega
      · exact h
    obtain ⟨e1, e2⟩ := div_sub hB0 hge
    rw [loopI_succ, round_in, cmpO_eq (by omega) (by omega), cond_t (decide_eq_true (by rw [cmp_ge]; omega)), minusO_eq (by omega) hge, wrapI_of (by omega) (by omega)]
    have ih := round_inner fu n0 l0 c0 n1 n5 l5 c5 i hi hi2 hl5 hB0 hB KO r m (d + 1) n (R - B) (some (dlen R == 0)) (by omega) (by omega) (by omega) (by have := dlen_mono (show R - B ≤ R by omega); omega)
      (by intro n6'; rw [← e2, show d + 1 + m = d + (m + 1) by omega]; exact hK n6')
    unfold roundIn at ih
    exact ih
def roundN (A B : Nat) : Nat := A / B + bif decide (B ≤ 2 * (A % B)) then 1 else 0
def roundF (A B : Nat) : Bool := bif decide (B ≤ 2 * (A % B)) then false else dlen A == 0
theorem next_digit {A B i : Nat} (hB : 0 < B) : A / 10 ^ i / B = 10 * (A / 10 ^ (i + 1) / B) + (A / 10 ^ i % 10 + 10 * (A / 10 ^ (i + 1) % B)) / B ∧ A / 10 ^ i % B = (A / 10 ^ i % 10 + 10 * (A / 10 ^ (i + 1) % B)) % B ∧ (A / 10 ^ i % 10 + 10 * (A / 10 ^ (i + 1) % B)) / B < 10 := by
  rw [div_div10]
  generalize A / 10 ^ i = x
  have h1 := Nat.div_add_mod (x / 10) B
  have h2 := Nat.mod_lt (x / 10) hB
  generalize x / 10 / B = q at *
  generalize x / 10 % B = r at *
  have e : x = (x % 10 + 10 * r) + B * (10 * q) := by
    have : x = 10 * (x / 10) + x % 10 := by omega
    rw [← h1] at this
    rw [Nat.mul_left_comm]
    omega
  refine ⟨?_, ?_, (Nat.div_lt_iff_lt_mul hB).2 (by omega)⟩
  · conv => lhs; rw [e]
    rw [Nat.add_mul_div_left _ _ hB]; omega
  · conv => lhs; rw [e]
    rw [Nat.add_mul_mod_self_left]
theorem dlen_one : dlen 1 = 1 := rfl
theorem cells_one : cellsN 1 = [PV.int .i64 1] := rfl
theorem cons_lt {d r : Nat} (h : d < 10) : d + 10 * r < 10 ^ (1 + dlen r) := by
  have := lt_pow_dlen r
  rw [Nat.add_comm 1, Nat.pow_succ]
  omega
theorem round_loop (fu : Nat) (hfu : 20 ≤ fu) {A B : Nat} (n0 n1 : Option Bool) (hA : dlen A ≤ 300) (hB0 : 0 < B) (hB : dlen B ≤ 300) : ∀ (i n : Nat) (n6 : Option Bool), i ≤ dlen A → i < n →
    roundLoop fu n (fq1 n0 (dlen A) (cellsN A) n1 (dlen B) (cellsN B) (some (dlen A - i == 0)) (dlen A - i) (cellsD (dg (dlen A - i) (A / 10 ^ i / B))) n6 (dlen (A / 10 ^ i % B)) (cellsN (A / 10 ^ i % B)) ((i : Int) - 1)) =
    some (.sl (some (roundF A B)) 1 (dlen (roundN A B)) (cellsN (roundN A B)))
  | i, 0, _, _, h => by omega
  | 0, n + 1, n6, hi, hn => by
    unfold roundLoop
    have hq : A / B < 10 ^ dlen A := Nat.lt_of_le_of_lt (Nat.div_le_self _ _) (lt_pow_dlen A)
    have hr : dlen (A % B) ≤ 300 := by have := dlen_mono (Nat.le_of_lt (Nat.mod_lt A hB0)); omega
    have hr2 := dlen_add hr hr
    have hqd := dlen_mono (Nat.div_le_self A B)
    have e1 := dlen_one
    have e2 := cells_one
    rw [loopF_succ, round_step, cond_f (by decide), Nat.pow_zero, Nat.div_one, Nat.sub_zero, cutO_eq hq (by omega), plusO_eq (by omega) (by omega), cmpO_eq (by omega) (by omega)]
    unfold roundF roundN
    by_cases h : B ≤ 2 * (A % B)
    · rw [cond_t (decide_eq_true (by rw [cmp_ge]; omega)), ← e1, ← e2, plusO_eq (by omega) (by decide), decide_eq_true h]
      rfl
    · rw [cond_f (decide_eq_false (by rw [cmp_ge]; omega)), decide_eq_false h]
      rfl
  | i + 1, n + 1, n6, hi, hn => by
    unfold roundLoop
    obtain ⟨f1, f2, f3⟩ := next_digit (A := A) (B := B) (i := i) hB0
    have hr : dlen (A / 10 ^ (i + 1) % B) ≤ 300 := by have := dlen_mono (Nat.le_of_lt (Nat.mod_lt (A / 10 ^ (i + 1)) hB0)); omega
    have hd : A / 10 ^ i % 10 < 10 := Nat.mod_lt _ (by decide)
    rw [loopF_succ, round_step, show ((i + 1 : Nat) : Int) - 1 = (i : Int) by omega, cond_t (decide_eq_true (by omega)), ixI_dgs (by omega) (by omega), Int.toNat_natCast, room_eq (by omega)]
    have ec : PV.int .i64 ((A / 10 ^ i % 10 : Nat) : Int) :: cellsN (A / 10 ^ (i + 1) % B) = cellsD (dg (1 + dlen (A / 10 ^ (i + 1) % B)) (A / 10 ^ i % 10 + 10 * (A / 10 ^ (i + 1) % B))) := by
      rw [Nat.add_comm 1, ← dg_cons _ _ _ hd]; rfl
    have hlt := cons_lt (r := A / 10 ^ (i + 1) % B) hd
    have hdl := (dlen_le _ _).2 hlt
    rw [ec, cutO_eq hlt (by omega)]
    refine round_inner fu n0 (dlen A) (cellsN A) n1 _ (dlen A - (i + 1)) (cellsD (dg (dlen A - (i + 1)) (A / 10 ^ (i + 1) / B))) (i : Int) (by omega) (by omega) (by omega) hB0 (by omega) _ _ _ 0 fu _ _ rfl (by omega) (by omega) (by omega) ?_
    intro n6'
    have ih := round_loop fu hfu n0 n1 hA hB0 hB i n n6' (by omega) (by omega)
    unfold roundLoop at ih
    rw [f1, f2] at ih
    rw [← ih, Nat.zero_add, show dlen A - i = (dlen A - (i + 1)) + 1 by omega, show 10 * (A / 10 ^ (i + 1) / B) + (A / 10 ^ i % 10 + 10 * (A / 10 ^ (i + 1) % B)) / B = (A / 10 ^ i % 10 + 10 * (A / 10 ^ (i + 1) % B)) / B + 10 * (A / 10 ^ (i + 1) / B) by omega, ← dg_cons _ _ _ f3, show 1 + (dlen A - (i + 1)) = dlen A - (i + 1) + 1 by omega]
    rfl
def p_RRound : PFn := ⟨fun xs k => match xs with | [.sl _ 1 l0 c0, .sl _ 1 l1 c1] => (decN l0 c0).bind fun A => (decN l1 c1).bind fun B => bif decide (dlen A ≤ 300) && (decide (dlen B ≤ 300) && decide (0 < B)) then k (.sl (some (roundF A B)) 1 (dlen (roundN A B)) (cellsN (roundN A B))) else none | _ => none, false⟩
theorem ok_RRound : FOK NGd Wd 49 p_RRound := by
  refine fok wokd ok_lRound (h := hRound) Tryd.func49 rfl (by decide) ?_ ?_
  · intro R xs k
    simp only [p_RRound]
    split
    · exact bind2_nat
    · rfl
  · intro xs r h
    simp only [p_RRound] at h
    split at h
    · rename_i n0 l0 c0 n1 l1 c1
      obtain ⟨A, B, h1, h2, hg, rfl⟩ := bind2_inv h
      obtain ⟨rfl, rfl⟩ := decN_inv h1
      obtain ⟨rfl, rfl⟩ := decN_inv h2
      simp only [Bool.and_eq_true, decide_eq_true_eq] at hg
      refine ⟨1000, (rround_raw 1000 n0 _ _ n1 _ _).trans ?_⟩
      have := round_loop 1000 (by decide) (A := A) (B := B) n0 n1 hg.1 hg.2.2 hg.2.1 (dlen A) 1000 (some true) (Nat.le_refl _) (by omega)
      rw [div0.2 (Nat.le_refl _), Nat.zero_mod, Nat.sub_self] at this
      rw [wrapI_of (by omega) (by omega)]
      exact this
    · cases h
end Go.Proofs.YtdgoagnbpbehnaaDoor
