/-
  Decimal: the document's answer: trim, Minus.
-/
import Derived.Test.YtdgoagnbpbehnaaDoorDu
set_option linter.unusedVariables false
set_option linter.unusedSimpArgs false
namespace Go.Proofs.YtdgoagnbpbehnaaDoor
open Go.RowKit

theorem small0 {q : Nat} (h : q < 10) (k : q % 10 = 0) : q = 0 := by omega
/-! ## trim -/
def hTrim : Hints := ⟨[], [(0, ⟨[(0, false)], []⟩)]⟩
def frTrim (n0 : Option Bool) (l0 : Nat) (c0 : List PV) : St := frame 21 [(0, (.sl n0 1 l0 c0, 0))] []
noncomputable def trimLoop (fu n : Nat) (st : St) : Option PV := loopF (en []) hTrim fu false Tryd.f37 [1, 0, 0] 0 n st
theorem trim_raw (fu : Nat) (n0 : Option Bool) (l0 : Nat) (c0 : List PV) : prun (en []) hTrim fu false Tryd.f37 [.sl n0 1 l0 c0] = trimLoop fu fu (frTrim n0 l0 c0) := by kernel_rfl
def trimBody (n0 : Option Bool) (l0 : Nat) (c0 : List PV) (G : Nat → List PV → Option PV) : Option PV :=
  bif decide (0 < (l0 : Int)) then ixI l0 c0 (IntKind.i64.wrap ((l0 : Int) - 1)) fun v =>
    bif v == 0 then bif decide (0 ≤ IntKind.i64.wrap ((l0 : Int) - 1)) && decide (IntKind.i64.wrap ((l0 : Int) - 1) ≤ (l0 : Int)) then G ((IntKind.i64.wrap ((l0 : Int) - 1)).toNat - 0) ((c0.take ((IntKind.i64.wrap ((l0 : Int) - 1)).toNat * 1)).drop (0 * 1)) else none
    else some (.sl n0 1 l0 c0)
  else some (.sl n0 1 l0 c0)
theorem trim_step (fu : Nat) (n0 : Option Bool) (l0 : Nat) (c0 : List PV) (K : St → Option PV) :
    stepF (en []) hTrim fu false Tryd.f37 [1, 0, 0] (frTrim n0 l0 c0) (fun st => pnorm (hTrim.loop.lookup 0) st K) = trimBody n0 l0 c0 (fun l c => K (frTrim n0 l c)) := by kernel_rfl
theorem trim_loop (fu : Nat) (n0 : Option Bool) (N : Nat) : ∀ (k n : Nat), N < 10 ^ k → k < n → k ≤ 900 → trimLoop fu n (frTrim n0 k (cellsD (dg k N))) = some (.sl n0 1 (dlen N) (cellsN N))
  | k, 0, _, h, _ => by omega
  | 0, n + 1, h, _, _ => by
    have h0 : N = 0 := by simp at h; exact h
    subst h0
    unfold trimLoop
    rw [loopF_succ, trim_step, trimBody, cond_f (by decide)]
    rfl
  | k + 1, n + 1, h, hn, hb => by
    unfold trimLoop
    rw [loopF_succ, trim_step, trimBody, wrapI_of (by omega) (by omega), show ((k + 1 : Nat) : Int) - 1 = (k : Int) by omega, cond_t (decide_eq_true (by omega)), ixI_eq (d := N / 10 ^ k % 10) (by omega) (by omega) (dg_get _ _ _ (by omega))]
    have hlt : N / 10 ^ k < 10 := (Nat.div_lt_iff_lt_mul (Nat.pow_pos (by decide))).2 (by rw [Nat.pow_succ] at h; omega)
    by_cases hz : N / 10 ^ k % 10 = 0
    · have h0 : N / 10 ^ k = 0 := small0 hlt hz
      have hN : N < 10 ^ k := (dlen_le _ _).1 (div0.1 h0)
      rw [hz, cond_t (by decide), cond_t (by rw [decide_eq_true (by omega), decide_eq_true (by omega)]; rfl)]
      have ih := trim_loop fu n0 N k n hN (by omega) (by omega)
      unfold trimLoop at ih
      have e : ((cellsD (dg (k + 1) N)).take ((k : Int).toNat * 1)).drop (0 * 1) = cellsD (dg k N) := by
        simp only [Int.toNat_natCast, Nat.mul_one, List.drop_zero, cellsD]
        rw [← List.map_take, dg_take]
      rw [e]
      exact ih
    · rw [cond_f (by simp only [beq_eq_false_iff_ne]; omega)]
      have h1 : dlen N = k + 1 := by
        have a := (dlen_le (k + 1) N).2 h
        have b : ¬ dlen N ≤ k := fun q => hz (by rw [div0.2 q])
        omega
      unfold cellsN dgs
      rw [h1]
def p_trim : PFn := ⟨fun xs k => match xs with | [.sl n0 1 l0 c0] => (natC c0).bind fun N => bif l0 == c0.length && decide (l0 ≤ 600) then k (.sl n0 1 (dlen N) (cellsN N)) else none | _ => none, false⟩
theorem ok_trim : FOK NGd Wd 37 p_trim := by
  refine fok wokd allOK_nil (h := hTrim) Tryd.func37 rfl (by decide) ?_ ?_
  · intro R xs k
    simp only [p_trim]
    split
    · exact bind1_nat
    · rfl
  · intro xs r h
    simp only [p_trim] at h
    split at h
    · rename_i n0 l0 c0
      obtain ⟨N, h1, hg, rfl⟩ := bind1_inv h
      simp only [Bool.and_eq_true, beq_iff_eq, decide_eq_true_eq] at hg
      obtain ⟨e1, e2⟩ := natC_inv h1
      refine ⟨1000, (trim_raw 1000 n0 l0 c0).trans ?_⟩
      rw [← hg.1] at e1 e2
      have := trim_loop 1000 n0 N l0 1000 e2 (by omega) (by omega)
      rw [← e1] at this
      exact this
    · cases h
/-- what trim yields of cells -/
def cutO {R : Type} (l0 : Nat) (c0 : List PV) (k : Nat → Option R) : Option R := (natC c0).bind fun N => bif l0 == c0.length && decide (l0 ≤ 600) then k N else none
theorem cutO_eq {R : Type} {l N : Nat} {k : Nat → Option R} (h : N < 10 ^ l) (hl : l ≤ 600) : cutO l (cellsD (dg l N)) k = k N := by
  unfold cutO
  rw [natC_dg, Nat.mod_eq_of_lt h]
  exact cond_t (by simp [cellsD, dg_len, hl])

/-! ## Minus -/
def hMinus : Hints := ⟨[], [(0, ⟨[(0, false), (1, false), (5, true), (6, false), (7, false)], []⟩)]⟩
def frMinus (n0 : Option Bool) (l0 : Nat) (c0 : List PV) (n1 : Option Bool) (l1 : Nat) (c1 : List PV) (nl : Option Bool) (l : Nat) (c : List PV) (s i : Int) : St :=
  frame 41 [(0, (.sl n0 1 l0 c0, 0)), (1, (.sl n1 1 l1 c1, 0)), (5, (.sl nl 1 l c, 48)), (6, (.int .i64 s, 0)), (7, (.int .i64 i, 0))] []
noncomputable def lMinus : List (FuncId × PFn) := [(37, p_trim)]
noncomputable def minusLoop (fu n : Nat) (st : St) : Option PV := loopF (en lMinus) hMinus fu false Tryd.f66 [1, 1, 1, 0, 1, 0] 0 n st
theorem minus_raw (fu : Nat) (n0 : Option Bool) (l0 : Nat) (c0 : List PV) (n1 : Option Bool) (l1 : Nat) (c1 : List PV) : prun (en lMinus) hMinus fu false Tryd.f66 [.sl n0 1 l0 c0, .sl n1 1 l1 c1] =
    minusLoop fu fu (frMinus n0 l0 c0 n1 l1 c1 (some true) 0 [] 0 0) := by kernel_rfl
def minusE (nl : Option Bool) (l : Nat) (c : List PV) (i : Int) (G : Option Bool → Nat → List PV → Int → Int → Option PV) (d : Int) : Option PV :=
  bif decide (d < 0) then room l 1 (G (nl.map (· && false)) (l + 1) (c ++ [.int .i64 (IntKind.i64.wrap (d + 10))]) 1 (IntKind.i64.wrap (i + 1)))
  else room l 1 (G (nl.map (· && false)) (l + 1) (c ++ [.int .i64 d]) 0 (IntKind.i64.wrap (i + 1)))
def minusBody (l0 : Nat) (c0 : List PV) (l1 : Nat) (c1 : List PV) (nl : Option Bool) (l : Nat) (c : List PV) (s i : Int) (G : Option Bool → Nat → List PV → Int → Int → Option PV) : Option PV :=
  bif decide (i < (l0 : Int)) then ixI l0 c0 i fun a => bif decide (i < (l1 : Int)) then ixI l1 c1 i fun b => minusE nl l c i G (IntKind.i64.wrap (IntKind.i64.wrap (a - s) - b)) else minusE nl l c i G (IntKind.i64.wrap (a - s))
  else cutO l c fun N => some (.sl nl 1 (dlen N) (cellsN N))
theorem minus_step (fu : Nat) (n0 : Option Bool) (l0 : Nat) (c0 : List PV) (n1 : Option Bool) (l1 : Nat) (c1 : List PV) (nl : Option Bool) (l : Nat) (c : List PV) (s i : Int) (K : St → Option PV) :
    stepF (en lMinus) hMinus fu false Tryd.f66 [1, 1, 1, 0, 1, 0] (frMinus n0 l0 c0 n1 l1 c1 nl l c s i) (fun st => pnorm (hMinus.loop.lookup 0) st K) =
    minusBody l0 c0 l1 c1 nl l c s i (fun a b d e f => K (frMinus n0 l0 c0 n1 l1 c1 a b d e f)) := by kernel_rfl
theorem minus_w {B i : Nat} {a s : Int} (ha : 0 ≤ a) (ha2 : a ≤ 1000) (hs : 0 ≤ s) (hs2 : s ≤ 1000) (E : Int → Option PV) :
    (bif decide ((i : Int) < (dlen B : Int)) then ixI (dlen B) (cellsN B) (i : Int) fun b => E (IntKind.i64.wrap (IntKind.i64.wrap (a - s) - b)) else E (IntKind.i64.wrap (a - s))) = E (a - s - ((B / 10 ^ i % 10 : Nat) : Int)) := by
  by_cases kb : (i : Int) < (dlen B : Int)
  · rw [cond_t (decide_eq_true kb), ixI_dgs (by omega) kb, Int.toNat_natCast, wrapI_of (x := a - s) (by omega) (by omega), wrapI_of (by omega) (by omega)]
  · rw [cond_f (decide_eq_false kb), show B / 10 ^ i = 0 from div0.2 (by omega), wrapI_of (by omega) (by omega)]
    simp
theorem minus_loop (fu : Nat) {A B D : Nat} (hD : A = B + D) (n0 n1 : Option Bool) (hA : dlen A ≤ 500) : ∀ (m i n : Nat), i + m = dlen A → m < n →
    minusLoop fu n (frMinus n0 (dlen A) (cellsN A) n1 (dlen B) (cellsN B) (some (i == 0)) i (cellsD (dg i D)) ((A / 10 ^ i - B / 10 ^ i - D / 10 ^ i : Nat) : Int) (i : Int)) = some (.sl (some (dlen A == 0)) 1 (dlen D) (cellsN D))
  | m, i, 0, _, h => by omega
  | m, i, n + 1, hi, hn => by
    have hc := carry (A := B) (B := D) i
    rw [← hD] at hc
    unfold minusLoop
    rw [loopF_succ, minus_step, minusBody]
    by_cases hm : m = 0
    · subst hm
      have e : i = dlen A := by omega
      subst e
      rw [cond_f (decide_eq_false (by omega)), cutO_eq (Nat.lt_of_le_of_lt (by omega) (lt_pow_dlen A)) (by omega)]
    · have hs : A / 10 ^ i - B / 10 ^ i - D / 10 ^ i ≤ 1 := by omega
      rw [cond_t (decide_eq_true (by omega)), ixI_dgs (by omega) (by omega), Int.toNat_natCast, minus_w (by omega) (by omega) (by omega) (by omega)]
      have ih := minus_loop fu hD n0 n1 hA (m - 1) (i + 1) n (by omega) (by omega)
      unfold minusLoop at ih
      have d1 := div_div10 A i
      have d2 := div_div10 B i
      have d3 := div_div10 D i
      have e1 : ∀ y : Int, y = ((D / 10 ^ i % 10 : Nat) : Int) → cellsD (dg i D) ++ [PV.int .i64 y] = cellsD (dg (i + 1) D) := by
        intro y hy
        rw [hy, dg_snoc]; simp [cellsD, cellD]
      generalize A / 10 ^ (i + 1) = x' at *
      generalize B / 10 ^ (i + 1) = y' at *
      generalize D / 10 ^ (i + 1) = z' at *
      generalize D / 10 ^ i = z at *
      generalize A / 10 ^ i = x at *
      generalize B / 10 ^ i = y at *
      unfold minusE
      rw [room_eq (by omega), room_eq (by omega), ← ih, wrapI_of (x := (i : Int) + 1) (by omega) (by omega)]
      have en1 : (some (i == 0)).map (fun b : Bool => b && false) = some (i + 1 == 0) := by simp
      rw [en1]
      by_cases hd : ((x % 10 : Nat) : Int) - ((x - y - z : Nat) : Int) - ((y % 10 : Nat) : Int) < 0
      · rw [cond_t (decide_eq_true hd), wrapI_of (by omega) (by omega), e1 _ (by omega), show ((x' - y' - z' : Nat) : Int) = 1 by omega]
        rfl
      · rw [cond_f (decide_eq_false hd), e1 _ (by omega), show ((x' - y' - z' : Nat) : Int) = 0 by omega]
        rfl
/-- a number without noughts at the end, its slice said to be nil or not -/
def bigN (nl : Option Bool) (n : Nat) : PV := .sl nl 1 (dlen n) (cellsN n)
def p_Minus : PFn := ⟨fun xs k => match xs with | [.sl _ 1 l0 c0, .sl _ 1 l1 c1] => (decN l0 c0).bind fun A => (decN l1 c1).bind fun B => bif decide (dlen A ≤ 500) && decide (B ≤ A) then k (.sl (some (dlen A == 0)) 1 (dlen (A - B)) (cellsN (A - B))) else none | _ => none, false⟩
theorem ok_Minus : FOK NGd Wd 66 p_Minus := by
  refine fok wokd (allOK_cons ok_trim allOK_nil) (h := hMinus) Tryd.func66 rfl (by decide) ?_ ?_
  · intro R xs k
    simp only [p_Minus]
    split
    · exact bind2_nat
    · rfl
  · intro xs r h
    simp only [p_Minus] at h
    split at h
    · rename_i n0 l0 c0 n1 l1 c1
      obtain ⟨A, B, h1, h2, hg, rfl⟩ := bind2_inv h
      obtain ⟨rfl, rfl⟩ := decN_inv h1
      obtain ⟨rfl, rfl⟩ := decN_inv h2
      simp only [Bool.and_eq_true, decide_eq_true_eq] at hg
      refine ⟨1000, (minus_raw 1000 n0 _ _ n1 _ _).trans ?_⟩
      have := minus_loop 1000 (A := A) (B := B) (D := A - B) (by omega) n0 n1 hg.1 (dlen A) 0 1000 (by omega) (by omega)
      simp only [Nat.pow_zero, Nat.div_one] at this
      rw [show A - B - (A - B) = 0 by omega] at this
      exact this
    · cases h
/-- what Minus yields of cells -/
def minusO {R : Type} (l0 : Nat) (c0 : List PV) (l1 : Nat) (c1 : List PV) (k : Nat → Nat → Option R) : Option R := (decN l0 c0).bind fun A => (decN l1 c1).bind fun B => bif decide (dlen A ≤ 500) && decide (B ≤ A) then k A (A - B) else none
theorem minusO_eq {R : Type} {A B : Nat} {k : Nat → Nat → Option R} (hA : dlen A ≤ 500) (h : B ≤ A) : minusO (dlen A) (cellsN A) (dlen B) (cellsN B) k = k A (A - B) := by
  unfold minusO
  rw [decN_big, decN_big]
  exact cond_t (by rw [decide_eq_true hA, decide_eq_true h]; rfl)
end Go.Proofs.YtdgoagnbpbehnaaDoor
