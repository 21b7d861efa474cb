/-
  Decimal: the document's answer (package refitref02), its numbers as lists of digits: Of, trim, Cmp, Shift, Plus, Minus.
  Decimal: the document's answer: Plus, Int, answer, Sum, Diff, Compare; the laws DecimalSums, DecimalCompares.
  Decimal: the document's answer: Int, answer, Sum, Diff, Compare; the laws DecimalSums and DecimalCompares.
  Decimal: the document's answer: Compare; the law DecimalCompares.
  Decimal: the document's answer: trim, Minus.
  Decimal: the document's answer: Times, Round.
  Decimal: the document's answer: Round, Rescale, Mul, Div; the laws DecimalScales and DecimalTimes.
-/
import Derived.Test.YtllpobcecingiaaDoorDq
import Derived.Test.YtllpobcecingiaaDoorDn
import Derived.Test.YtllpobcecingiaaDoorDsw
set_option linter.unusedVariables false
set_option linter.unusedSimpArgs false
namespace Go.Proofs.YtllpobcecingiaaDoor
open Go.RowKit

/-- an element of a slice of numbers -/
def ixI {R : Type} (len : Nat) (c : List PV) (i : Int) (K : Int → Option R) : Option R :=
  bif decide (0 ≤ i) && decide (i < (len : Int)) then ((c.drop (i.toNat * 1)).take 1).head?.bind fun v => (PV.asInt .i64 v).bind K else none
theorem ixI_eq {R : Type} {len : Nat} {l : List Nat} {i : Int} {d : Nat} {K : Int → Option R} (h0 : 0 ≤ i) (hl : i < (len : Int)) (hd : l[i.toNat]? = some d) : ixI len (cellsD l) i K = K d := by
  unfold ixI
  rw [cond_t (by rw [decide_eq_true h0, decide_eq_true hl]; rfl), Nat.mul_one]
  have : (((cellsD l).drop i.toNat).take 1).head? = some (cellD d) := by
    rw [List.head?_take, if_neg (by decide), List.head?_drop, cellsD, List.getElem?_map, hd]
    rfl
  rw [this]
  rfl
theorem ixI_dgs {R : Type} {n : Nat} {i : Int} {K : Int → Option R} (h0 : 0 ≤ i) (hl : i < (dlen n : Int)) : ixI (dlen n) (cellsN n) i K = K ((n / 10 ^ i.toNat % 10 : Nat) : Int) :=
  ixI_eq h0 hl (dg_get _ _ _ (by omega))
/-- there is room for more -/
def room {R : Type} (l m : Nat) (x : Option R) : Option R := bif decide (l + m ≤ 9223372036854775807) && decide ((l + m) * 8 ≤ 140737488355328) then x else none
theorem room_eq {R : Type} {l m : Nat} {x : Option R} (h : l + m ≤ 1000) : room l m x = x := by
  unfold room
  exact cond_t (by rw [decide_eq_true (by omega), decide_eq_true (by omega)]; rfl)
theorem big_nl (n : Nat) : (n == 0) = (dlen n == 0) := by
  by_cases h : n = 0
  · subst h; rw [dlen_zero]
  · rw [beq_eq_false_iff_ne.2 h, dlen_pos h]; rfl
theorem div0 {n i : Nat} : n / 10 ^ i = 0 ↔ dlen n ≤ i := by rw [dlen_le, Nat.div_eq_zero_iff_lt (Nat.pow_pos (by decide))]
theorem dlen_div (n : Nat) : ∀ (i : Nat), dlen (n / 10 ^ i) = dlen n - i
  | 0 => by simp
  | i + 1 => by
    rw [div_div10]
    by_cases h : n / 10 ^ i = 0
    · have := div0.1 h
      rw [h, Nat.zero_div, dlen_zero]; omega
    · have := dlen_pos h
      rw [dlen_div n i] at this
      omega

/-! ## Of -/
def hOf : Hints := ⟨[], [(0, ⟨[(0, false), (3, true)], []⟩)]⟩
def frOf (x : Int) (nl : Option Bool) (l : Nat) (c : List PV) : St := frame 20 [(0, (.int .i64 x, 0)), (3, (.sl nl 1 l c, 25))] []
def ofBody (x : Int) (nl : Option Bool) (l : Nat) (c : List PV) (G : Int → Option Bool → Nat → List PV → Option PV) : Option PV :=
  bif !(x == 0) then
    bif decide (x.tmod 10 < 0) then room l 1 (G (IntKind.i64.wrap (x.tdiv 10)) (nl.map (· && false)) (l + 1) (c ++ [.int .i64 (IntKind.i64.wrap (0 - x.tmod 10))]))
    else room l 1 (G (IntKind.i64.wrap (x.tdiv 10)) (nl.map (· && false)) (l + 1) (c ++ [.int .i64 (x.tmod 10)]))
  else some (.sl nl 1 l c)
def p_Of : PFn := ⟨fun xs k => match xs with | [.int .i64 n] => bif inI n then k (big n.natAbs) else none | _ => none, false⟩
/-! ## Cmp -/
def hCmp : Hints := ⟨[], [(0, ⟨[(0, false), (1, false), (5, false)], []⟩)]⟩
def frCmp (n0 : Option Bool) (l0 : Nat) (c0 : List PV) (n1 : Option Bool) (l1 : Nat) (c1 : List PV) (i : Int) : St := frame 41 [(0, (.sl n0 1 l0 c0, 0)), (1, (.sl n1 1 l1 c1, 0)), (5, (.int .i64 i, 0))] []
def cmpBody (l0 : Nat) (c0 : List PV) (l1 : Nat) (c1 : List PV) (i : Int) (G : Int → Option PV) : Option PV :=
  bif decide (0 ≤ i) then ixI l0 c0 i fun a => ixI l1 c1 i fun b => bif decide (a < b) then some (.int .i64 (-1)) else ixI l0 c0 i fun a => ixI l1 c1 i fun b => bif decide (b < a) then some (.int .i64 1) else G (IntKind.i64.wrap (i - 1))
  else some (.int .i64 0)
def p_Cmp : PFn := ⟨fun xs k => match xs with | [.sl _ 1 l0 c0, .sl _ 1 l1 c1] => (decN l0 c0).bind fun A => (decN l1 c1).bind fun B => bif decide (dlen A ≤ 500) && decide (dlen B ≤ 500) then k (.int .i64 (cmpI A B)) else none | _ => none, false⟩
theorem bind2_nat {R : Type} {a b : Option Nat} {g : Nat → Nat → Bool} {v : Nat → Nat → PV} {k : PV → Option R} :
    (a.bind fun A => b.bind fun B => bif g A B then k (v A B) else none) = (a.bind fun A => b.bind fun B => bif g A B then some (v A B) else none).bind k := by
  cases a with
  | none => rfl
  | some a => cases b with
    | none => rfl
    | some b => exact cond_nat
theorem bind2_inv {a b : Option Nat} {g : Nat → Nat → Bool} {v : Nat → Nat → PV} {r : PV} (h : (a.bind fun A => b.bind fun B => bif g A B then some (v A B) else none) = some r) : ∃ A B, a = some A ∧ b = some B ∧ g A B = true ∧ r = v A B := by
  obtain ⟨A, h1, h⟩ := Option.bind_eq_some_iff.1 h
  obtain ⟨B, h2, h⟩ := Option.bind_eq_some_iff.1 h
  cases hg : g A B <;> rw [hg] at h
  · cases h
  · injection h with h
    exact ⟨A, B, h1, h2, hg, h.symm⟩
/-! ## Shift -/
def p_Shift : PFn := ⟨fun xs k => match xs with | [.sl _ 1 l0 c0, .int .i64 j] => (decN l0 c0).bind fun A => bif decide (dlen A ≤ 500) && (decide (0 ≤ j) && decide (j ≤ 100)) then k (big (A * 10 ^ j.toNat)) else none | _ => none, false⟩
end Go.Proofs.YtllpobcecingiaaDoor
set_option linter.unusedVariables false
set_option linter.unusedSimpArgs false
namespace Go.Proofs.YtllpobcecingiaaDoor
open Go.RowKit

theorem dlen_add {A B k : Nat} (h1 : dlen A ≤ k) (h2 : dlen B ≤ k) : dlen (A + B) ≤ k + 1 := by
  refine (dlen_le _ _).2 ?_
  have h1 := (dlen_le _ _).1 h1
  have h2 := (dlen_le _ _).1 h2
  rw [Nat.pow_succ]
  omega

/-! ## Plus -/
def hPlus : Hints := ⟨[], [(0, ⟨[(0, false), (1, false), (5, true), (6, false), (7, false)], []⟩)]⟩
def frPlus (n0 : Option Bool) (l0 : Nat) (c0 : List PV) (n1 : Option Bool) (l1 : Nat) (c1 : List PV) (nl : Option Bool) (l : Nat) (c : List PV) (s i : Int) : St :=
  frame 52 [(0, (.sl n0 1 l0 c0, 0)), (1, (.sl n1 1 l1 c1, 0)), (5, (.sl nl 1 l c, 59)), (6, (.int .i64 s, 0)), (7, (.int .i64 i, 0))] []
def plusE (nl : Option Bool) (l : Nat) (c : List PV) (i : Int) (G : Option Bool → Nat → List PV → Int → Int → Option PV) (s : Int) : Option PV :=
  room l 1 (G (nl.map (· && false)) (l + 1) (c ++ [.int .i64 (s.tmod 10)]) (IntKind.i64.wrap (s.tdiv 10)) (IntKind.i64.wrap (i + 1)))
def plusW (l0 : Nat) (c0 : List PV) (l1 : Nat) (c1 : List PV) (s i : Int) (E : Int → Option PV) : Option PV :=
  bif decide (i < (l0 : Int)) then ixI l0 c0 i fun a => bif decide (i < (l1 : Int)) then ixI l1 c1 i fun b => E (IntKind.i64.wrap (IntKind.i64.wrap (s + a) + b)) else E (IntKind.i64.wrap (s + a))
  else bif decide (i < (l1 : Int)) then ixI l1 c1 i fun b => E (IntKind.i64.wrap (s + b)) else E s
def plusBody (l0 : Nat) (c0 : List PV) (l1 : Nat) (c1 : List PV) (nl : Option Bool) (l : Nat) (c : List PV) (s i : Int) (G : Option Bool → Nat → List PV → Int → Int → Option PV) : Option PV :=
  bif !decide (i < (l0 : Int)) then bif decide (i < (l1 : Int)) || decide (0 < s) then plusW l0 c0 l1 c1 s i (plusE nl l c i G) else some (.sl nl 1 l c)
  else plusW l0 c0 l1 c1 s i (plusE nl l c i G)
theorem plus_w {A B i : Nat} {s : Int} (hs : 0 ≤ s) (hs2 : s ≤ 1000) (E : Int → Option PV) : plusW (dlen A) (cellsN A) (dlen B) (cellsN B) s (i : Int) E = E (s + ((A / 10 ^ i % 10 : Nat) : Int) + ((B / 10 ^ i % 10 : Nat) : Int)) := by
  unfold plusW
  have hA : ¬ (i : Int) < (dlen A : Int) → A / 10 ^ i % 10 = 0 := fun h => by rw [div0.2 (by omega)]
  have hB : ¬ (i : Int) < (dlen B : Int) → B / 10 ^ i % 10 = 0 := fun h => by rw [div0.2 (by omega)]
  by_cases ka : (i : Int) < (dlen A : Int)
  · rw [cond_t (decide_eq_true ka), ixI_dgs (by omega) ka, Int.toNat_natCast]
    by_cases kb : (i : Int) < (dlen B : Int)
    · rw [cond_t (decide_eq_true kb), ixI_dgs (by omega) kb, Int.toNat_natCast, wrapI_of (x := s + _) (by omega) (by omega), wrapI_of (by omega) (by omega)]
    · rw [cond_f (decide_eq_false kb), hB kb, wrapI_of (by omega) (by omega)]
      simp
  · rw [cond_f (decide_eq_false ka), hA ka]
    by_cases kb : (i : Int) < (dlen B : Int)
    · rw [cond_t (decide_eq_true kb), ixI_dgs (by omega) kb, Int.toNat_natCast, wrapI_of (by omega) (by omega)]
      simp
    · rw [cond_f (decide_eq_false kb), hB kb]
      simp
theorem carry {A B : Nat} (i : Nat) : A / 10 ^ i + B / 10 ^ i ≤ (A + B) / 10 ^ i ∧ (A + B) / 10 ^ i ≤ A / 10 ^ i + B / 10 ^ i + 1 := by
  have hp : 0 < 10 ^ i := Nat.pow_pos (by decide)
  have h1 := Nat.div_add_mod A (10 ^ i)
  have h2 := Nat.div_add_mod B (10 ^ i)
  have h3 := Nat.mod_lt A hp
  have h4 := Nat.mod_lt B hp
  generalize 10 ^ i = p at *
  refine ⟨(Nat.le_div_iff_mul_le hp).2 ?_, Nat.le_of_lt_succ ((Nat.div_lt_iff_lt_mul hp).2 ?_)⟩
  · rw [Nat.add_mul, Nat.mul_comm _ p, Nat.mul_comm _ p]; omega
  · show A + B < (A / p + B / p + 2) * p
    rw [Nat.add_mul, Nat.add_mul, Nat.mul_comm (A / p) p, Nat.mul_comm (B / p) p]; omega
def p_Plus : PFn := ⟨fun xs k => match xs with | [.sl _ 1 l0 c0, .sl _ 1 l1 c1] => (decN l0 c0).bind fun A => (decN l1 c1).bind fun B => bif decide (dlen A ≤ 500) && decide (dlen B ≤ 500) then k (big (A + B)) else none | _ => none, false⟩
end Go.Proofs.YtllpobcecingiaaDoor
set_option linter.unusedVariables false
set_option linter.unusedSimpArgs false
namespace Go.Proofs.YtllpobcecingiaaDoor
open Go.RowKit

/-! ## Int -/
/-- what Plus and Cmp yield of cells -/
def plusO {R : Type} (l0 : Nat) (c0 : List PV) (l1 : Nat) (c1 : List PV) (k : Nat → Option R) : Option R := (decN l0 c0).bind fun A => (decN l1 c1).bind fun B => bif decide (dlen A ≤ 500) && decide (dlen B ≤ 500) then k (A + B) else none
def cmpO {R : Type} (l0 : Nat) (c0 : List PV) (l1 : Nat) (c1 : List PV) (k : Int → Option R) : Option R := (decN l0 c0).bind fun A => (decN l1 c1).bind fun B => bif decide (dlen A ≤ 500) && decide (dlen B ≤ 500) then k (cmpI A B) else none
theorem plusO_eq {R : Type} {A B : Nat} {k : Nat → Option R} (hA : dlen A ≤ 500) (hB : dlen B ≤ 500) : plusO (dlen A) (cellsN A) (dlen B) (cellsN B) k = k (A + B) := by
  unfold plusO
  rw [decN_big, decN_big]
  exact cond_t (by rw [decide_eq_true hA, decide_eq_true hB]; rfl)
theorem cmpO_eq {R : Type} {A B : Nat} {k : Int → Option R} (hA : dlen A ≤ 500) (hB : dlen B ≤ 500) : cmpO (dlen A) (cellsN A) (dlen B) (cellsN B) k = k (cmpI A B) := by
  unfold cmpO
  rw [decN_big, decN_big]
  exact cond_t (by rw [decide_eq_true hA, decide_eq_true hB]; rfl)
theorem one_cells : (dlen 1, cellsN 1) = (1, [PV.int .i64 1]) := rfl
def hInt : Hints := ⟨[], [(0, ⟨[(0, false), (1, false), (7, false), (8, false)], []⟩)]⟩
def frInt (n0 : Option Bool) (l0 : Nat) (c0 : List PV) (m : Bool) (x i : Int) : St := frame 41 [(0, (.sl n0 1 l0 c0, 0)), (1, (.bool m, 0)), (7, (.int .i64 x, 0)), (8, (.int .i64 i, 0))] []
def maxN : Nat := (9223372036854775807 : Int).natAbs
def intTop (l0 : Nat) (c0 : List PV) (m : Bool) (L : Option PV) : Option PV :=
  bif m then plusO (dlen maxN) (cellsN maxN) 1 [.int .i64 1] fun Y => cmpO l0 c0 (dlen Y) (cellsN Y) fun z => bif decide (0 < z) then some (.tuple [.int .i64 0, .bool false]) else L
  else cmpO l0 c0 (dlen maxN) (cellsN maxN) fun z => bif decide (0 < z) then some (.tuple [.int .i64 0, .bool false]) else L
def intBody (l0 : Nat) (c0 : List PV) (m : Bool) (x i : Int) (G : Int → Int → Option PV) : Option PV :=
  bif decide (0 ≤ i) then
    bif m then ixI l0 c0 i fun v => G (IntKind.i64.wrap (IntKind.i64.wrap (10 * x) - v)) (IntKind.i64.wrap (i - 1))
    else ixI l0 c0 i fun v => G (IntKind.i64.wrap (IntKind.i64.wrap (10 * x) + v)) (IntKind.i64.wrap (i - 1))
  else some (.tuple [.int .i64 x, .bool true])
def p_Int : PFn := ⟨fun xs k => match xs with | [.sl _ 1 l0 c0, .bool m] => (decN l0 c0).bind fun X => bif decide (dlen X ≤ 500) then k (.tuple [.int .i64 (ansV (sgn X m)), .bool (!over64 (sgn X m))]) else none | _ => none, false⟩
theorem bind1_nat {R : Type} {a : Option Nat} {g : Nat → Bool} {v : Nat → PV} {k : PV → Option R} :
    (a.bind fun A => bif g A then k (v A) else none) = (a.bind fun A => bif g A then some (v A) else none).bind k := by
  cases a with
  | none => rfl
  | some a => exact cond_nat
theorem bind1_inv {a : Option Nat} {g : Nat → Bool} {v : Nat → PV} {r : PV} (h : (a.bind fun A => bif g A then some (v A) else none) = some r) : ∃ A, a = some A ∧ g A = true ∧ r = v A := by
  obtain ⟨A, h1, h⟩ := Option.bind_eq_some_iff.1 h
  cases hg : g A <;> rw [hg] at h
  · cases h
  · injection h with h
    exact ⟨A, h1, hg, h.symm⟩
theorem maxN_eq : maxN = 9223372036854775807 := rfl
/-! ## answer -/
def p_answer : PFn := ⟨fun xs k => match xs with | [.sl _ 1 l0 c0, .bool m] => (decN l0 c0).bind fun X => bif decide (dlen X ≤ 500) then k (ansI (sgn X m)) else none | _ => none, false⟩
/-! ## Sum, Diff -/
/-- what answer yields of cells -/
def ansO (l0 : Nat) (c0 : List PV) (m : Bool) : Option PV := (decN l0 c0).bind fun X => bif decide (dlen X ≤ 500) then some (.tuple [.int .i64 (ansV (sgn X m)), .int .i64 (ansE (sgn X m))]) else none
theorem ansO_eq {X : Nat} {m : Bool} (h : dlen X ≤ 500) : ansO (dlen X) (cellsN X) m = some (ansI (sgn X m)) := by
  unfold ansO
  rw [decN_big]
  exact cond_t (decide_eq_true h)
theorem dlen_small {n : Nat} (h : n < 10 ^ 20) : dlen n ≤ 20 := (dlen_le _ _).2 h
theorem dlen_abs {n : Int} (h : inI n = true) : dlen n.natAbs ≤ 20 := dlen_small (by rw [inI_iff] at h; omega)
def sumA (a b : Int) : Option PV := bif inI a then bif inI b then plusO (dlen a.natAbs) (cellsN a.natAbs) (dlen b.natAbs) (cellsN b.natAbs) fun Z => ansO (dlen Z) (cellsN Z) (decide (a < 0)) else none else none
theorem sumA_eq {a b : Int} (ha : inI a = true) (hb : inI b = true) : sumA a b = some (ansI (sgn ((a.natAbs + b.natAbs : Nat) : Int) (decide (a < 0)))) := by
  unfold sumA
  have h1 := dlen_abs ha
  have h2 := dlen_abs hb
  have h3 := dlen_add h1 h2
  rw [ha, hb, cond_true, cond_true, plusO_eq (by omega) (by omega), ansO_eq (by omega)]
def p_RSum : PFn := ⟨fun xs k => match xs with | [.int .i64 a, .int .i64 b] => bif inI a && inI b then k (ansI (a + b)) else none | _ => none, false⟩
def p_RDiff : PFn := ⟨fun xs k => match xs with | [.int .i64 a, .int .i64 b] => bif inI a && inI b then k (ansI (a - b)) else none | _ => none, false⟩
end Go.Proofs.YtllpobcecingiaaDoor
set_option linter.unusedVariables false
set_option linter.unusedSimpArgs false
namespace Go.Proofs.YtllpobcecingiaaDoor
open Go.RowKit

/-- what Shift yields of cells -/
def shiftO {R : Type} (l0 : Nat) (c0 : List PV) (j : Int) (k : Nat → Option R) : Option R := (decN l0 c0).bind fun A => bif decide (dlen A ≤ 500) && (decide (0 ≤ j) && decide (j ≤ 100)) then k (A * 10 ^ j.toNat) else none
theorem shiftO_eq {R : Type} {A : Nat} {j : Int} {k : Nat → Option R} (hA : dlen A ≤ 500) (h0 : 0 ≤ j) (h1 : j ≤ 100) : shiftO (dlen A) (cellsN A) j k = k (A * 10 ^ j.toNat) := by
  unfold shiftO
  rw [decN_big]
  exact cond_t (by rw [decide_eq_true hA, decide_eq_true h0, decide_eq_true h1]; rfl)
theorem dlen_shift_le {A k : Nat} {m : Nat} (h : dlen A ≤ m) : dlen (A * 10 ^ k) ≤ m + k := by
  by_cases e : A = 0
  · subst e; rw [Nat.zero_mul, dlen_zero]; omega
  · rw [dlen_shift e]; omega
def rcBody (a sa b sb : Int) : Option PV :=
  bif !!scaleB sa then bif !scaleB sb then some (.int .i64 0) else
    bif decide (a < 0) && decide (0 ≤ b) then some (.int .i64 (-1)) else
    bif decide (0 ≤ a) && decide (b < 0) then some (.int .i64 1) else
    bif inI a then shiftO (dlen a.natAbs) (cellsN a.natAbs) sb fun X => bif inI b then shiftO (dlen b.natAbs) (cellsN b.natAbs) sa fun Y => cmpO (dlen X) (cellsN X) (dlen Y) (cellsN Y) fun z =>
      bif decide (a < 0) then some (.int .i64 (IntKind.i64.wrap (0 - z))) else some (.int .i64 z)
    else none else none
  else some (.int .i64 0)
theorem tenI_pow {k : Int} (h0 : 0 ≤ k) (h1 : k ≤ 13) : tenI k = ((10 ^ k.toNat : Nat) : Int) := by
  unfold tenI
  rw [show min k 13 = k by omega]
theorem rc_body {a sa b sb : Int} (ha : inI a = true) (hb : inI b = true) : rcBody a sa b sb = some (.int .i64 (dcmp a sa b sb)) := by
  unfold rcBody dcmp
  cases h1 : scaleB sa
  · rfl
  · cases h2 : scaleB sb
    · rfl
    · rw [scaleB_iff] at h1 h2
      have t1 := tenI_le sa
      have t2 := tenI_le sb
      simp only [Bool.not_true, Bool.not_false, cond_true, cond_false, Bool.and_self]
      by_cases ka : a < 0
      · have q1 : a * tenI sb < 0 := Int.mul_neg_of_neg_of_pos ka (by omega)
        by_cases kb : b < 0
        · rw [decide_eq_true ka, decide_eq_false (show ¬ 0 ≤ b by omega), decide_eq_false (show ¬ 0 ≤ a by omega), ha, hb, shiftO_eq (by have := dlen_abs ha; omega) h2.1 (by omega), cond_true]
          simp only [Bool.and_false, Bool.false_and, cond_false, cond_true]
          rw [shiftO_eq (by have := dlen_abs hb; omega) h1.1 (by omega), cmpO_eq (by have := dlen_shift_le (k := sb.toNat) (dlen_abs ha); omega) (by have := dlen_shift_le (k := sa.toNat) (dlen_abs hb); omega)]
          rw [Int.natCast_mul, Int.natCast_mul, ← tenI_pow h2.1 (by omega), ← tenI_pow h1.1 (by omega), show ((a.natAbs : Nat) : Int) = -a by omega, show ((b.natAbs : Nat) : Int) = -b by omega, Int.neg_mul, Int.neg_mul]
          have e : IntKind.i64.wrap (0 - cmpI (-(a * tenI sb)) (-(b * tenI sa))) = cmpI (a * tenI sb) (b * tenI sa) := by
            rcases cmpI_cases (a * tenI sb) (b * tenI sa) with ⟨k, e⟩ | ⟨k, e⟩ | ⟨k, e⟩
            · rw [e, cmpI_gt (by omega)]; decide
            · rw [e, k, cmpI_self]; decide
            · rw [e, cmpI_lt (by omega)]; decide
          rw [e]
        · have q2 : 0 ≤ b * tenI sa := Int.mul_nonneg (by omega) (by omega)
          rw [decide_eq_true ka, decide_eq_true (show 0 ≤ b by omega), cmpI_lt (by omega)]
          rfl
      · have q1 : 0 ≤ a * tenI sb := Int.mul_nonneg (by omega) (by omega)
        by_cases kb : b < 0
        · have q2 : b * tenI sa < 0 := Int.mul_neg_of_neg_of_pos kb (by omega)
          rw [decide_eq_false ka, decide_eq_true (show 0 ≤ a by omega), decide_eq_true kb, cmpI_gt (by omega)]
          rfl
        · rw [decide_eq_false ka, decide_eq_false kb, ha, hb]
          simp only [Bool.and_false, Bool.false_and, cond_false, cond_true]
          rw [shiftO_eq (by have := dlen_abs ha; omega) h2.1 (by omega), shiftO_eq (by have := dlen_abs hb; omega) h1.1 (by omega), cmpO_eq (by have := dlen_shift_le (k := sb.toNat) (dlen_abs ha); omega) (by have := dlen_shift_le (k := sa.toNat) (dlen_abs hb); omega)]
          rw [Int.natCast_mul, Int.natCast_mul, ← tenI_pow h2.1 (by omega), ← tenI_pow h1.1 (by omega), show ((a.natAbs : Nat) : Int) = a by omega, show ((b.natAbs : Nat) : Int) = b by omega]
def p_RCompare : PFn := ⟨fun xs k => match xs with | [.int .i64 a, .int .i64 sa, .int .i64 b, .int .i64 sb] => bif inI a && inI b then k (.int .i64 (dcmp a sa b sb)) else none | _ => none, false⟩
theorem comp_body {a0 a1 b0 b1 : Int} (ha : inI a0 = true) (hb : inI b0 = true) :
    (bif inI a0 && inI b0 then bif inI a0 && inI b0 then bif dcmp a0 a1 b0 b1 == dcmp a0 a1 b0 b1 then bif inI b0 && inI a0 then some (PV.bool (dcmp a0 a1 b0 b1 == IntKind.i64.wrap (0 - dcmp b0 b1 a0 a1))) else none else some (.bool false) else none else none) = some (.bool true) := by
  have e : IntKind.i64.wrap (0 - dcmp b0 b1 a0 a1) = dcmp a0 a1 b0 b1 := by
    unfold dcmp
    rw [Bool.and_comm]
    cases scaleB a1 && scaleB b1
    · rfl
    · simp only [cond_true]
      rw [cmpI_swap (a0 * tenI b1) (b0 * tenI a1)]
      rcases cmpI_cases (a0 * tenI b1) (b0 * tenI a1) with ⟨k, e⟩ | ⟨k, e⟩ | ⟨k, e⟩ <;> rw [e] <;> decide
  rw [ha, hb, e]
  simp
end Go.Proofs.YtllpobcecingiaaDoor
set_option linter.unusedVariables false
set_option linter.unusedSimpArgs false
namespace Go.Proofs.YtllpobcecingiaaDoor
open Go.RowKit

theorem small0 {q : Nat} (h : q < 10) (k : q % 10 = 0) : q = 0 := by omega
/-! ## trim -/
def hTrim : Hints := ⟨[], [(0, ⟨[(0, false)], []⟩)]⟩
def frTrim (n0 : Option Bool) (l0 : Nat) (c0 : List PV) : St := frame 21 [(0, (.sl n0 1 l0 c0, 0))] []
def trimBody (n0 : Option Bool) (l0 : Nat) (c0 : List PV) (G : Nat → List PV → Option PV) : Option PV :=
  bif decide (0 < (l0 : Int)) then ixI l0 c0 (IntKind.i64.wrap ((l0 : Int) - 1)) fun v =>
    bif v == 0 then bif decide (0 ≤ IntKind.i64.wrap ((l0 : Int) - 1)) && decide (IntKind.i64.wrap ((l0 : Int) - 1) ≤ (l0 : Int)) then G ((IntKind.i64.wrap ((l0 : Int) - 1)).toNat - 0) ((c0.take ((IntKind.i64.wrap ((l0 : Int) - 1)).toNat * 1)).drop (0 * 1)) else none
    else some (.sl n0 1 l0 c0)
  else some (.sl n0 1 l0 c0)
def p_trim : PFn := ⟨fun xs k => match xs with | [.sl n0 1 l0 c0] => (natC c0).bind fun N => bif l0 == c0.length && decide (l0 ≤ 600) then k (.sl n0 1 (dlen N) (cellsN N)) else none | _ => none, false⟩
/-- what trim yields of cells -/
def cutO {R : Type} (l0 : Nat) (c0 : List PV) (k : Nat → Option R) : Option R := (natC c0).bind fun N => bif l0 == c0.length && decide (l0 ≤ 600) then k N else none
theorem cutO_eq {R : Type} {l N : Nat} {k : Nat → Option R} (h : N < 10 ^ l) (hl : l ≤ 600) : cutO l (cellsD (dg l N)) k = k N := by
  unfold cutO
  rw [natC_dg, Nat.mod_eq_of_lt h]
  exact cond_t (by simp [cellsD, dg_len, hl])

/-! ## Minus -/
def hMinus : Hints := ⟨[], [(0, ⟨[(0, false), (1, false), (5, true), (6, false), (7, false)], []⟩)]⟩
def frMinus (n0 : Option Bool) (l0 : Nat) (c0 : List PV) (n1 : Option Bool) (l1 : Nat) (c1 : List PV) (nl : Option Bool) (l : Nat) (c : List PV) (s i : Int) : St :=
  frame 41 [(0, (.sl n0 1 l0 c0, 0)), (1, (.sl n1 1 l1 c1, 0)), (5, (.sl nl 1 l c, 48)), (6, (.int .i64 s, 0)), (7, (.int .i64 i, 0))] []
def minusE (nl : Option Bool) (l : Nat) (c : List PV) (i : Int) (G : Option Bool → Nat → List PV → Int → Int → Option PV) (d : Int) : Option PV :=
  bif decide (d < 0) then room l 1 (G (nl.map (· && false)) (l + 1) (c ++ [.int .i64 (IntKind.i64.wrap (d + 10))]) 1 (IntKind.i64.wrap (i + 1)))
  else room l 1 (G (nl.map (· && false)) (l + 1) (c ++ [.int .i64 d]) 0 (IntKind.i64.wrap (i + 1)))
def minusBody (l0 : Nat) (c0 : List PV) (l1 : Nat) (c1 : List PV) (nl : Option Bool) (l : Nat) (c : List PV) (s i : Int) (G : Option Bool → Nat → List PV → Int → Int → Option PV) : Option PV :=
  bif decide (i < (l0 : Int)) then ixI l0 c0 i fun a => bif decide (i < (l1 : Int)) then ixI l1 c1 i fun b => minusE nl l c i G (IntKind.i64.wrap (IntKind.i64.wrap (a - s) - b)) else minusE nl l c i G (IntKind.i64.wrap (a - s))
  else cutO l c fun N => some (.sl nl 1 (dlen N) (cellsN N))
theorem minus_w {B i : Nat} {a s : Int} (ha : 0 ≤ a) (ha2 : a ≤ 1000) (hs : 0 ≤ s) (hs2 : s ≤ 1000) (E : Int → Option PV) :
    (bif decide ((i : Int) < (dlen B : Int)) then ixI (dlen B) (cellsN B) (i : Int) fun b => E (IntKind.i64.wrap (IntKind.i64.wrap (a - s) - b)) else E (IntKind.i64.wrap (a - s))) = E (a - s - ((B / 10 ^ i % 10 : Nat) : Int)) := by
  by_cases kb : (i : Int) < (dlen B : Int)
  · rw [cond_t (decide_eq_true kb), ixI_dgs (by omega) kb, Int.toNat_natCast, wrapI_of (x := a - s) (by omega) (by omega), wrapI_of (by omega) (by omega)]
  · rw [cond_f (decide_eq_false kb), show B / 10 ^ i = 0 from div0.2 (by omega), wrapI_of (by omega) (by omega)]
    simp
/-- a number without noughts at the end, its slice said to be nil or not -/
def bigN (nl : Option Bool) (n : Nat) : PV := .sl nl 1 (dlen n) (cellsN n)
def p_Minus : PFn := ⟨fun xs k => match xs with | [.sl _ 1 l0 c0, .sl _ 1 l1 c1] => (decN l0 c0).bind fun A => (decN l1 c1).bind fun B => bif decide (dlen A ≤ 500) && decide (B ≤ A) then k (.sl (some (dlen A == 0)) 1 (dlen (A - B)) (cellsN (A - B))) else none | _ => none, false⟩
/-- what Minus yields of cells -/
def minusO {R : Type} (l0 : Nat) (c0 : List PV) (l1 : Nat) (c1 : List PV) (k : Nat → Nat → Option R) : Option R := (decN l0 c0).bind fun A => (decN l1 c1).bind fun B => bif decide (dlen A ≤ 500) && decide (B ≤ A) then k A (A - B) else none
theorem minusO_eq {R : Type} {A B : Nat} {k : Nat → Nat → Option R} (hA : dlen A ≤ 500) (h : B ≤ A) : minusO (dlen A) (cellsN A) (dlen B) (cellsN B) k = k A (A - B) := by
  unfold minusO
  rw [decN_big, decN_big]
  exact cond_t (by rw [decide_eq_true hA, decide_eq_true h]; rfl)
end Go.Proofs.YtllpobcecingiaaDoor
set_option linter.unusedVariables false
set_option linter.unusedSimpArgs false
namespace Go.Proofs.YtllpobcecingiaaDoor
open Go.RowKit

/-! ## loops in loops -/
def stepI (e : Env) (h : Hints) (fuel : Nat) (own : Bool) (fn : Func) (path : List Nat) (KL : St → Option PV) (st : St) (k : St → Option PV) : Option PV :=
  stepAt e h fuel (pfin e own fn) path (fn.body.getD .skip) 0 (pfin e own fn) [] KL st k
def loopI (e : Env) (h : Hints) (fuel : Nat) (own : Bool) (fn : Func) (path : List Nat) (cur : Nat) (KL : St → Option PV) (n : Nat) (st : St) : Option PV :=
  ploop (h.loop.lookup cur) (stepI e h fuel own fn path KL) n st
theorem loopI_succ {e : Env} {h : Hints} {fuel : Nat} {own : Bool} {fn : Func} {path : List Nat} {cur n : Nat} {KL : St → Option PV} {st : St} :
    loopI e h fuel own fn path cur KL (n + 1) st = stepI e h fuel own fn path KL st (fun st' => pnorm (h.loop.lookup cur) st' (loopI e h fuel own fn path cur KL n)) := rfl

/-! ## Times -/
def hTimes : Hints := ⟨[], [(2, ⟨[(1, false), (5, false), (6, false), (7, false), (8, false), (9, false), (10, false), (11, false)], []⟩), (0, ⟨[(1, false), (5, false), (9, false), (10, false), (11, false)], []⟩)]⟩
def fr1 (n1 : Option Bool) (l1 : Nat) (c1 : List PV) (n5 : Option Bool) (l5 : Nat) (c5 : List PV) (n9 : Option Bool) (l9 : Nat) (c9 : List PV) (L i : Int) : St :=
  frame 28 [(1, (.sl n1 1 l1 c1, 0)), (5, (.sl n5 1 l5 c5, 0)), (9, (.sl n9 1 l9 c9, 0)), (10, (.int .i64 L, 0)), (11, (.int .i64 i, 0))] []
def fr2 (n1 : Option Bool) (l1 : Nat) (c1 : List PV) (n5 : Option Bool) (l5 : Nat) (c5 : List PV) (j d k : Int) (n9 : Option Bool) (l9 : Nat) (c9 : List PV) (L i : Int) : St :=
  frame 28 [(1, (.sl n1 1 l1 c1, 0)), (5, (.sl n5 1 l5 c5, 0)), (6, (.int .i64 j, 0)), (7, (.int .i64 d, 0)), (8, (.int .i64 k, 0)), (9, (.sl n9 1 l9 c9, 0)), (10, (.int .i64 L, 0)), (11, (.int .i64 i, 0))] []
theorem dlen_mul {A B a b : Nat} (h1 : dlen A ≤ a) (h2 : dlen B ≤ b) : dlen (A * B) ≤ a + b := by
  refine (dlen_le _ _).2 ?_
  have h1 := (dlen_le _ _).1 h1
  have h2 := (dlen_le _ _).1 h2
  rw [Nat.pow_add]
  exact Nat.mul_lt_mul'' h1 h2
theorem mod_step (A i : Nat) : A % 10 ^ (i + 1) = A % 10 ^ i + A / 10 ^ i % 10 * 10 ^ i := by
  rw [Nat.pow_succ, Nat.mod_mul, Nat.mul_comm (10 ^ i)]
def p_RTimes : PFn := ⟨fun xs k => match xs with | [.sl _ 1 l0 c0, .sl _ 1 l1 c1] => (decN l0 c0).bind fun A => (decN l1 c1).bind fun B => bif decide (dlen A ≤ 100) && decide (dlen B ≤ 100) then k (big (A * B)) else none | _ => none, false⟩
end Go.Proofs.YtllpobcecingiaaDoor
set_option linter.unusedVariables false
set_option linter.unusedSimpArgs false
namespace Go.Proofs.YtllpobcecingiaaDoor
open Go.RowKit

/-! ## Round -/
def hRound : Hints := ⟨[], [(2, ⟨[(0, false), (1, false), (5, false), (6, false), (7, false), (8, false)], []⟩), (0, ⟨[(0, false), (1, false), (5, false), (6, false), (7, false)], []⟩)]⟩
def fq1 (n0 : Option Bool) (l0 : Nat) (c0 : List PV) (n1 : Option Bool) (l1 : Nat) (c1 : List PV) (n5 : Option Bool) (l5 : Nat) (c5 : List PV) (n6 : Option Bool) (l6 : Nat) (c6 : List PV) (i : Int) : St :=
  frame 49 [(0, (.sl n0 1 l0 c0, 0)), (1, (.sl n1 1 l1 c1, 0)), (5, (.sl n5 1 l5 c5, 0)), (6, (.sl n6 1 l6 c6, 0)), (7, (.int .i64 i, 0))] []
def fq2 (n0 : Option Bool) (l0 : Nat) (c0 : List PV) (n1 : Option Bool) (l1 : Nat) (c1 : List PV) (n5 : Option Bool) (l5 : Nat) (c5 : List PV) (n6 : Option Bool) (l6 : Nat) (c6 : List PV) (i d : Int) : St :=
  frame 49 [(0, (.sl n0 1 l0 c0, 0)), (1, (.sl n1 1 l1 c1, 0)), (5, (.sl n5 1 l5 c5, 0)), (6, (.sl n6 1 l6 c6, 0)), (7, (.int .i64 i, 0)), (8, (.int .i64 d, 0))] []
theorem cmp_ge {a b : Int} : (0 ≤ cmpI a b) ↔ b ≤ a := by
  rcases cmpI_cases a b with ⟨k, e⟩ | ⟨k, e⟩ | ⟨k, e⟩ <;> rw [e] <;> omega
theorem div_sub {R B : Nat} (hB : 0 < B) (h : B ≤ R) : R / B = (R - B) / B + 1 ∧ R % B = (R - B) % B :=
  ⟨Nat.div_eq_sub_div hB h, Nat.mod_eq_sub_mod h⟩
def roundN (A B : Nat) : Nat := A / B + bif decide (B ≤ 2 * (A % B)) then 1 else 0
def roundF (A B : Nat) : Bool := bif decide (B ≤ 2 * (A % B)) then false else dlen A == 0
theorem next_digit {A B i : Nat} (hB : 0 < B) : A / 10 ^ i / B = 10 * (A / 10 ^ (i + 1) / B) + (A / 10 ^ i % 10 + 10 * (A / 10 ^ (i + 1) % B)) / B ∧ A / 10 ^ i % B = (A / 10 ^ i % 10 + 10 * (A / 10 ^ (i + 1) % B)) % B ∧ (A / 10 ^ i % 10 + 10 * (A / 10 ^ (i + 1) % B)) / B < 10 := by
  rw [div_div10]
  generalize A / 10 ^ i = x
  have h1 := Nat.div_add_mod (x / 10) B
  have h2 := Nat.mod_lt (x / 10) hB
  generalize x / 10 / B = q at *
  generalize x / 10 % B = r at *
  have e : x = (x % 10 + 10 * r) + B * (10 * q) := by
    have : x = 10 * (x / 10) + x % 10 := by omega
    rw [← h1] at this
    rw [Nat.mul_left_comm]
    omega
  refine ⟨?_, ?_, (Nat.div_lt_iff_lt_mul hB).2 (by omega)⟩
  · conv => lhs; rw [e]
    rw [Nat.add_mul_div_left _ _ hB]; omega
  · conv => lhs; rw [e]
    rw [Nat.add_mul_mod_self_left]
theorem dlen_one : dlen 1 = 1 := rfl
theorem cells_one : cellsN 1 = [PV.int .i64 1] := rfl
theorem cons_lt {d r : Nat} (h : d < 10) : d + 10 * r < 10 ^ (1 + dlen r) := by
  have := lt_pow_dlen r
  rw [Nat.add_comm 1, Nat.pow_succ]
  omega
def p_RRound : PFn := ⟨fun xs k => match xs with | [.sl _ 1 l0 c0, .sl _ 1 l1 c1] => (decN l0 c0).bind fun A => (decN l1 c1).bind fun B => bif decide (dlen A ≤ 300) && (decide (dlen B ≤ 300) && decide (0 < B)) then k (.sl (some (roundF A B)) 1 (dlen (roundN A B)) (cellsN (roundN A B))) else none | _ => none, false⟩
end Go.Proofs.YtllpobcecingiaaDoor
