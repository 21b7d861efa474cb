/-
  Decimal: the document's answer: Plus, Int, answer, Sum, Diff, Compare; the laws DecimalSums, DecimalCompares.
-/
import Derived.Test.YtdgoagnbpbehnaaDoorDr
import Derived.Test.YtdgoagnbpbehnaaDoorDsw
set_option linter.unusedVariables false
set_option linter.unusedSimpArgs false
namespace Go.Proofs.YtdgoagnbpbehnaaDoor
open Go.RowKit

theorem dlen_add {A B k : Nat} (h1 : dlen A ≤ k) (h2 : dlen B ≤ k) : dlen (A + B) ≤ k + 1 := by
  refine (dlen_le _ _).2 ?_
  have h1 := (dlen_le _ _).1 h1
  have h2 := (dlen_le _ _).1 h2
  rw [Nat.pow_succ]
  omega

/-! ## Plus -/
def hPlus : Hints := ⟨[], [(0, ⟨[(0, false), (1, false), (5, true), (6, false), (7, false)], []⟩)]⟩
def frPlus (n0 : Option Bool) (l0 : Nat) (c0 : List PV) (n1 : Option Bool) (l1 : Nat) (c1 : List PV) (nl : Option Bool) (l : Nat) (c : List PV) (s i : Int) : St :=
  frame 52 [(0, (.sl n0 1 l0 c0, 0)), (1, (.sl n1 1 l1 c1, 0)), (5, (.sl nl 1 l c, 59)), (6, (.int .i64 s, 0)), (7, (.int .i64 i, 0))] []
noncomputable def plusLoop (fu n : Nat) (st : St) : Option PV := loopF (en []) hPlus fu false Tryd.f51 [1, 1, 1, 0, 1, 0] 0 n st
theorem plus_raw (fu : Nat) (n0 : Option Bool) (l0 : Nat) (c0 : List PV) (n1 : Option Bool) (l1 : Nat) (c1 : List PV) : prun (en []) hPlus fu false Tryd.f51 [.sl n0 1 l0 c0, .sl n1 1 l1 c1] =
    plusLoop fu fu (frPlus n0 l0 c0 n1 l1 c1 (some true) 0 [] 0 0) := by kernel_rfl
def plusE (nl : Option Bool) (l : Nat) (c : List PV) (i : Int) (G : Option Bool → Nat → List PV → Int → Int → Option PV) (s : Int) : Option PV :=
  room l 1 (G (nl.map (· && false)) (l + 1) (c ++ [.int .i64 (s.tmod 10)]) (IntKind.i64.wrap (s.tdiv 10)) (IntKind.i64.wrap (i + 1)))
def plusW (l0 : Nat) (c0 : List PV) (l1 : Nat) (c1 : List PV) (s i : Int) (E : Int → Option PV) : Option PV :=
  bif decide (i < (l0 : Int)) then ixI l0 c0 i fun a => bif decide (i < (l1 : Int)) then ixI l1 c1 i fun b => E (IntKind.i64.wrap (IntKind.i64.wrap (s + a) + b)) else E (IntKind.i64.wrap (s + a))
  else bif decide (i < (l1 : Int)) then ixI l1 c1 i fun b => E (IntKind.i64.wrap (s + b)) else E s
def plusBody (l0 : Nat) (c0 : List PV) (l1 : Nat) (c1 : List PV) (nl : Option Bool) (l : Nat) (c : List PV) (s i : Int) (G : Option Bool → Nat → List PV → Int → Int → Option PV) : Option PV :=
  bif !decide (i < (l0 : Int)) then bif decide (i < (l1 : Int)) || decide (0 < s) then plusW l0 c0 l1 c1 s i (plusE nl l c i G) else some (.sl nl 1 l c)
  else plusW l0 c0 l1 c1 s i (plusE nl l c i G)
theorem plus_step (fu : Nat) (n0 : Option Bool) (l0 : Nat) (c0 : List PV) (n1 : Option Bool) (l1 : Nat) (c1 : List PV) (nl : Option Bool) (l : Nat) (c : List PV) (s i : Int) (K : St → Option PV) :
    stepF (en []) hPlus fu false Tryd.f51 [1, 1, 1, 0, 1, 0] (frPlus n0 l0 c0 n1 l1 c1 nl l c s i) (fun st => pnorm (hPlus.loop.lookup 0) st K) =
    plusBody l0 c0 l1 c1 nl l c s i (fun a b d e f => K (frPlus n0 l0 c0 n1 l1 c1 a b d e f)) := by kernel_rfl
theorem plus_w {A B i : Nat} {s : Int} (hs : 0 ≤ s) (hs2 : s ≤ 1000) (E : Int → Option PV) : plusW (dlen A) (cellsN A) (dlen B) (cellsN B) s (i : Int) E = E (s + ((A / 10 ^ i % 10 : Nat) : Int) + ((B / 10 ^ i % 10 : Nat) : Int)) := by
  unfold plusW
  have hA : ¬ (i : Int) < (dlen A : Int) → A / 10 ^ i % 10 = 0 := fun h => by rw [div0.2 (by omega)]
  have hB : ¬ (i : Int) < (dlen B : Int) → B / 10 ^ i % 10 = 0 := fun h => by rw [div0.2 (by omega)]
  by_cases ka : (i : Int) < (dlen A : Int)
  · rw [cond_t (decide_eq_true ka), ixI_dgs (by omega) ka, Int.toNat_natCast]
    by_cases kb : (i : Int) < (dlen B : Int)
    · rw [cond_t (decide_eq_true kb), ixI_dgs (by omega) kb, Int.toNat_natCast, wrapI_of (x := s + _) (by omega) (by omega), wrapI_of (by omega) (by omega)]
    · rw [cond_f (decide_eq_false kb), hB kb, wrapI_of (by omega) (by omega)]
      simp
  · rw [cond_f (decide_eq_false ka), hA ka]
    by_cases kb : (i : Int) < (dlen B : Int)
    · rw [cond_t (decide_eq_true kb), ixI_dgs (by omega) kb, Int.toNat_natCast, wrapI_of (by omega) (by omega)]
      simp
    · rw [cond_f (decide_eq_false kb), hB kb]
      simp
theorem carry {A B : Nat} (i : Nat) : A / 10 ^ i + B / 10 ^ i ≤ (A + B) / 10 ^ i ∧ (A + B) / 10 ^ i ≤ A / 10 ^ i + B / 10 ^ i + 1 := by
  have hp : 0 < 10 ^ i := Nat.pow_pos (by decide)
  have h1 := Nat.div_add_mod A (10 ^ i)
  have h2 := Nat.div_add_mod B (10 ^ i)
  have h3 := Nat.mod_lt A hp
  have h4 := Nat.mod_lt B hp
  generalize 10 ^ i = p at *
  refine ⟨(Nat.le_div_iff_mul_le hp).2 ?_, Nat.le_of_lt_succ ((Nat.div_lt_iff_lt_mul hp).2 ?_)⟩
  · rw [Nat.add_mul, Nat.mul_comm _ p, Nat.mul_comm _ p]; omega
  · show A + B < (A / p + B / p + 2) * p
    rw [Nat.add_mul, Nat.add_mul, Nat.mul_comm (A / p) p, Nat.mul_comm (B / p) p]; omega
theorem plus_loop (fu A B : Nat) (n0 n1 : Option Bool) (hA : dlen A ≤ 600) (hB : dlen B ≤ 600) (hS : dlen (A + B) ≤ 700) : ∀ (m i n : Nat), i + m = dlen (A + B) → m < n →
    plusLoop fu n (frPlus n0 (dlen A) (cellsN A) n1 (dlen B) (cellsN B) (some (i == 0)) i (cellsD (dg i (A + B))) (((A + B) / 10 ^ i - A / 10 ^ i - B / 10 ^ i : Nat) : Int) (i : Int)) = some (big (A + B))
  | m, i, 0, _, h => by omega
  | m, i, n + 1, hi, hn => by
    have hc := carry (A := A) (B := B) i
    unfold plusLoop
    rw [loopF_succ, plus_step, plusBody]
    have go : 0 < m → plusW (dlen A) (cellsN A) (dlen B) (cellsN B) (((A + B) / 10 ^ i - A / 10 ^ i - B / 10 ^ i : Nat) : Int) (i : Int) (plusE (some (i == 0)) i (cellsD (dg i (A + B))) (i : Int)
        (fun a b d e f => loopF (en []) hPlus fu false Tryd.f51 [1, 1, 1, 0, 1, 0] 0 n (frPlus n0 (dlen A) (cellsN A) n1 (dlen B) (cellsN B) a b d e f))) = some (big (A + B)) := by
      intro hm
      have ih := plus_loop fu A B n0 n1 hA hB hS (m - 1) (i + 1) n (by omega) (by omega)
      unfold plusLoop at ih
      rw [plus_w (by omega) (by omega), plusE, room_eq (by omega), ← ih]
      have d1 := div_div10 A i
      have d2 := div_div10 B i
      have d3 := div_div10 (A + B) i
      generalize (A + B) / 10 ^ (i + 1) = z' at *
      generalize A / 10 ^ (i + 1) = x' at *
      generalize B / 10 ^ (i + 1) = y' at *
      have e1 : cellsD (dg i (A + B)) ++ [PV.int .i64 (((A + B) / 10 ^ i % 10 : Nat) : Int)] = cellsD (dg (i + 1) (A + B)) := by rw [dg_snoc]; simp [cellsD, cellD]
      rw [← e1]
      generalize (A + B) / 10 ^ i = z at *
      generalize A / 10 ^ i = x at *
      generalize B / 10 ^ i = y at *
      have e2 : (((z - x - y : Nat) : Int) + ((x % 10 : Nat) : Int) + ((y % 10 : Nat) : Int)).tmod 10 = ((z % 10 : Nat) : Int) := by
        rw [Int.tmod_eq_emod_of_nonneg (by omega)]; omega
      have e3 : (((z - x - y : Nat) : Int) + ((x % 10 : Nat) : Int) + ((y % 10 : Nat) : Int)).tdiv 10 = ((z' - x' - y' : Nat) : Int) := by
        rw [Int.tdiv_eq_ediv_of_nonneg (by omega)]; omega
      rw [e2, e3, wrapI_of (by omega) (by omega), wrapI_of (x := (i : Int) + 1) (by omega) (by omega)]
      simp
    have hz : m = 0 → (A + B) / 10 ^ i = 0 := fun h => div0.2 (by omega)
    by_cases hm : m = 0
    · have z0 := hz hm
      have := dlen_mono (show A ≤ A + B by omega)
      have := dlen_mono (show B ≤ A + B by omega)
      rw [cond_t (by rw [decide_eq_false (by omega)]; rfl), cond_f (by rw [decide_eq_false (by omega), z0]; simp)]
      subst hm
      have : i = dlen (A + B) := by omega
      rw [this]
      unfold big
      rw [← big_nl]
      rfl
    · by_cases ka : (i : Int) < (dlen A : Int)
      · rw [decide_eq_true ka]
        exact go (by omega)
      · rw [cond_t (by rw [decide_eq_false ka]; rfl)]
        by_cases kb : (i : Int) < (dlen B : Int)
        · rw [decide_eq_true kb]
          exact go (by omega)
        · have h1 := div0 (n := A) (i := i)
          have h2 := div0 (n := B) (i := i)
          have h3 := div0 (n := A + B) (i := i)
          rw [cond_t (by rw [Bool.or_eq_true, decide_eq_true_eq, decide_eq_true_eq]; omega)]
          exact go (by omega)
def p_Plus : PFn := ⟨fun xs k => match xs with | [.sl _ 1 l0 c0, .sl _ 1 l1 c1] => (decN l0 c0).bind fun A => (decN l1 c1).bind fun B => bif decide (dlen A ≤ 500) && decide (dlen B ≤ 500) then k (big (A + B)) else none | _ => none, false⟩
theorem ok_Plus : FOK NGd Wd 51 p_Plus := by
  refine fok wokd allOK_nil (h := hPlus) Tryd.func51 rfl (by decide) ?_ ?_
  · intro R xs k
    simp only [p_Plus]
    split
    · exact bind2_nat
    · rfl
  · intro xs r h
    simp only [p_Plus] at h
    split at h
    · rename_i n0 l0 c0 n1 l1 c1
      obtain ⟨A, B, h1, h2, hg, rfl⟩ := bind2_inv h
      obtain ⟨rfl, rfl⟩ := decN_inv h1
      obtain ⟨rfl, rfl⟩ := decN_inv h2
      simp only [Bool.and_eq_true, decide_eq_true_eq] at hg
      refine ⟨1000, (plus_raw 1000 n0 _ _ n1 _ _).trans ?_⟩
      have hS := dlen_add hg.1 hg.2
      have := plus_loop 1000 A B n0 n1 (by omega) (by omega) (by omega) (dlen (A + B)) 0 1000 (by omega) (by omega)
      simp only [Nat.pow_zero, Nat.div_one] at this
      rw [show A + B - A - B = 0 by omega] at this
      exact this
    · cases h
end Go.Proofs.YtdgoagnbpbehnaaDoor
