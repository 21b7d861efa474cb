/-
  Keys by the evaluator: eight, Clone.
-/
import Derived.Test.YtclhnfalebiieaaDoorKr
set_option linter.unusedVariables false
set_option linter.unusedSimpArgs false
namespace Go.Proofs.YtclhnfalebiieaaDoor
open Go.RowKit

theorem xorT (k N : Nat) (h : N < 2 ^ (k + 1)) : N ^^^ 2 ^ k = (N + 2 ^ k) % 2 ^ (k + 1) := by
  apply Nat.eq_of_testBit_eq
  intro j
  rw [Nat.testBit_xor, Nat.testBit_mod_two_pow, Nat.testBit_two_pow, Nat.add_comm N (2 ^ k)]
  rcases Nat.lt_trichotomy j k with hj | hj | hj
  · rw [Nat.testBit_two_pow_add_gt hj]
    have : ¬ k = j := by omega
    have h2 : j < k + 1 := by omega
    simp [this, h2]
  · subst hj
    rw [Nat.testBit_two_pow_add_eq]
    simp
  · have h1 : N.testBit j = false := Nat.testBit_lt_two_pow (Nat.lt_of_lt_of_le h (Nat.pow_le_pow_right (by omega) (by omega)))
    have h2 : ¬ j < k + 1 := by omega
    have : ¬ k = j := by omega
    simp [h1, h2, this]
theorem ofU {N : Nat} (h : N < 18446744073709551616) : (BitVec.ofInt IntKind.u64.bits (N : Int)).toNat = N := by
  show (BitVec.ofInt 64 (N : Int)).toNat = N
  rw [BitVec.ofInt_natCast, BitVec.toNat_ofNat]; exact Nat.mod_eq_of_lt (by omega)
/-- the number behind eight bytes -/
theorem back8 {U : Nat} (h : U < 18446744073709551616) : IntKind.i64.wrap (IntKind.u64.wrap ((BitVec.ofInt IntKind.u64.bits (U : Int) ^^^ BitVec.ofInt IntKind.u64.bits 9223372036854775808).toNat : Int)) = (U : Int) - 9223372036854775808 := by
  have h1 : (BitVec.ofInt IntKind.u64.bits (9223372036854775808 : Int)).toNat = 2 ^ 63 := by decide
  rw [BitVec.toNat_xor, h1, ofU h, xorT 63 U (by omega), wrapU, IntKind.wrap_i64]
  omega
theorem step8 {U x : Nat} (h : U ≤ 72057594037927935) (hx : x < 256) : IntKind.u64.wrap ((BitVec.ofInt IntKind.u64.bits (IntKind.u64.wrap ((U : Int) * 2 ^ min (Int.toNat 8) IntKind.u64.bits)) ||| BitVec.ofInt IntKind.u64.bits (IntKind.u64.wrap (x : Int))).toNat : Int) = ((U * 256 + x : Nat) : Int) := by
  have e1 : IntKind.u64.wrap ((U : Int) * 2 ^ min (Int.toNat 8) IntKind.u64.bits) = ((2 ^ 8 * U : Nat) : Int) := by
    rw [show (2 : Int) ^ min (Int.toNat 8) IntKind.u64.bits = 256 from rfl, wrapU]; omega
  have e2 : IntKind.u64.wrap (x : Int) = (x : Int) := by rw [wrapU]; omega
  rw [e1, e2, BitVec.toNat_or, ofU (by omega), ofU (by omega), ← Nat.two_pow_add_eq_or_of_lt (by omega), wrapU]
  omega
/-- bytes as a number, the greatest first -/
def be (l : List UInt8) : Nat := l.foldl (fun u c => u * 256 + c.toNat) 0
theorem be_snoc (l : List UInt8) (c : UInt8) : be (l ++ [c]) = be l * 256 + c.toNat := by simp [be]
theorem be_lt : ∀ (n : Nat) (l : List UInt8), l.length = n → be l < 256 ^ n := by
  intro n
  induction n with
  | zero => intro l h; rw [List.length_eq_zero_iff.1 h]; decide
  | succ n ih =>
    intro l h
    have hne : l ≠ [] := by intro e; rw [e] at h; cases h
    obtain ⟨t, c, rfl⟩ : ∃ t c, l = t ++ [c] := ⟨l.dropLast, l.getLast hne, (List.dropLast_concat_getLast hne).symm⟩
    have hl : t.length = n := by simpa using h
    have := ih t hl
    have hc := c.toNat_lt
    rw [be_snoc, Nat.pow_succ]
    omega
def resE (nl : Option Bool) (l : List UInt8) : PV :=
  bif decide (8 ≤ l.length) then .tuple [.int .i64 ((be (l.take 8) : Int) - 9223372036854775808), .sl nl 1 (l.length - 8) (bC (l.drop 8)), .bool true] else .tuple [.int .i64 0, .sl (some true) 1 0 [], .bool false]
def hEi : Hints := ⟨[], [(0, ⟨[(0, false), (5, false), (12, false), (13, false), (14, false)], []⟩)]⟩
def frEi (n0 : Option Bool) (l0 : Nat) (c0 : List PV) (u : Int) (n1 : Option Bool) (l1 : Nat) (c1 : List PV) (L i : Int) : St :=
  frame 29 [(0, (.sl n0 1 l0 c0, 0)), (5, (.int .u64 u, 0)), (12, (.sl n1 1 l1 c1, 0)), (13, (.int .i64 L, 0)), (14, (.int .i64 i, 0))] []
noncomputable def eiLoop (fu n : Nat) (st : St) : Option PV := loopF (en []) hEi fu false Tryd.f50 [1, 1, 1, 0, 1, 0] 0 n st
theorem ei_raw (fu : Nat) (n0 : Option Bool) (l0 : Nat) (c0 : List PV) : prun (en []) hEi fu false Tryd.f50 [.sl n0 1 l0 c0] =
    bif decide ((l0 : Int) < 8) then some (.tuple [.int .i64 0, .sl (some true) 1 0 [], .bool false]) else bif decide (8 ≤ (l0 : Int)) then eiLoop fu fu (frEi n0 l0 c0 0 n0 8 ((c0.take (Int.toNat 8 * 1)).drop (0 * 1)) 8 0) else none := by kernel_rfl
theorem ei_step (fu : Nat) (n0 : Option Bool) (l0 : Nat) (c0 : List PV) (u : Int) (n1 : Option Bool) (l1 : Nat) (c1 : List PV) (L i : Int) (K : St → Option PV) :
    stepF (en []) hEi fu false Tryd.f50 [1, 1, 1, 0, 1, 0] (frEi n0 l0 c0 u n1 l1 c1 L i) (fun st => pnorm (hEi.loop.lookup 0) st K) =
    bif decide (i < L) then ixY l1 c1 i fun v => K (frEi n0 l0 c0 (IntKind.u64.wrap ((BitVec.ofInt IntKind.u64.bits (IntKind.u64.wrap (u * 2 ^ min (Int.toNat 8) IntKind.u64.bits)) ||| BitVec.ofInt IntKind.u64.bits (IntKind.u64.wrap v)).toNat : Int)) n1 l1 c1 L (IntKind.i64.wrap (i + 1)))
    else bif decide (8 ≤ (l0 : Int)) then some (.tuple [.int .i64 (IntKind.i64.wrap (IntKind.u64.wrap ((BitVec.ofInt IntKind.u64.bits u ^^^ BitVec.ofInt IntKind.u64.bits 9223372036854775808).toNat : Int))), .sl n0 1 (l0 - Int.toNat 8) ((c0.take (l0 * 1)).drop (Int.toNat 8 * 1)), .bool true]) else none := by kernel_rfl
theorem ei_loop (fu : Nat) (n0 : Option Bool) (l : List UInt8) (hl : 8 ≤ l.length) : ∀ (k i n : Nat), i + k = 8 → k < n →
    eiLoop fu n (frEi n0 l.length (bC l) (be (l.take i) : Int) n0 8 (bC (l.take 8)) 8 (i : Int)) = some (resE n0 l)
  | k, i, 0, _, h => by omega
  | 0, i, n + 1, hi, hn => by
    unfold eiLoop
    have hi8 : i = 8 := by omega
    subst hi8
    have hlt := be_lt 8 (l.take 8) (by rw [List.length_take]; omega)
    rw [loopF_succ, ei_step, cond_f (decide_eq_false (by omega)), cond_t (decide_eq_true (by omega)), back8 (by simpa using hlt)]
    unfold resE
    rw [cond_t (decide_eq_true hl)]
    have e2 : ((bC l).take (l.length * 1)).drop (Int.toNat 8 * 1) = bC (l.drop 8) := by
      rw [List.take_of_length_le (by simp [bC]), bC, bC, List.map_drop]; rfl
    rw [e2]
    rfl
  | k + 1, i, n + 1, hi, hn => by
    unfold eiLoop
    have hc : (l.take 8)[i]? = some l[i] := by rw [List.getElem?_take_of_lt (by omega)]; exact List.getElem?_eq_getElem (by omega)
    have hlt := be_lt i (l.take i) (by rw [List.length_take]; omega)
    have hb : be (l.take i) ≤ 72057594037927935 := by
      have := Nat.pow_le_pow_right (n := 256) (by decide) (show i ≤ 7 by omega)
      omega
    rw [loopF_succ, ei_step, cond_t (decide_eq_true (by omega)), ixY_eq (by omega) hc, step8 hb (by have := l[i].toNat_lt; omega), wrapI_of (by omega) (by omega)]
    have ih := ei_loop fu n0 l hl k (i + 1) n (by omega) (by omega)
    unfold eiLoop at ih
    have e : be (l.take (i + 1)) = be (l.take i) * 256 + (l[i]).toNat := by
      rw [List.take_add_one, List.getElem?_eq_getElem (by omega), Option.toList_some, be_snoc]
    rw [e] at ih
    exact ih
def p_eight : PFn := ⟨fun xs k => match xs with | [.sl nl 1 n c] => (decY n c).bind fun l => bif decide (l.length ≤ 100000) then
    (bif decide (8 ≤ l.length) then k (.tuple [.int .i64 ((be (l.take 8) : Int) - 9223372036854775808), .sl nl 1 (l.length - 8) (bC (l.drop 8)), .bool true]) else k (.tuple [.int .i64 0, .sl (some true) 1 0 [], .bool false])) else none | _ => none, false⟩
theorem ok_eight : FOK NGk Tabs 50 p_eight := by
  refine fok wokk allOK_nil (h := hEi) Tryd.func50 rfl (by decide) ?_ ?_
  · intro R xs k
    simp only [p_eight]
    split
    · rename_i nl n c
      cases decY n c with
      | none => rfl
      | some l =>
        simp only [Option.bind_some]
        cases decide (l.length ≤ 100000) <;> cases decide (8 ≤ l.length) <;> rfl
    · rfl
  · intro xs r h
    simp only [p_eight] at h
    split at h
    · rename_i nl n c
      obtain ⟨l, h1, g⟩ := Option.bind_eq_some_iff.1 h
      obtain ⟨rfl, rfl⟩ := decY_inv h1
      rcases hb : decide (l.length ≤ 100000) with _ | _ <;> rw [hb] at g
      · cases g
      · simp only [cond_true] at g
        refine ⟨20, (ei_raw 20 nl _ _).trans ?_⟩
        by_cases h8 : 8 ≤ l.length
        · rw [decide_eq_true h8, cond_true] at g
          rw [cond_f (decide_eq_false (by omega)), cond_t (decide_eq_true (by omega))]
          have := ei_loop 20 nl l h8 8 0 20 (by omega) (by omega)
          have e2 : ((bC l).take (Int.toNat 8 * 1)).drop (0 * 1) = bC (l.take 8) := by
            rw [List.drop_zero, bC, bC, List.map_take]; rfl
          rw [e2, ← g]
          unfold resE at this
          rw [decide_eq_true h8] at this
          exact this
        · rw [decide_eq_false h8, cond_false] at g
          rw [cond_t (decide_eq_true (by omega)), g]
    · cases h
end Go.Proofs.YtclhnfalebiieaaDoor
