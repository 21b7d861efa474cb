/-
  Keys by the evaluator: bytes; eight, untext.
  Keys by the evaluator: eight, Clone.
  Keys by the evaluator: Clone, power.
  Keys by the evaluator: the order of numbers and of texts.
  Keys by the evaluator: lists of values; long.
  Keys by the evaluator: old contracts whose result is a new slice of bytes.
  Keys by the evaluator: what keys.Put does, by its old contract.
-/
import Derived.Test.YtclhnfalebiieaaDoorKq
import Derived.Test.YtclhnfalebiieaaDoorKeysB
set_option linter.unusedVariables false
set_option linter.unusedSimpArgs false
namespace Go.Proofs.YtclhnfalebiieaaDoor
open Go.RowKit

/-! ## bytes -/
def bC (l : List UInt8) : List PV := l.map bytePV
/-- the bytes that cells are -/
def byC : List PV → Option (List UInt8)
  | [] => some []
  | .int .u8 d :: l => if 0 ≤ d ∧ d < 256 then (byC l).map fun t => UInt8.ofNat d.toNat :: t else none
  | _ => none
theorem byC_bC : ∀ (l : List UInt8), byC (bC l) = some l
  | [] => rfl
  | c :: l => by
    have hc := c.toNat_lt
    show (if 0 ≤ (c.toNat : Int) ∧ (c.toNat : Int) < 256 then (byC (bC l)).map fun t => UInt8.ofNat (c.toNat : Int).toNat :: t else none) = _
    rw [if_pos (by omega), byC_bC l]
    simp
theorem byC_inv : ∀ {c : List PV} {l : List UInt8}, byC c = some l → c = bC l
  | [], l, h => by simp [byC] at h; subst h; rfl
  | x :: c, l, h => by
    unfold byC at h
    split at h
    · rename_i e; cases e
    · rename_i d l' e
      injection e with e1 e2
      subst e1 e2
      split at h
      · rename_i hd
        obtain ⟨t, ht, rfl⟩ := Option.map_eq_some_iff.1 h
        rw [byC_inv ht]
        show PV.int .u8 d :: bC t = bytePV (UInt8.ofNat d.toNat) :: bC t
        congr 1
        unfold bytePV
        congr 1
        simp
        omega
      · cases h
    · cases h
/-- a slice of bytes -/
def decY (n : Nat) (c : List PV) : Option (List UInt8) := (byC c).bind fun l => if n = l.length then some l else none
theorem decY_bC (l : List UInt8) : decY l.length (bC l) = some l := by unfold decY; rw [byC_bC]; simp
theorem decY_inv {n : Nat} {c : List PV} {l : List UInt8} (h : decY n c = some l) : n = l.length ∧ c = bC l := by
  unfold decY at h
  obtain ⟨m, hm, h⟩ := Option.bind_eq_some_iff.1 h
  split at h
  · rename_i hl
    injection h with h
    subst h
    exact ⟨hl, byC_inv hm⟩
  · cases h
def ixY {R : Type} (len : Nat) (c : List PV) (i : Int) (K : Int → Option R) : Option R :=
  bif decide (0 ≤ i) && decide (i < (len : Int)) then ((c.drop (i.toNat * 1)).take 1).head?.bind fun v => (PV.asInt .u8 v).bind K else none
theorem ixY_eq {R : Type} {len i : Nat} {l : List UInt8} {d : UInt8} {K : Int → Option R} (hl : i < len) (hd : l[i]? = some d) : ixY len (bC l) (i : Int) K = K (d.toNat : Int) := by
  unfold ixY
  rw [cond_t (by rw [decide_eq_true (by omega), decide_eq_true (by omega)]; rfl), Nat.mul_one, Int.toNat_natCast]
  have : (((bC l).drop i).take 1).head? = some (bytePV d) := by
    rw [List.head?_take, if_neg (by decide), List.head?_drop, bC, List.getElem?_map, hd]; rfl
  rw [this]
  rfl
def roomY {R : Type} (l m : Nat) (x : Option R) : Option R := bif decide (l + m ≤ 9223372036854775807) && decide ((l + m) * 1 ≤ 140737488355328) then x else none
theorem roomY_eq {R : Type} {l m : Nat} {x : Option R} (h : l + m ≤ 1000000) : roomY l m x = x := by
  unfold roomY
  exact cond_t (by rw [decide_eq_true (by omega), decide_eq_true (by omega)]; rfl)

/-! ## untext -/
/-- a text and what is behind its end -/
def untL : List UInt8 → List UInt8 → Option (List UInt8 × List UInt8)
  | [], _ => none
  | c :: t, acc =>
    if c = 0 then
      match t with
      | [] => none
      | d :: t' => if d = 255 then untL t' (acc ++ [0]) else if d = 1 then some (acc, t') else none
    else untL t (acc ++ [c])
def resU (nl : Option Bool) (o : Option (List UInt8 × List UInt8)) : PV :=
  .tuple [.str (o.elim [] fun p => p.1), .sl (bif o.isSome then nl else some true) 1 (o.elim 0 fun p => p.2.length) (bC (o.elim [] fun p => p.2)), .bool o.isSome]
def hUn : Hints := ⟨[], [(0, ⟨[(0, false), (5, true), (6, false)], []⟩)]⟩
def frUn (n0 : Option Bool) (l0 : Nat) (c0 : List PV) (n5 : Option Bool) (l5 : Nat) (c5 : List PV) (i : Int) : St := frame 60 [(0, (.sl n0 1 l0 c0, 0)), (5, (.sl n5 1 l5 c5, 67)), (6, (.int .i64 i, 0))] []
noncomputable def unLoop (fu n : Nat) (st : St) : Option PV := loopF (en []) hUn fu false Tryd.f51 [1, 1, 0, 1, 0] 0 n st
theorem un_raw (fu : Nat) (n0 : Option Bool) (l0 : Nat) (c0 : List PV) : prun (en []) hUn fu false Tryd.f51 [.sl n0 1 l0 c0] = unLoop fu fu (frUn n0 l0 c0 (some true) 0 [] 0) := by kernel_rfl
def failU : Option PV := some (.tuple [.str [], .sl (some true) 1 0 [], .bool false])
def unEnd (n0 : Option Bool) (l0 : Nat) (c0 c5 : List PV) (j : Int) : Option PV :=
  bif decide (j < (l0 : Int)) then ixY l0 c0 j fun v => bif v == 1 then (pbytes c5).bind fun s =>
    bif decide (0 ≤ IntKind.i64.wrap (j + 1)) && decide (IntKind.i64.wrap (j + 1) ≤ (l0 : Int)) then
      some (.tuple [.str s, .sl n0 1 (l0 - (IntKind.i64.wrap (j + 1)).toNat) ((c0.take (l0 * 1)).drop ((IntKind.i64.wrap (j + 1)).toNat * 1)), .bool true]) else none
    else failU
  else failU
def unBody (n0 : Option Bool) (l0 : Nat) (c0 : List PV) (n5 : Option Bool) (l5 : Nat) (c5 : List PV) (i : Int) (G : Option Bool → Nat → List PV → Int → Option PV) : Option PV :=
  bif decide (i < (l0 : Int)) then ixY l0 c0 i fun v =>
    bif !(v == 0) then ixY l0 c0 i fun v => roomY l5 1 (G (n5.map (· && false)) (l5 + 1) (c5 ++ [.int .u8 v]) (IntKind.i64.wrap (i + 1)))
    else bif decide (IntKind.i64.wrap (i + 1) < (l0 : Int)) then ixY l0 c0 (IntKind.i64.wrap (i + 1)) fun v =>
        bif v == 255 then roomY l5 1 (G (n5.map (· && false)) (l5 + 1) (c5 ++ [.int .u8 0]) (IntKind.i64.wrap (IntKind.i64.wrap (i + 1) + 1)))
        else unEnd n0 l0 c0 c5 (IntKind.i64.wrap (i + 1))
      else unEnd n0 l0 c0 c5 (IntKind.i64.wrap (i + 1))
  else failU
theorem un_step (fu : Nat) (n0 : Option Bool) (l0 : Nat) (c0 : List PV) (n5 : Option Bool) (l5 : Nat) (c5 : List PV) (i : Int) (K : St → Option PV) :
    stepF (en []) hUn fu false Tryd.f51 [1, 1, 0, 1, 0] (frUn n0 l0 c0 n5 l5 c5 i) (fun st => pnorm (hUn.loop.lookup 0) st K) =
    unBody n0 l0 c0 n5 l5 c5 i (fun a b c j => K (frUn n0 l0 c0 a b c j)) := by kernel_rfl
theorem pbytes_bC : ∀ (l : List UInt8), pbytes (bC l) = some l
  | [] => rfl
  | c :: l => by
    have hc := c.toNat_lt
    show pbytes (PV.int .u8 (c.toNat : Int) :: bC l) = _
    simp only [pbytes, pbytes_bC l]
    have : PV.asInt .u8 (PV.int .u8 (c.toNat : Int)) = some (c.toNat : Int) := rfl
    rw [this]
    simp
theorem bC_snoc (l : List UInt8) (c : UInt8) : bC l ++ [PV.int .u8 (c.toNat : Int)] = bC (l ++ [c]) := by simp [bC, bytePV]
theorem un_loop (fu : Nat) (n0 : Option Bool) (l : List UInt8) (hl : l.length ≤ 100000) : ∀ (k i n : Nat) (n5 : Option Bool) (acc : List UInt8), i + k = l.length → k < n → acc.length ≤ i →
    unLoop fu n (frUn n0 l.length (bC l) n5 acc.length (bC acc) (i : Int)) = some (resU n0 (untL (l.drop i) acc))
  | k, i, 0, n5, acc, _, h, _ => by omega
  | 0, i, n + 1, n5, acc, hi, hn, ha => by
    unfold unLoop
    rw [loopF_succ, un_step, unBody, cond_f (decide_eq_false (by omega)), List.drop_of_length_le (by omega)]
    rfl
  | k + 1, i, n + 1, n5, acc, hi, hn, ha => by
    unfold unLoop
    have hc := List.getElem?_eq_getElem (l := l) (i := i) (by omega)
    rw [loopF_succ, un_step, unBody, cond_t (decide_eq_true (by omega)), ixY_eq (by omega) hc, ixY_eq (by omega) hc, List.drop_eq_getElem_cons (by omega), wrapI_of (x := (i : Int) + 1) (by omega) (by omega), roomY_eq (by omega), roomY_eq (by omega)]
    generalize hcc : l[i] = c
    unfold untL
    by_cases h0 : c = 0
    · subst h0
      rw [cond_f (by decide), if_pos rfl]
      by_cases h1 : i + 1 < l.length
      · have hd := List.getElem?_eq_getElem (l := l) (i := i + 1) (by omega)
        have e1 : (i : Int) + 1 = ((i + 1 : Nat) : Int) := by omega
        rw [e1, cond_t (decide_eq_true (by omega)), ixY_eq (by omega) hd, List.drop_eq_getElem_cons h1]
        generalize hdd : l[i + 1] = d
        simp only
        have e255 : ((d.toNat : Int) == 255) = decide (d = 255) := by
          rw [Bool.eq_iff_iff]; simp only [beq_iff_eq, decide_eq_true_eq]
          constructor
          · intro e; apply UInt8.toNat_inj.1; simp only [UInt8.reduceToNat]; omega
          · intro e; subst e; rfl
        have e01 : ((d.toNat : Int) == 1) = decide (d = 1) := by
          rw [Bool.eq_iff_iff]; simp only [beq_iff_eq, decide_eq_true_eq]
          constructor
          · intro e; apply UInt8.toNat_inj.1; simp only [UInt8.reduceToNat]; omega
          · intro e; subst e; rfl
        rw [e255, wrapI_of (x := ((i + 1 : Nat) : Int) + 1) (by omega) (by omega)]
        by_cases hx : d = 255
        · rw [decide_eq_true hx, cond_true, if_pos hx, show ((i + 1 : Nat) : Int) + 1 = ((i + 1 + 1 : Nat) : Int) by omega]
          have ih := un_loop fu n0 l hl (k - 1) (i + 1 + 1) n (n5.map (· && false)) (acc ++ [0]) (by omega) (by omega) (by simp; omega)
          rw [List.length_append] at ih
          unfold unLoop at ih
          rw [← ih, ← bC_snoc]
          rfl
        · rw [decide_eq_false hx, cond_false, if_neg hx]
          unfold unEnd
          have hd' : l[i + 1]? = some d := by rw [hd, hdd]
          rw [cond_t (decide_eq_true (by omega)), ixY_eq (by omega) hd', e01, pbytes_bC]
          by_cases hy : d = 1
          · rw [decide_eq_true hy, cond_true, if_pos hy, wrapI_of (by omega) (by omega)]
            simp only [Option.bind_some]
            rw [cond_t (by rw [decide_eq_true (by omega), decide_eq_true (by omega)]; rfl), show (((i + 1 : Nat) : Int) + 1).toNat = i + 1 + 1 by omega]
            unfold resU
            simp only [Option.elim_some, Option.isSome_some, cond_true, List.length_drop, Nat.mul_one]
            have e2 : ((bC l).take l.length).drop (i + 1 + 1) = bC (l.drop (i + 1 + 1)) := by
              rw [List.take_of_length_le (by simp [bC]), bC, bC, List.map_drop]
            rw [e2]
          · rw [decide_eq_false hy, cond_false, if_neg hy]; rfl
      · rw [cond_f (decide_eq_false (by omega)), List.drop_of_length_le (by omega)]
        unfold unEnd
        rw [cond_f (decide_eq_false (by omega))]
        rfl
    · rw [cond_t (by
        have : ((c.toNat : Int) == 0) = false := by
          rw [beq_eq_false_iff_ne]; intro e; apply h0; apply UInt8.toNat_inj.1; simp only [UInt8.reduceToNat]; omega
        rw [this]; rfl), if_neg h0]
      have ih := un_loop fu n0 l hl k (i + 1) n (n5.map (· && false)) (acc ++ [c]) (by omega) (by omega) (by simp; omega)
      rw [List.length_append] at ih
      unfold unLoop at ih
      rw [← ih, ← bC_snoc]
      rfl
def p_untext : PFn := ⟨fun xs k => match xs with | [.sl nl 1 n c] => (decY n c).bind fun l => bif decide (l.length ≤ 100000) then k (resU nl (untL l [])) else none | _ => none, false⟩
theorem bindY_nat {R : Type} {a : Option (List UInt8)} {g : List UInt8 → Bool} {v : List UInt8 → PV} {k : PV → Option R} :
    (a.bind fun A => bif g A then k (v A) else none) = (a.bind fun A => bif g A then some (v A) else none).bind k := by
  cases a with
  | none => rfl
  | some a => exact cond_nat
theorem bindY_inv {a : Option (List UInt8)} {g : List UInt8 → Bool} {v : List UInt8 → PV} {r : PV} (h : (a.bind fun A => bif g A then some (v A) else none) = some r) : ∃ A, a = some A ∧ g A = true ∧ r = v A := by
  obtain ⟨A, h1, h⟩ := Option.bind_eq_some_iff.1 h
  cases hg : g A <;> rw [hg] at h
  · cases h
  · injection h with h
    exact ⟨A, h1, hg, h.symm⟩
theorem ok_untext : FOK NGk Tabs 51 p_untext := by
  refine fok wokk allOK_nil (h := hUn) Tryd.func51 rfl (by decide) ?_ ?_
  · intro R xs k
    simp only [p_untext]
    split
    · exact bindY_nat
    · rfl
  · intro xs r h
    simp only [p_untext] at h
    split at h
    · rename_i nl n c
      obtain ⟨l, h1, hg, rfl⟩ := bindY_inv h
      obtain ⟨rfl, rfl⟩ := decY_inv h1
      simp only [decide_eq_true_eq] at hg
      refine ⟨l.length + 1, (un_raw _ nl _ _).trans ?_⟩
      exact un_loop (l.length + 1) nl l hg l.length 0 (l.length + 1) (some true) [] (by omega) (by omega) (by simp)
    · cases h
end Go.Proofs.YtclhnfalebiieaaDoor
set_option linter.unusedVariables false
set_option linter.unusedSimpArgs false
namespace Go.Proofs.YtclhnfalebiieaaDoor
open Go.RowKit

theorem xorT (k N : Nat) (h : N < 2 ^ (k + 1)) : N ^^^ 2 ^ k = (N + 2 ^ k) % 2 ^ (k + 1) := by
  apply Nat.eq_of_testBit_eq
  intro j
  rw [Nat.testBit_xor, Nat.testBit_mod_two_pow, Nat.testBit_two_pow, Nat.add_comm N (2 ^ k)]
  rcases Nat.lt_trichotomy j k with hj | hj | hj
  · rw [Nat.testBit_two_pow_add_gt hj]
    have : ¬ k = j := by omega
    have h2 : j < k + 1 := by omega
    simp [this, h2]
  · subst hj
    rw [Nat.testBit_two_pow_add_eq]
    simp
  · have h1 : N.testBit j = false := Nat.testBit_lt_two_pow (Nat.lt_of_lt_of_le h (Nat.pow_le_pow_right (by omega) (by omega)))
    have h2 : ¬ j < k + 1 := by omega
    have : ¬ k = j := by omega
    simp [h1, h2, this]
theorem ofU {N : Nat} (h : N < 18446744073709551616) : (BitVec.ofInt IntKind.u64.bits (N : Int)).toNat = N := by
  show (BitVec.ofInt 64 (N : Int)).toNat = N
  rw [BitVec.ofInt_natCast, BitVec.toNat_ofNat]; exact Nat.mod_eq_of_lt (by omega)
/-- the number behind eight bytes -/
theorem back8 {U : Nat} (h : U < 18446744073709551616) : IntKind.i64.wrap (IntKind.u64.wrap ((BitVec.ofInt IntKind.u64.bits (U : Int) ^^^ BitVec.ofInt IntKind.u64.bits 9223372036854775808).toNat : Int)) = (U : Int) - 9223372036854775808 := by
  have h1 : (BitVec.ofInt IntKind.u64.bits (9223372036854775808 : Int)).toNat = 2 ^ 63 := by decide
  rw [BitVec.toNat_xor, h1, ofU h, xorT 63 U (by omega), wrapU, IntKind.wrap_i64]
  omega
theorem step8 {U x : Nat} (h : U ≤ 72057594037927935) (hx : x < 256) : IntKind.u64.wrap ((BitVec.ofInt IntKind.u64.bits (IntKind.u64.wrap ((U : Int) * 2 ^ min (Int.toNat 8) IntKind.u64.bits)) ||| BitVec.ofInt IntKind.u64.bits (IntKind.u64.wrap (x : Int))).toNat : Int) = ((U * 256 + x : Nat) : Int) := by
  have e1 : IntKind.u64.wrap ((U : Int) * 2 ^ min (Int.toNat 8) IntKind.u64.bits) = ((2 ^ 8 * U : Nat) : Int) := by
    rw [show (2 : Int) ^ min (Int.toNat 8) IntKind.u64.bits = 256 from rfl, wrapU]; omega
  have e2 : IntKind.u64.wrap (x : Int) = (x : Int) := by rw [wrapU]; omega
  rw [e1, e2, BitVec.toNat_or, ofU (by omega), ofU (by omega), ← Nat.two_pow_add_eq_or_of_lt (by omega), wrapU]
  omega
/-- bytes as a number, the greatest first -/
def be (l : List UInt8) : Nat := l.foldl (fun u c => u * 256 + c.toNat) 0
theorem be_snoc (l : List UInt8) (c : UInt8) : be (l ++ [c]) = be l * 256 + c.toNat := by simp [be]
theorem be_lt : ∀ (n : Nat) (l : List UInt8), l.length = n → be l < 256 ^ n := by
  intro n
  induction n with
  | zero => intro l h; rw [List.length_eq_zero_iff.1 h]; decide
  | succ n ih =>
    intro l h
    have hne : l ≠ [] := by intro e; rw [e] at h; cases h
    obtain ⟨t, c, rfl⟩ : ∃ t c, l = t ++ [c] := ⟨l.dropLast, l.getLast hne, (List.dropLast_concat_getLast hne).symm⟩
    have hl : t.length = n := by simpa using h
    have := ih t hl
    have hc := c.toNat_lt
    rw [be_snoc, Nat.pow_succ]
    omega
def resE (nl : Option Bool) (l : List UInt8) : PV :=
  bif decide (8 ≤ l.length) then .tuple [.int .i64 ((be (l.take 8) : Int) - 9223372036854775808), .sl nl 1 (l.length - 8) (bC (l.drop 8)), .bool true] else .tuple [.int .i64 0, .sl (some true) 1 0 [], .bool false]
def hEi : Hints := ⟨[], [(0, ⟨[(0, false), (5, false), (12, false), (13, false), (14, false)], []⟩)]⟩
def frEi (n0 : Option Bool) (l0 : Nat) (c0 : List PV) (u : Int) (n1 : Option Bool) (l1 : Nat) (c1 : List PV) (L i : Int) : St :=
  frame 29 [(0, (.sl n0 1 l0 c0, 0)), (5, (.int .u64 u, 0)), (12, (.sl n1 1 l1 c1, 0)), (13, (.int .i64 L, 0)), (14, (.int .i64 i, 0))] []
noncomputable def eiLoop (fu n : Nat) (st : St) : Option PV := loopF (en []) hEi fu false Tryd.f50 [1, 1, 1, 0, 1, 0] 0 n st
theorem ei_raw (fu : Nat) (n0 : Option Bool) (l0 : Nat) (c0 : List PV) : prun (en []) hEi fu false Tryd.f50 [.sl n0 1 l0 c0] =
    bif decide ((l0 : Int) < 8) then some (.tuple [.int .i64 0, .sl (some true) 1 0 [], .bool false]) else bif decide (8 ≤ (l0 : Int)) then eiLoop fu fu (frEi n0 l0 c0 0 n0 8 ((c0.take (Int.toNat 8 * 1)).drop (0 * 1)) 8 0) else none := by kernel_rfl
theorem ei_step (fu : Nat) (n0 : Option Bool) (l0 : Nat) (c0 : List PV) (u : Int) (n1 : Option Bool) (l1 : Nat) (c1 : List PV) (L i : Int) (K : St → Option PV) :
    stepF (en []) hEi fu false Tryd.f50 [1, 1, 1, 0, 1, 0] (frEi n0 l0 c0 u n1 l1 c1 L i) (fun st => pnorm (hEi.loop.lookup 0) st K) =
    bif decide (i < L) then ixY l1 c1 i fun v => K (frEi n0 l0 c0 (IntKind.u64.wrap ((BitVec.ofInt IntKind.u64.bits (IntKind.u64.wrap (u * 2 ^ min (Int.toNat 8) IntKind.u64.bits)) ||| BitVec.ofInt IntKind.u64.bits (IntKind.u64.wrap v)).toNat : Int)) n1 l1 c1 L (IntKind.i64.wrap (i + 1)))
    else bif decide (8 ≤ (l0 : Int)) then some (.tuple [.int .i64 (IntKind.i64.wrap (IntKind.u64.wrap ((BitVec.ofInt IntKind.u64.bits u ^^^ BitVec.ofInt IntKind.u64.bits 9223372036854775808).toNat : Int))), .sl n0 1 (l0 - Int.toNat 8) ((c0.take (l0 * 1)).drop (Int.toNat 8 * 1)), .bool true]) else none := by kernel_rfl
theorem ei_loop (fu : Nat) (n0 : Option Bool) (l : List UInt8) (hl : 8 ≤ l.length) : ∀ (k i n : Nat), i + k = 8 → k < n →
    eiLoop fu n (frEi n0 l.length (bC l) (be (l.take i) : Int) n0 8 (bC (l.take 8)) 8 (i : Int)) = some (resE n0 l)
  | k, i, 0, _, h => by omega
  | 0, i, n + 1, hi, hn => by
    unfold eiLoop
    have hi8 : i = 8 := by omega
    subst hi8
    have hlt := be_lt 8 (l.take 8) (by rw [List.length_take]; omega)
    rw [loopF_succ, ei_step, cond_f (decide_eq_false (by omega)), cond_t (decide_eq_true (by omega)), back8 (by simpa using hlt)]
    unfold resE
    rw [cond_t (decide_eq_true hl)]
    have e2 : ((bC l).take (l.length * 1)).drop (Int.toNat 8 * 1) = bC (l.drop 8) := by
      rw [List.take_of_length_le (by simp [bC]), bC, bC, List.map_drop]; rfl
    rw [e2]
    rfl
  | k + 1, i, n + 1, hi, hn => by
    unfold eiLoop
    have hc : (l.take 8)[i]? = some l[i] := by rw [List.getElem?_take_of_lt (by omega)]; exact List.getElem?_eq_getElem (by omega)
    have hlt := be_lt i (l.take i) (by rw [List.length_take]; omega)
    have hb : be (l.take i) ≤ 72057594037927935 := by
      have := Nat.pow_le_pow_right (n := 256) (by decide) (show i ≤ 7 by omega)
      omega
    rw [loopF_succ, ei_step, cond_t (decide_eq_true (by omega)), ixY_eq (by omega) hc, step8 hb (by have := l[i].toNat_lt; omega), wrapI_of (by omega) (by omega)]
    have ih := ei_loop fu n0 l hl k (i + 1) n (by omega) (by omega)
    unfold eiLoop at ih
    have e : be (l.take (i + 1)) = be (l.take i) * 256 + (l[i]).toNat := by
      rw [List.take_add_one, List.getElem?_eq_getElem (by omega), Option.toList_some, be_snoc]
    rw [e] at ih
    exact ih
def p_eight : PFn := ⟨fun xs k => match xs with | [.sl nl 1 n c] => (decY n c).bind fun l => bif decide (l.length ≤ 100000) then
    (bif decide (8 ≤ l.length) then k (.tuple [.int .i64 ((be (l.take 8) : Int) - 9223372036854775808), .sl nl 1 (l.length - 8) (bC (l.drop 8)), .bool true]) else k (.tuple [.int .i64 0, .sl (some true) 1 0 [], .bool false])) else none | _ => none, false⟩
theorem ok_eight : FOK NGk Tabs 50 p_eight := by
  refine fok wokk allOK_nil (h := hEi) Tryd.func50 rfl (by decide) ?_ ?_
  · intro R xs k
    simp only [p_eight]
    split
    · rename_i nl n c
      cases decY n c with
      | none => rfl
      | some l =>
        simp only [Option.bind_some]
        cases decide (l.length ≤ 100000) <;> cases decide (8 ≤ l.length) <;> rfl
    · rfl
  · intro xs r h
    simp only [p_eight] at h
    split at h
    · rename_i nl n c
      obtain ⟨l, h1, g⟩ := Option.bind_eq_some_iff.1 h
      obtain ⟨rfl, rfl⟩ := decY_inv h1
      rcases hb : decide (l.length ≤ 100000) with _ | _ <;> rw [hb] at g
      · cases g
      · simp only [cond_true] at g
        refine ⟨20, (ei_raw 20 nl _ _).trans ?_⟩
        by_cases h8 : 8 ≤ l.length
        · rw [decide_eq_true h8, cond_true] at g
          rw [cond_f (decide_eq_false (by omega)), cond_t (decide_eq_true (by omega))]
          have := ei_loop 20 nl l h8 8 0 20 (by omega) (by omega)
          have e2 : ((bC l).take (Int.toNat 8 * 1)).drop (0 * 1) = bC (l.take 8) := by
            rw [List.drop_zero, bC, bC, List.map_take]; rfl
          rw [e2, ← g]
          unfold resE at this
          rw [decide_eq_true h8] at this
          exact this
        · rw [decide_eq_false h8, cond_false] at g
          rw [cond_t (decide_eq_true (by omega)), g]
    · cases h
end Go.Proofs.YtclhnfalebiieaaDoor
set_option linter.unusedVariables false
set_option linter.unusedSimpArgs false
namespace Go.Proofs.YtclhnfalebiieaaDoor
open Go.RowKit

/-! ## Clone -/
theorem clone_raw (v : Bool) (l0 : Nat) (c0 : List PV) : prun (en []) ⟨[], []⟩ 0 false Tryd.f35 [.sl (some v) 1 l0 c0] =
    bif v then some (.sl (some true) 1 0 []) else roomY 0 l0 (some (.sl ((some false).map (· && (l0 == 0))) 1 (0 + l0) ([] ++ c0))) := by kernel_rfl
def p_clone : PFn := ⟨fun xs k => match xs with | [.sl (some v) 1 n c] => (decY n c).bind fun l => bif decide (l.length ≤ 100000) then k (.sl (some v) 1 (bif v then 0 else l.length) (bC (bif v then [] else l))) else none | _ => none, false⟩
theorem ok_clone : FOK NGk Tabs 35 p_clone := by
  refine fok wokk allOK_nil (h := ⟨[], []⟩) Tryd.func35 rfl (by decide) ?_ ?_
  · intro R xs k
    simp only [p_clone]
    split
    · exact bindY_nat
    · rfl
  · intro xs r h
    simp only [p_clone] at h
    split at h
    · rename_i v n c
      obtain ⟨l, h1, hg, rfl⟩ := bindY_inv h
      obtain ⟨rfl, rfl⟩ := decY_inv h1
      simp only [decide_eq_true_eq] at hg
      refine ⟨0, (clone_raw v _ _).trans ?_⟩
      cases v
      · rw [cond_false, roomY_eq (by omega), Nat.zero_add]
        simp
      · rfl
    · cases h

/-! ## powers of 256 -/
def hPw : Hints := ⟨[], [(0, ⟨[(0, false), (3, false), (4, false)], []⟩)]⟩
def frPw (k p i : Int) : St := frame 13 [(0, (.int .i64 k, 0)), (3, (.int .u64 p, 0)), (4, (.int .i64 i, 0))] []
noncomputable def pwLoop (fu n : Nat) (st : St) : Option PV := loopF (en []) hPw fu false Tryd.f58 [1, 1, 0, 1, 0] 0 n st
theorem pw_raw (fu : Nat) (k : Int) : prun (en []) hPw fu false Tryd.f58 [.int .i64 k] = pwLoop fu fu (frPw k 1 0) := by kernel_rfl
theorem pw_step (fu : Nat) (k p i : Int) (K : St → Option PV) : stepF (en []) hPw fu false Tryd.f58 [1, 1, 0, 1, 0] (frPw k p i) (fun st => pnorm (hPw.loop.lookup 0) st K) =
    bif decide (i < k) then K (frPw k (IntKind.u64.wrap (p * 256)) (IntKind.i64.wrap (i + 1))) else some (.int .u64 p) := by kernel_rfl
theorem pw_loop (fu k : Nat) (hk : k ≤ 7) : ∀ (m i n : Nat), i + m = k → m < n → pwLoop fu n (frPw (k : Int) ((256 ^ i : Nat) : Int) (i : Int)) = some (.int .u64 ((256 ^ k : Nat) : Int))
  | m, i, 0, _, h => by omega
  | 0, i, n + 1, hi, hn => by
    unfold pwLoop
    rw [loopF_succ, pw_step, cond_f (decide_eq_false (by omega)), show i = k by omega]
  | m + 1, i, n + 1, hi, hn => by
    unfold pwLoop
    have hp := Nat.pow_le_pow_right (n := 256) (by decide) (show i ≤ 6 by omega)
    rw [loopF_succ, pw_step, cond_t (decide_eq_true (by omega)), wrapI_of (by omega) (by omega)]
    have ih := pw_loop fu k hk m (i + 1) n (by omega) (by omega)
    unfold pwLoop at ih
    rw [Nat.pow_succ] at ih
    rw [← ih]
    generalize 256 ^ i = q at *
    rw [wrapU_of (by omega) (by omega)]
    rfl
def p_power : PFn := ⟨fun xs k => match xs with | [.int .i64 j] => bif decide (0 ≤ j) && decide (j ≤ 7) then k (.int .u64 ((256 ^ j.toNat : Nat) : Int)) else none | _ => none, false⟩
theorem ok_power : FOK NGk Tabs 58 p_power := by
  refine fok wokk allOK_nil (h := hPw) Tryd.func58 rfl (by decide) ?_ ?_
  · intro R xs k
    simp only [p_power]
    split
    · exact cond_nat
    · rfl
  · intro xs r h
    simp only [p_power] at h
    split at h
    · rename_i j
      rcases hb : (decide (0 ≤ j) && decide (j ≤ 7)) with _ | _ <;> rw [hb] at h
      · cases h
      · simp only [cond_true, Option.some.injEq] at h
        subst h
        simp only [Bool.and_eq_true, decide_eq_true_eq] at hb
        obtain ⟨k, rfl⟩ := Int.eq_ofNat_of_zero_le hb.1
        refine ⟨20, (pw_raw 20 _).trans ?_⟩
        have := pw_loop 20 k (by omega) k 0 20 (by omega) (by omega)
        rw [Int.toNat_natCast]
        exact this
    · cases h
end Go.Proofs.YtclhnfalebiieaaDoor
set_option linter.unusedVariables false
set_option linter.unusedSimpArgs false
namespace Go.Proofs.YtclhnfalebiieaaDoor
open Go.RowKit

def numI (a b : Int) : Int := bif decide (a < b) then -1 else bif decide (b < a) then 1 else 0
theorem numI_lt {a b : Int} (h : a < b) : numI a b = -1 := by unfold numI; rw [decide_eq_true h]; rfl
theorem numI_gt {a b : Int} (h : b < a) : numI a b = 1 := by unfold numI; rw [decide_eq_false (by omega), decide_eq_true h]; rfl
theorem numI_self (a : Int) : numI a a = 0 := by unfold numI; rw [decide_eq_false (by omega)]; rfl
theorem num_raw (l : List (FuncId × PFn)) (a b : Int) (fuel : Nat) : prun (en l) ⟨[], []⟩ fuel false Tryd.f39 [.int .i64 a, .int .i64 b] =
    bif decide (a < b) then some (.int .i64 (-1)) else bif decide (b < a) then some (.int .i64 1) else some (.int .i64 0) := by kernel_rfl
def p_numbers : PFn := ⟨fun xs k => match xs with | [.int .i64 a, .int .i64 b] => k (.int .i64 (numI a b)) | _ => none, false⟩
theorem ok_numbers : FOK NGk Tabs 39 p_numbers := by
  refine fok wokk allOK_nil (h := ⟨[], []⟩) Tryd.func39 rfl (by decide) ?_ ?_
  · intro R xs k
    simp only [p_numbers]
    split <;> rfl
  · intro xs r h
    simp only [p_numbers] at h
    split at h
    · rename_i a b
      refine ⟨0, (num_raw [] a b 0).trans ?_⟩
      rw [← h]
      unfold numI
      cases decide (a < b) <;> cases decide (b < a) <;> rfl
    · cases h
/-- how texts compare -/
def txtL : List UInt8 → List UInt8 → Int
  | [], [] => 0
  | [], _ :: _ => -1
  | _ :: _, [] => 1
  | a :: x, b :: y => bif a == b then txtL x y else numI (a.toNat : Int) (b.toNat : Int)
theorem txt_nil : ∀ (x : List UInt8), txtL x [] = numI (x.length : Int) 0
  | [] => rfl
  | c :: x => by rw [numI_gt (by simp only [List.length_cons]; omega)]; rfl
theorem nil_txt : ∀ (x : List UInt8), txtL [] x = numI 0 (x.length : Int)
  | [] => rfl
  | c :: x => by rw [numI_lt (by simp only [List.length_cons]; omega)]; rfl
def ixS {R : Type} (s : List UInt8) (i : Int) (K : UInt8 → Option R) : Option R := bif decide (0 ≤ i) && decide (i < (s.length : Int)) then s[i.toNat]?.bind K else none
theorem ixS_eq {R : Type} {s : List UInt8} {i : Nat} {c : UInt8} {K : UInt8 → Option R} (h : s[i]? = some c) : ixS s (i : Int) K = K c := by
  have := (List.getElem?_eq_some_iff.1 h).1
  unfold ixS
  rw [cond_t (by rw [decide_eq_true (by omega), decide_eq_true (by omega)]; rfl), Int.toNat_natCast, h]
  rfl
def hTx : Hints := ⟨[], [(0, ⟨[(0, false), (1, false), (5, false)], []⟩)]⟩
def frTx (x y : List UInt8) (i : Int) : St := frame 39 [(0, (.str x, 0)), (1, (.str y, 0)), (5, (.int .i64 i, 0))] []
noncomputable def lTx : List (FuncId × PFn) := [(39, p_numbers)]
noncomputable def txLoop (fu n : Nat) (st : St) : Option PV := loopF (en lTx) hTx fu false Tryd.f22 [1, 0, 1, 0] 0 n st
theorem tx_raw (fu : Nat) (x y : List UInt8) : prun (en lTx) hTx fu false Tryd.f22 [.str x, .str y] = txLoop fu fu (frTx x y 0) := by kernel_rfl
theorem tx_step (fu : Nat) (x y : List UInt8) (i : Int) (K : St → Option PV) : stepF (en lTx) hTx fu false Tryd.f22 [1, 0, 1, 0] (frTx x y i) (fun st => pnorm (hTx.loop.lookup 0) st K) =
    bif decide (i < (x.length : Int)) && decide (i < (y.length : Int)) then ixS x i fun a => ixS y i fun b => bif !((a.toNat : Int) == (b.toNat : Int)) then
        ixS x i fun a => ixS y i fun b => some (.int .i64 (numI (IntKind.i64.wrap (a.toNat : Int)) (IntKind.i64.wrap (b.toNat : Int)))) else K (frTx x y (IntKind.i64.wrap (i + 1)))
    else some (.int .i64 (numI (x.length : Int) (y.length : Int))) := by kernel_rfl
theorem tx_loop (fu : Nat) (x y : List UInt8) (hx : x.length ≤ 1000000) : ∀ (k i n : Nat), i + k = x.length → k < n → i ≤ y.length → txLoop fu n (frTx x y (i : Int)) = some (.int .i64 (txtL (x.drop i) (y.drop i)))
  | k, i, 0, _, h, _ => by omega
  | k, i, n + 1, hi, hn, hy => by
    unfold txLoop
    rw [loopF_succ, tx_step]
    by_cases h1 : i < x.length
    · by_cases h2 : i < y.length
      · have c1 := List.getElem?_eq_getElem h1
        have c2 := List.getElem?_eq_getElem h2
        rw [cond_t (by rw [decide_eq_true (by omega), decide_eq_true (by omega)]; rfl), ixS_eq c1, ixS_eq c2, ixS_eq c1, ixS_eq c2, List.drop_eq_getElem_cons h1, List.drop_eq_getElem_cons h2, txtL]
        have b1 := x[i].toNat_lt
        have b2 := y[i].toNat_lt
        have e : ((x[i].toNat : Int) == (y[i].toNat : Int)) = (x[i] == y[i]) := by
          rw [Bool.eq_iff_iff]
          simp only [beq_iff_eq]
          constructor
          · intro e; apply UInt8.toNat_inj.1; omega
          · intro e; rw [e]
        rw [e, wrapI_of (x := (x[i].toNat : Int)) (by omega) (by omega), wrapI_of (x := (y[i].toNat : Int)) (by omega) (by omega), wrapI_of (by omega) (by omega)]
        cases x[i] == y[i]
        · rfl
        · simp only [Bool.not_true, cond_false, cond_true]
          have ih := tx_loop fu x y hx (k - 1) (i + 1) n (by omega) (by omega) (by omega)
          unfold txLoop at ih
          exact ih
      · have hyl : y.length = i := by omega
        rw [cond_f (by rw [decide_eq_false (show ¬ (i : Int) < (y.length : Int) by omega), Bool.and_false]), show y.drop i = [] from List.drop_of_length_le (by omega), txt_nil, List.length_drop, numI_gt (by omega), numI_gt (by omega)]
    · rw [cond_f (by rw [decide_eq_false (show ¬ (i : Int) < (x.length : Int) by omega), Bool.false_and]), show x.drop i = [] from List.drop_of_length_le (by omega), nil_txt, List.length_drop]
      by_cases h2 : i < y.length
      · rw [numI_lt (by omega), numI_lt (by omega)]
      · rw [show y.length = x.length by omega, show x.length - i = 0 by omega, numI_self]; rfl
def p_Texts : PFn := ⟨fun xs k => match xs with | [.str x, .str y] => bif decide (x.length ≤ 1000000) then k (.int .i64 (txtL x y)) else none | _ => none, false⟩
theorem ok_Texts : FOK NGk Tabs 22 p_Texts := by
  refine fok wokk (allOK_cons ok_numbers allOK_nil) (h := hTx) Tryd.func22 rfl (by decide) ?_ ?_
  · intro R xs k
    simp only [p_Texts]
    split
    · exact cond_nat
    · rfl
  · intro xs r h
    simp only [p_Texts] at h
    split at h
    · rename_i x y
      rcases hb : decide (x.length ≤ 1000000) with _ | _ <;> rw [hb] at h
      · cases h
      · simp only [cond_true, Option.some.injEq] at h
        subst h
        simp only [decide_eq_true_eq] at hb
        exact ⟨x.length + 1, (tx_raw _ x y).trans (tx_loop _ x y hb x.length 0 _ (by omega) (by omega) (by omega))⟩
    · cases h
end Go.Proofs.YtclhnfalebiieaaDoor
set_option linter.unusedVariables false
set_option linter.unusedSimpArgs false
namespace Go.Proofs.YtclhnfalebiieaaDoor
open Go.RowKit

abbrev V4 := Val
def V4.cs (v : Val) : List PV := [.int .i64 v.kind, .int .i64 v.n, .int .i64 v.scale, .str v.s]
def valsC (vs : List V4) : List PV := vs.flatMap V4.cs
theorem valsC_len (vs : List V4) : (valsC vs).length = vs.length * 4 := by
  induction vs with
  | nil => rfl
  | cons v vs ih => simp only [valsC, List.flatMap_cons, List.length_append, List.length_cons] at ih ⊢; rw [ih]; simp only [V4.cs, List.length_cons, List.length_nil]; omega
theorem vals_at : ∀ {vs : List V4} {i : Nat} {v : V4}, vs[i]? = some v → ((valsC vs).drop (i * 4)).take 4 = V4.cs v
  | v :: vs, 0, w, h => by
    simp only [List.getElem?_cons_zero, Option.some.injEq] at h
    subst h
    rfl
  | v :: vs, i + 1, w, h => by
    simp only [List.getElem?_cons_succ] at h
    have ih := vals_at h
    have e : (valsC (v :: vs)).drop ((i + 1) * 4) = (valsC vs).drop (i * 4) := by
      show (V4.cs v ++ valsC vs).drop _ = _
      rw [show (i + 1) * 4 = (V4.cs v).length + i * 4 by simp only [V4.cs, List.length_cons, List.length_nil]; omega, ← List.drop_drop, List.drop_left]
    rw [e, ih]
def ixV {R : Type} (len : Nat) (c : List PV) (i : Int) (K : Int → Int → Int → List UInt8 → Option R) : Option R :=
  bif decide (0 ≤ i) && decide (i < (len : Int)) then
    ((c.drop (i.toNat * 4)).take 4).head?.bind fun v => (PV.asInt .i64 v).bind fun a => ((c.drop (i.toNat * 4)).take 4).tail.head?.bind fun v => (PV.asInt .i64 v).bind fun n =>
    ((c.drop (i.toNat * 4)).take 4).tail.tail.head?.bind fun v => (PV.asInt .i64 v).bind fun b => ((c.drop (i.toNat * 4)).take 4).tail.tail.tail.head?.bind fun v => v.asStr.bind fun s => K a n b s else none
theorem ixV_eq {R : Type} {vs : List V4} {i : Nat} {v : V4} {K : Int → Int → Int → List UInt8 → Option R} (h : vs[i]? = some v) : ixV vs.length (valsC vs) (i : Int) K = K v.kind v.n v.scale v.s := by
  have := (List.getElem?_eq_some_iff.1 h).1
  unfold ixV
  rw [cond_t (by rw [decide_eq_true (by omega), decide_eq_true (by omega)]; rfl), Int.toNat_natCast, vals_at h]
  rfl
/-! ## long -/
def longL : Nat → List V4 → Bool
  | _, [] => false
  | i, v :: vs => decide (20 ≤ i) || decide (500 < v.s.length) || longL (i + 1) vs
def hLo : Hints := ⟨[], [(0, ⟨[(5, false), (6, false), (7, false)], []⟩)]⟩
def frLo (n5 : Option Bool) (l5 : Nat) (c5 : List PV) (L i : Int) : St := frame 21 [(5, (.sl n5 4 l5 c5, 0)), (6, (.int .i64 L, 0)), (7, (.int .i64 i, 0))] []
noncomputable def loLoop (fu n : Nat) (st : St) : Option PV := loopF (en []) hLo fu false Tryd.f11 [1, 0, 1, 0] 0 n st
theorem lo_raw (fu : Nat) (n5 : Option Bool) (l5 : Nat) (c5 : List PV) : prun (en []) hLo fu false Tryd.f11 [.sl n5 4 l5 c5] = loLoop fu fu (frLo n5 l5 c5 (l5 : Int) 0) := by kernel_rfl
theorem lo_step (fu : Nat) (n5 : Option Bool) (l5 : Nat) (c5 : List PV) (L i : Int) (K : St → Option PV) : stepF (en []) hLo fu false Tryd.f11 [1, 0, 1, 0] (frLo n5 l5 c5 L i) (fun st => pnorm (hLo.loop.lookup 0) st K) =
    bif decide (i < L) then ixV l5 c5 i fun _ _ _ s => bif decide (20 ≤ i) || decide (500 < (s.length : Int)) then some (.bool true) else K (frLo n5 l5 c5 L (IntKind.i64.wrap (i + 1)))
    else some (.bool false) := by kernel_rfl
theorem lo_loop (fu : Nat) (n5 : Option Bool) (vs : List V4) : ∀ (k i n : Nat), i + k = vs.length → i + k < n + i → i ≤ 20 → loLoop fu n (frLo n5 vs.length (valsC vs) (vs.length : Int) (i : Int)) = some (.bool (longL i (vs.drop i)))
  | k, i, 0, _, h, _ => by omega
  | 0, i, n + 1, hi, hn, _ => by
    unfold loLoop
    rw [loopF_succ, lo_step, cond_f (decide_eq_false (by omega)), List.drop_of_length_le (by omega)]
    rfl
  | k + 1, i, n + 1, hi, hn, h20 => by
    unfold loLoop
    have hc := List.getElem?_eq_getElem (l := vs) (i := i) (by omega)
    rw [loopF_succ, lo_step, cond_t (decide_eq_true (by omega)), ixV_eq hc, List.drop_eq_getElem_cons (by omega), longL]
    generalize vs[i] = v
    have e1 : decide ((20 : Int) ≤ (i : Int)) = decide (20 ≤ i) := by congr 1; simp only [eq_iff_iff]; omega
    have e2 : decide (500 < (v.s.length : Int)) = decide (500 < v.s.length) := by congr 1; simp only [eq_iff_iff]; omega
    rw [e1, e2]
    cases hx : decide (20 ≤ i) || decide (500 < v.s.length)
    · rw [cond_false, Bool.false_or, wrapI_of (by omega) (by omega)]
      simp only [Bool.or_eq_false_iff, decide_eq_false_iff_not] at hx
      have ih := lo_loop fu n5 vs k (i + 1) n (by omega) (by omega) (by omega)
      unfold loLoop at ih
      exact ih
    · rfl
end Go.Proofs.YtclhnfalebiieaaDoor
set_option linter.unusedVariables false
set_option linter.unusedSimpArgs false
namespace Go.Proofs.YtclhnfalebiieaaDoor
open Go.RowKit

/-- a function whose contract is known: it returns a value that may lie in new memory, and leaves what was there -/
theorem fok_new {NG : Nat} {W : World → Prop} {f : FuncId} {fn : Func} (hf : Tryd.prog.funcs[f]? = some fn) (hb : fn.body.isSome = true) (hname : fn.name ≠ "runtime.NumGoroutine") {p : PFn} (hn : p.nat) (ho : p.own = false)
    (hrun : ∀ (xs : List PV) (r : PV) (M : Mem) (vs : List Value), W M.w → p.F xs (R := PV) some = some r → RelT M xs vs → Calls Tryd.prog f vs.toArray M.w fun e w' => ∃ v, e = .returned v ∧ Below M.w.heap.size M.w w' ∧
      ∀ U', (∀ b o, M.w.heap.size ≤ b → o < 18446744073709551616 → o < U' b) → RelD ⟨w', U'⟩ r v) : FOK NG W f p where
  nat := hn
  call := by
    intro M xs vs r hW hng hg hr hF
    have hb' : ¬ fn.body = none := by intro e; rw [e] at hb; cases hb
    refine .inr ⟨?_, (hrun xs r M vs hW hF hr).mono ?_⟩
    · show (callFunc f vs.toArray).run Tryd.prog M.w = _
      simp [callFunc, hf]
      rw [if_neg hname, if_neg hb']
    · rintro e w' ⟨v, rfl, h1, h2⟩
      refine ⟨v, rfl, fun b => if b < M.w.heap.size then M.U b else 18446744073709551616, Move.mk0 h1 fun b hb => if_pos hb, h2 _ ?_, fun h => by rw [ho] at h; cases h⟩
      intro b o hb ho
      rw [if_neg (by omega)]
      exact ho
theorem rel_bvs (M : Mem) : ∀ (l : List UInt8), RelL M (bC l) (bvs l)
  | [] => rfl
  | c :: l => by
    show RelL M (bytePV c :: bC l) (bv c :: bvs l)
    simp only [RelL, RelD]
    exact ⟨_, _, rfl, rfl, rfl, rel_bvs M l⟩
theorem rel_own {w' : World} {U' : Nat → Nat} {B : Nat} {e : TypeId} {v : Value} {l : List UInt8} (h : w'.ownsRow B e 1 v l.length (bvs l)) (hU : ∀ b o, B ≤ b → o < 18446744073709551616 → o < U' b) :
    RelD ⟨w', U'⟩ (.sl none 1 l.length (bC l)) v := by
  simp only [RelD]
  rcases h.2 with ⟨rfl, hx⟩ | ⟨g, cap, cur, rfl, hg, hh, hnc, hcm, hsz, ht⟩
  · have : l = [] := List.length_eq_zero_iff.1 hx
    subst this
    refine ⟨none, 0, [], rfl, Nat.le_refl _, Nat.zero_le _, ?_, fun _ => rfl, rfl, rfl, Or.inl rfl⟩
    intro b hb
    cases hb
  · have hlt := (h.lt g rfl).2
    refine ⟨_, cap, bvs l, rfl, hnc, hcm, ?_, ?_, ?_, rel_bvs _ l, Or.inr ⟨g, 0, rfl, fun j u hu => ⟨?_, ?_⟩⟩⟩
    · intro b hb; cases hb
    · intro e; cases e
    · simp [bC]
    · have := h.cells (g := g) rfl j u hu
      rw [← this]
      congr 1
      unfold Addr.add
      split <;> simp_all
    · refine hU g _ hg ?_
      have : j < (bvs l).length := (List.getElem?_eq_some_iff.1 hu).1
      rw [bvs_length] at this
      unfold maxLen at hcm
      omega
end Go.Proofs.YtclhnfalebiieaaDoor
set_option linter.unusedVariables false
set_option linter.unusedSimpArgs false
namespace Go.Proofs.YtclhnfalebiieaaDoor
open Go.RowKit

theorem relL_vals {M : Mem} : ∀ (vs : List Val) (us : List Value), RelL M (valsC vs) us → us = vcs vs
  | [], us, h => by
    have h : RelL M [] us := h
    simp only [RelL] at h
    exact h
  | v :: vs, us, h => by
    have h : RelL M (.int .i64 v.kind :: .int .i64 v.n :: .int .i64 v.scale :: .str v.s :: valsC vs) us := h
    simp only [RelL, RelD] at h
    obtain ⟨_, _, rfl, _, rfl, _, _, rfl, _, rfl, _, _, rfl, _, rfl, _, us', rfl, _, rfl, hq⟩ := h
    have e : us' = vcs vs := relL_vals vs us' hq
    rw [e]
    try rfl
theorem sl_vals {M : Mem} {nl : Option Bool} {vs : List Val} {v : Value} (h : RelD M (.sl nl 4 vs.length (valsC vs)) v) : ∃ A c, v = .slice A vs.length c ∧ Sl M.w 4 A vs.length c (vcs vs) := by
  simp only [RelD] at h
  obtain ⟨A, c, us, rfl, hnc, hcm, _, _, hl, hr, hx⟩ := h
  obtain rfl := relL_vals _ _ hr
  refine ⟨A, c, rfl, vcs_length vs, hnc, hcm, fun hn => ?_⟩
  rcases hx with hx | ⟨b, o, rfl, hc⟩
  · have := vcs_length vs
    rw [hx] at this
    simp only [List.length_nil] at this
    omega
  · refine ⟨b, o, rfl, ?_, fun j u hu => (hc j u hu).1⟩
    have h0 : 0 < (vcs vs).length := by rw [vcs_length]; omega
    have : (vcs vs)[0]? = some ((vcs vs)[0]'h0) := List.getElem?_eq_getElem h0
    exact World.block_lt_of_cell? M.w _ (hc 0 _ this).1
/-- the values that cells are -/
def vlC : List PV → Option (List Val)
  | [] => some []
  | .int .i64 a :: .int .i64 n :: .int .i64 c :: .str s :: l => (vlC l).map fun t => ⟨a, n, c, s⟩ :: t
  | _ => none
theorem vlC_vals : ∀ (vs : List Val), vlC (valsC vs) = some vs
  | [] => rfl
  | v :: vs => by
    show (vlC (valsC vs)).map (fun t => (⟨v.kind, v.n, v.scale, v.s⟩ : Val) :: t) = _
    rw [vlC_vals vs]; rfl
theorem vlC_inv : ∀ {c : List PV} {vs : List Val}, vlC c = some vs → c = valsC vs
  | c, vs, h => by
    unfold vlC at h
    split at h
    · injection h with h; subst h; rfl
    · rename_i a n b s l
      obtain ⟨t, ht, rfl⟩ := Option.map_eq_some_iff.1 h
      rw [vlC_inv ht]; rfl
    · cases h
def decV (n : Nat) (c : List PV) : Option (List Val) := (vlC c).bind fun vs => if n = vs.length then some vs else none
theorem decV_vals (vs : List Val) : decV vs.length (valsC vs) = some vs := by unfold decV; rw [vlC_vals]; simp
theorem decV_inv {n : Nat} {c : List PV} {vs : List Val} (h : decV n c = some vs) : n = vs.length ∧ c = valsC vs := by
  unfold decV at h
  obtain ⟨m, hm, h⟩ := Option.bind_eq_some_iff.1 h
  split at h
  · rename_i hl
    injection h with h
    subst h
    exact ⟨hl, vlC_inv hm⟩
  · cases h
def p_KeysPut : PFn := ⟨fun xs k => match xs with | [.sl _ 4 n c] => (decV n c).bind fun vs => bif decide (vs.length ≤ 100000) then k (.sl none 1 (encs vs).length (bC (encs vs))) else none | _ => none, false⟩
theorem ok_KeysPut : FOK NGk Tabs 12 p_KeysPut := by
  refine fok_new Tryd.func12 (by kernel_rfl) (by decide) ?_ rfl ?_
  · intro R xs k
    simp only [p_KeysPut]
    split
    · rename_i n c
      cases decV n c with
      | none => rfl
      | some vs => exact cond_nat
    · rfl
  · intro xs r M vs hW h hr
    simp only [p_KeysPut] at h
    split at h
    · rename_i nl n c
      obtain ⟨ws, h1, g⟩ := Option.bind_eq_some_iff.1 h
      obtain ⟨rfl, rfl⟩ := decV_inv h1
      rcases hb : decide (ws.length ≤ 100000) with _ | _ <;> rw [hb] at g
      · cases g
      · simp only [cond_true, Option.some.injEq] at g
        subst g
        simp only [decide_eq_true_eq] at hb
        obtain ⟨v, rfl, h2⟩ := relT1 hr
        obtain ⟨A, c, rfl, hs⟩ := sl_vals h2
        refine (keysPut_any M.w A ws.length c ws hs hb hW).mono ?_
        rintro e w' ⟨A', c', rfl, ho, _, hbl⟩
        exact ⟨_, rfl, hbl, fun U' hU => rel_own ho hU⟩
    · cases h
end Go.Proofs.YtclhnfalebiieaaDoor
