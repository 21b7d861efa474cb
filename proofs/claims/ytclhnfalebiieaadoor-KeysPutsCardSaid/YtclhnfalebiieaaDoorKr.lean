/-
  Keys by the evaluator: bytes; eight, untext.
-/
import Derived.Test.YtclhnfalebiieaaDoorKq
set_option linter.unusedVariables false
set_option linter.unusedSimpArgs false
namespace Go.Proofs.YtclhnfalebiieaaDoor
open Go.RowKit

/-! ## bytes -/
def bC (l : List UInt8) : List PV := l.map bytePV
/-- the bytes that cells are -/
def byC : List PV → Option (List UInt8)
  | [] => some []
  | .int .u8 d :: l => if 0 ≤ d ∧ d < 256 then (byC l).map fun t => UInt8.ofNat d.toNat :: t else none
  | _ => none
theorem byC_bC : ∀ (l : List UInt8), byC (bC l) = some l
  | [] => rfl
  | c :: l => by
    have hc := c.toNat_lt
    show (if 0 ≤ (c.toNat : Int) ∧ (c.toNat : Int) < 256 then (byC (bC l)).map fun t => UInt8.ofNat (c.toNat : Int).toNat :: t else none) = _
    rw [if_pos (by omega), byC_bC l]
    simp
theorem byC_inv : ∀ {c : List PV} {l : List UInt8}, byC c = some l → c = bC l
  | [], l, h => by simp [byC] at h; subst h; rfl
  | x :: c, l, h => by
    unfold byC at h
    split at h
    · rename_i e; cases e
    · rename_i d l' e
      injection e with e1 e2
      subst e1 e2
      split at h
      · rename_i hd
        obtain ⟨t, ht, rfl⟩ := Option.map_eq_some_iff.1 h
        rw [byC_inv ht]
        show PV.int .u8 d :: bC t = bytePV (UInt8.ofNat d.toNat) :: bC t
        congr 1
        unfold bytePV
        congr 1
        simp
        omega
      · cases h
    · cases h
/-- a slice of bytes -/
def decY (n : Nat) (c : List PV) : Option (List UInt8) := (byC c).bind fun l => if n = l.length then some l else none
theorem decY_bC (l : List UInt8) : decY l.length (bC l) = some l := by unfold decY; rw [byC_bC]; simp
theorem decY_inv {n : Nat} {c : List PV} {l : List UInt8} (h : decY n c = some l) : n = l.length ∧ c = bC l := by
  unfold decY at h
  obtain ⟨m, hm, h⟩ := Option.bind_eq_some_iff.1 h
  split at h
  · rename_i hl
    injection h with h
    subst h
    exact ⟨hl, byC_inv hm⟩
  · cases h
def ixY {R : Type} (len : Nat) (c : List PV) (i : Int) (K : Int → Option R) : Option R :=
  bif decide (0 ≤ i) && decide (i < (len : Int)) then ((c.drop (i.toNat * 1)).take 1).head?.bind fun v => (PV.asInt .u8 v).bind K else none
theorem ixY_eq {R : Type} {len i : Nat} {l : List UInt8} {d : UInt8} {K : Int → Option R} (hl : i < len) (hd : l[i]? = some d) : ixY len (bC l) (i : Int) K = K (d.toNat : Int) := by
  unfold ixY
  rw [cond_t (by rw [decide_eq_true (by omega), decide_eq_true (by omega)]; rfl), Nat.mul_one, Int.toNat_natCast]
  have : (((bC l).drop i).take 1).head? = some (bytePV d) := by
    rw [List.head?_take, if_neg (by decide), List.head?_drop, bC, List.getElem?_map, hd]; rfl
  rw [this]
  rfl
def roomY {R : Type} (l m : Nat) (x : Option R) : Option R := bif decide (l + m ≤ 9223372036854775807) && decide ((l + m) * 1 ≤ 140737488355328) then x else none
theorem roomY_eq {R : Type} {l m : Nat} {x : Option R} (h : l + m ≤ 1000000) : roomY l m x = x := by
  unfold roomY
  exact cond_t (by rw [decide_eq_true (by omega), decide_eq_true (by omega)]; rfl)

/-! ## untext -/
/-- a text and what is behind its end -/
def untL : List UInt8 → List UInt8 → Option (List UInt8 × List UInt8)
  | [], _ => none
  | c :: t, acc =>
    if c = 0 then
      match t with
      | [] => none
      | d :: t' => if d = 255 then untL t' (acc ++ [0]) else if d = 1 then some (acc, t') else none
    else untL t (acc ++ [c])
def resU (nl : Option Bool) (o : Option (List UInt8 × List UInt8)) : PV :=
  .tuple [.str (o.elim [] fun p => p.1), .sl (bif o.isSome then nl else some true) 1 (o.elim 0 fun p => p.2.length) (bC (o.elim [] fun p => p.2)), .bool o.isSome]
def hUn : Hints := ⟨[], [(0, ⟨[(0, false), (5, true), (6, false)], []⟩)]⟩
def frUn (n0 : Option Bool) (l0 : Nat) (c0 : List PV) (n5 : Option Bool) (l5 : Nat) (c5 : List PV) (i : Int) : St := frame 60 [(0, (.sl n0 1 l0 c0, 0)), (5, (.sl n5 1 l5 c5, 67)), (6, (.int .i64 i, 0))] []
noncomputable def unLoop (fu n : Nat) (st : St) : Option PV := loopF (en []) hUn fu false Tryd.f51 [1, 1, 0, 1, 0] 0 n st
theorem un_raw (fu : Nat) (n0 : Option Bool) (l0 : Nat) (c0 : List PV) : prun (en []) hUn fu false Tryd.f51 [.sl n0 1 l0 c0] = unLoop fu fu (frUn n0 l0 c0 (some true) 0 [] 0) := by kernel_rfl
def failU : Option PV := some (.tuple [.str [], .sl (some true) 1 0 [], .bool false])
def unEnd (n0 : Option Bool) (l0 : Nat) (c0 c5 : List PV) (j : Int) : Option PV :=
  bif decide (j < (l0 : Int)) then ixY l0 c0 j fun v => bif v == 1 then (pbytes c5).bind fun s =>
    bif decide (0 ≤ IntKind.i64.wrap (j + 1)) && decide (IntKind.i64.wrap (j + 1) ≤ (l0 : Int)) then
      some (.tuple [.str s, .sl n0 1 (l0 - (IntKind.i64.wrap (j + 1)).toNat) ((c0.take (l0 * 1)).drop ((IntKind.i64.wrap (j + 1)).toNat * 1)), .bool true]) else none
    else failU
  else failU
def unBody (n0 : Option Bool) (l0 : Nat) (c0 : List PV) (n5 : Option Bool) (l5 : Nat) (c5 : List PV) (i : Int) (G : Option Bool → Nat → List PV → Int → Option PV) : Option PV :=
  bif decide (i < (l0 : Int)) then ixY l0 c0 i fun v =>
    bif !(v == 0) then ixY l0 c0 i fun v => roomY l5 1 (G (n5.map (· && false)) (l5 + 1) (c5 ++ [.int .u8 v]) (IntKind.i64.wrap (i + 1)))
    else bif decide (IntKind.i64.wrap (i + 1) < (l0 : Int)) then ixY l0 c0 (IntKind.i64.wrap (i + 1)) fun v =>
        bif v == 255 then roomY l5 1 (G (n5.map (· && false)) (l5 + 1) (c5 ++ [.int .u8 0]) (IntKind.i64.wrap (IntKind.i64.wrap (i + 1) + 1)))
        else unEnd n0 l0 c0 c5 (IntKind.i64.wrap (i + 1))
      else unEnd n0 l0 c0 c5 (IntKind.i64.wrap (i + 1))
  else failU
theorem un_step (fu : Nat) (n0 : Option Bool) (l0 : Nat) (c0 : List PV) (n5 : Option Bool) (l5 : Nat) (c5 : List PV) (i : Int) (K : St → Option PV) :
    stepF (en []) hUn fu false Tryd.f51 [1, 1, 0, 1, 0] (frUn n0 l0 c0 n5 l5 c5 i) (fun st => pnorm (hUn.loop.lookup 0) st K) =
    unBody n0 l0 c0 n5 l5 c5 i (fun a b c j => K (frUn n0 l0 c0 a b c j)) := by kernel_rfl
theorem pbytes_bC : ∀ (l : List UInt8), pbytes (bC l) = some l
  | [] => rfl
  | c :: l => by
    have hc := c.toNat_lt
    show pbytes (PV.int .u8 (c.toNat : Int) :: bC l) = _
    simp only [pbytes, pbytes_bC l]
    have : PV.asInt .u8 (PV.int .u8 (c.toNat : Int)) = some (c.toNat : Int) := rfl
    rw [this]
    simp
theorem bC_snoc (l : List UInt8) (c : UInt8) : bC l ++ [PV.int .u8 (c.toNat : Int)] = bC (l ++ [c]) := by simp [bC, bytePV]
theorem un_loop (fu : Nat) (n0 : Option Bool) (l : List UInt8) (hl : l.length ≤ 100000) : ∀ (k i n : Nat) (n5 : Option Bool) (acc : List UInt8), i + k = l.length → k < n → acc.length ≤ i →
    unLoop fu n (frUn n0 l.length (bC l) n5 acc.length (bC acc) (i : Int)) = some (resU n0 (untL (l.drop i) acc))
  | k, i, 0, n5, acc, _, h, _ => by omega
  | 0, i, n + 1, n5, acc, hi, hn, ha => by
    unfold unLoop
    rw [loopF_succ, un_step, unBody, cond_f (decide_eq_false (by omega)), List.drop_of_length_le (by omega)]
    rfl
  | k + 1, i, n + 1, n5, acc, hi, hn, ha => by
    unfold unLoop
    have hc := List.getElem?_eq_getElem (l := l) (i := i) (by omega)
    rw [loopF_succ, un_step, unBody, cond_t (decide_eq_true (by omega)), ixY_eq (by omega) hc, ixY_eq (by omega) hc, List.drop_eq_getElem_cons (by omega), wrapI_of (x := (i : Int) + 1) (by omega) (by omega), roomY_eq (by omega), roomY_eq (by omega)]
    generalize hcc : l[i] = c
    unfold untL
    by_cases h0 : c = 0
    · subst h0
      rw [cond_f (by decide), if_pos rfl]
      by_cases h1 : i + 1 < l.length
      · have hd := List.getElem?_eq_getElem (l := l) (i := i + 1) (by omega)
        have e1 : (i : Int) + 1 = ((i + 1 : Nat) : Int) := by omega
        rw [e1, cond_t (decide_eq_true (by omega)), ixY_eq (by omega) hd, List.drop_eq_getElem_cons h1]
        generalize hdd : l[i + 1] = d
        simp only
        have e255 : ((d.toNat : Int) == 255) = decide (d = 255) := by
          rw [Bool.eq_iff_iff]; simp only [beq_iff_eq, decide_eq_true_eq]
          constructor
          · intro e; apply UInt8.toNat_inj.1; simp only [UInt8.reduceToNat]; omega
          · intro e; subst e; rfl
        have e01 : ((d.toNat : Int) == 1) = decide (d = 1) := by
          rw [Bool.eq_iff_iff]; simp only [beq_iff_eq, decide_eq_true_eq]
          constructor
          · intro e; apply UInt8.toNat_inj.1; simp only [UInt8.reduceToNat]; omega
          · intro e; subst e; rfl
        rw [e255, wrapI_of (x := ((i + 1 : Nat) : Int) + 1) (by omega) (by omega)]
        by_cases hx : d = 255
        · rw [decide_eq_true hx, cond_true, if_pos hx, show ((i + 1 : Nat) : Int) + 1 = ((i + 1 + 1 : Nat) : Int) by omega]
          have ih := un_loop fu n0 l hl (k - 1) (i + 1 + 1) n (n5.map (· && false)) (acc ++ [0]) (by omega) (by omega) (by simp; omega)
          rw [List.length_append] at ih
          unfold unLoop at ih
          rw [← ih, ← bC_snoc]
          rfl
        · rw [decide_eq_false hx, cond_false, if_neg hx]
          unfold unEnd
          have hd' : l[i + 1]? = some d := by rw [hd, hdd]
          rw [cond_t (decide_eq_true (by omega)), ixY_eq (by omega) hd', e01, pbytes_bC]
          by_cases hy : d = 1
          · rw [decide_eq_true hy, cond_true, if_pos hy, wrapI_of (by omega) (by omega)]
            simp only [Option.bind_some]
            rw [cond_t (by rw [decide_eq_true (by omega), decide_eq_true (by omega)]; rfl), show (((i + 1 : Nat) : Int) + 1).toNat = i + 1 + 1 by omega]
            unfold resU
            simp only [Option.elim_some, Option.isSome_some, cond_true, List.length_drop, Nat.mul_one]
            have e2 : ((bC l).take l.length).drop (i + 1 + 1) = bC (l.drop (i + 1 + 1)) := by
              rw [List.take_of_length_le (by simp [bC]), bC, bC, List.map_drop]
            rw [e2]
          · rw [decide_eq_false hy, cond_false, if_neg hy]; rfl
      · rw [cond_f (decide_eq_false (by omega)), List.drop_of_length_le (by omega)]
        unfold unEnd
        rw [cond_f (decide_eq_false (by omega))]
        rfl
    · rw [cond_t (by
        have : ((c.toNat : Int) == 0) = false := by
          rw [beq_eq_false_iff_ne]; intro e; apply h0; apply UInt8.toNat_inj.1; simp only [UInt8.reduceToNat]; omega
        rw [this]; rfl), if_neg h0]
      have ih := un_loop fu n0 l hl k (i + 1) n (n5.map (· && false)) (acc ++ [c]) (by omega) (by omega) (by simp; omega)
      rw [List.length_append] at ih
      unfold unLoop at ih
      rw [← ih, ← bC_snoc]
      rfl
def p_untext : PFn := ⟨fun xs k => match xs with | [.sl nl 1 n c] => (decY n c).bind fun l => bif decide (l.length ≤ 100000) then k (resU nl (untL l [])) else none | _ => none, false⟩
theorem bindY_nat {R : Type} {a : Option (List UInt8)} {g : List UInt8 → Bool} {v : List UInt8 → PV} {k : PV → Option R} :
    (a.bind fun A => bif g A then k (v A) else none) = (a.bind fun A => bif g A then some (v A) else none).bind k := by
  cases a with
  | none => rfl
  | some a => exact cond_nat
theorem bindY_inv {a : Option (List UInt8)} {g : List UInt8 → Bool} {v : List UInt8 → PV} {r : PV} (h : (a.bind fun A => bif g A then some (v A) else none) = some r) : ∃ A, a = some A ∧ g A = true ∧ r = v A := by
  obtain ⟨A, h1, h⟩ := Option.bind_eq_some_iff.1 h
  cases hg : g A <;> rw [hg] at h
  · cases h
  · injection h with h
    exact ⟨A, h1, hg, h.symm⟩
theorem ok_untext : FOK NGk Tabs 51 p_untext := by
  refine fok wokk allOK_nil (h := hUn) Tryd.func51 rfl (by decide) ?_ ?_
  · intro R xs k
    simp only [p_untext]
    split
    · exact bindY_nat
    · rfl
  · intro xs r h
    simp only [p_untext] at h
    split at h
    · rename_i nl n c
      obtain ⟨l, h1, hg, rfl⟩ := bindY_inv h
      obtain ⟨rfl, rfl⟩ := decY_inv h1
      simp only [decide_eq_true_eq] at hg
      refine ⟨l.length + 1, (un_raw _ nl _ _).trans ?_⟩
      exact un_loop (l.length + 1) nl l hg l.length 0 (l.length + 1) (some true) [] (by omega) (by omega) (by simp)
    · cases h
end Go.Proofs.YtclhnfalebiieaaDoor
