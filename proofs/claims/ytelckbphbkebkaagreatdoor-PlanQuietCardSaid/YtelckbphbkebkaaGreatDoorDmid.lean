/-
  Decimal: the document's answer (package refitref02), its numbers as lists of digits: Of, trim, Cmp, Shift, Plus, Minus.
  Decimal: the document's answer: Plus, Int, answer, Sum, Diff, Compare; the laws DecimalSums, DecimalCompares.
  Decimal: the document's answer: Int, answer, Sum, Diff, Compare; the laws DecimalSums and DecimalCompares.
  Decimal: the document's answer: Compare; the law DecimalCompares.
  Decimal: the document's answer: trim, Minus.
  Decimal: the document's answer: Times, Round.
  Decimal: the document's answer: Round, Rescale, Mul, Div; the laws DecimalScales and DecimalTimes.
-/
import Derived.Test.YtelckbphbkebkaaGreatDoorDq
import Derived.Test.YtelckbphbkebkaaGreatDoorDn
import Derived.Test.YtelckbphbkebkaaGreatDoorDsw
set_option linter.unusedVariables false
set_option linter.unusedSimpArgs false
namespace Go.Proofs.YtelckbphbkebkaaGreatDoor
open Go.RowKit

/-- an element of a slice of numbers -/
def ixI {R : Type} (len : Nat) (c : List PV) (i : Int) (K : Int → Option R) : Option R :=
  bif decide (0 ≤ i) && decide (i < (len : Int)) then ((c.drop (i.toNat * 1)).take 1).head?.bind fun v => (PV.asInt .i64 v).bind K else none
theorem ixI_eq {R : Type} {len : Nat} {l : List Nat} {i : Int} {d : Nat} {K : Int → Option R} (h0 : 0 ≤ i) (hl : i < (len : Int)) (hd : l[i.toNat]? = some d) : ixI len (cellsD l) i K = K d := by
  unfold ixI
  rw [cond_t (by rw [decide_eq_true h0, decide_eq_true hl]; rfl), Nat.mul_one]
  have : (((cellsD l).drop i.toNat).take 1).head? = some (cellD d) := by
    rw [List.head?_take, if_neg (by decide), List.head?_drop, cellsD, List.getElem?_map, hd]
    rfl
  rw [this]
  rfl
theorem ixI_dgs {R : Type} {n : Nat} {i : Int} {K : Int → Option R} (h0 : 0 ≤ i) (hl : i < (dlen n : Int)) : ixI (dlen n) (cellsN n) i K = K ((n / 10 ^ i.toNat % 10 : Nat) : Int) :=
  ixI_eq h0 hl (dg_get _ _ _ (by omega))
/-- there is room for more -/
def room {R : Type} (l m : Nat) (x : Option R) : Option R := bif decide (l + m ≤ 9223372036854775807) && decide ((l + m) * 8 ≤ 140737488355328) then x else none
theorem room_eq {R : Type} {l m : Nat} {x : Option R} (h : l + m ≤ 1000) : room l m x = x := by
  unfold room
  exact cond_t (by rw [decide_eq_true (by omega), decide_eq_true (by omega)]; rfl)
theorem big_nl (n : Nat) : (n == 0) = (dlen n == 0) := by
  by_cases h : n = 0
  · subst h; rw [dlen_zero]
  · rw [beq_eq_false_iff_ne.2 h, dlen_pos h]; rfl
theorem div0 {n i : Nat} : n / 10 ^ i = 0 ↔ dlen n ≤ i := by rw [dlen_le, Nat.div_eq_zero_iff_lt (Nat.pow_pos (by decide))]
theorem dlen_div (n : Nat) : ∀ (i : Nat), dlen (n / 10 ^ i) = dlen n - i
  | 0 => by simp
  | i + 1 => by
    rw [div_div10]
    by_cases h : n / 10 ^ i = 0
    · have := div0.1 h
      rw [h, Nat.zero_div, dlen_zero]; omega
    · have := dlen_pos h
      rw [dlen_div n i] at this
      omega

/-! ## Of -/
def hOf : Hints := ⟨[], [(0, ⟨[(0, false), (3, true)], []⟩)]⟩
def frOf (x : Int) (nl : Option Bool) (l : Nat) (c : List PV) : St := frame 20 [(0, (.int .i64 x, 0)), (3, (.sl nl 1 l c, 25))] []
noncomputable def ofLoop (fu n : Nat) (st : St) : Option PV := loopF (en []) hOf fu false Tryz.f101 [1, 1, 0, 0] 0 n st
theorem of_raw (fu : Nat) (n : Int) : prun (en []) hOf fu false Tryz.f101 [.int .i64 n] = ofLoop fu fu (frOf n (some true) 0 []) := by kernel_rfl
def ofBody (x : Int) (nl : Option Bool) (l : Nat) (c : List PV) (G : Int → Option Bool → Nat → List PV → Option PV) : Option PV :=
  bif !(x == 0) then
    bif decide (x.tmod 10 < 0) then room l 1 (G (IntKind.i64.wrap (x.tdiv 10)) (nl.map (· && false)) (l + 1) (c ++ [.int .i64 (IntKind.i64.wrap (0 - x.tmod 10))]))
    else room l 1 (G (IntKind.i64.wrap (x.tdiv 10)) (nl.map (· && false)) (l + 1) (c ++ [.int .i64 (x.tmod 10)]))
  else some (.sl nl 1 l c)
theorem of_step (fu : Nat) (x : Int) (nl : Option Bool) (l : Nat) (c : List PV) (K : St → Option PV) : stepF (en []) hOf fu false Tryz.f101 [1, 1, 0, 0] (frOf x nl l c) (fun st => pnorm (hOf.loop.lookup 0) st K) =
    ofBody x nl l c (fun a b d e => K (frOf a b d e)) := by kernel_rfl
theorem of_loop (fu N : Nat) : ∀ (m i n : Nat) (x : Int), x.natAbs = N / 10 ^ i → dlen (N / 10 ^ i) = m → m < n → i + m ≤ 900 → -9223372036854775808 ≤ x → x ≤ 9223372036854775807 →
    ofLoop fu n (frOf x (some (i == 0)) i (cellsD (dg i N))) = some (.sl (some (i + m == 0)) 1 (i + m) (cellsD (dg (i + m) N)))
  | m, i, 0, x, _, _, h, _, _, _ => by omega
  | m, i, n + 1, x, hx, hm, hn, hi, h0, h1 => by
    unfold ofLoop
    rw [loopF_succ, of_step, ofBody]
    by_cases h : x = 0
    · subst h
      have hz : N / 10 ^ i = 0 := by rw [← hx]; rfl
      rw [hz, dlen_zero] at hm
      subst hm
      rfl
    · rw [cond_t (by simpa using h)]
      have hz : N / 10 ^ i ≠ 0 := by rw [← hx]; omega
      have hm' := dlen_pos hz
      rw [← div_div10] at hm'
      have e1 := Int.natAbs_tmod x 10
      have e2 : (x.tdiv 10).natAbs = N / 10 ^ (i + 1) := by rw [div_div10, ← hx]; exact Int.natAbs_tdiv x 10
      rw [hx, show (10 : Int).natAbs = 10 from rfl] at e1
      have hq : -9223372036854775808 ≤ x.tdiv 10 ∧ x.tdiv 10 ≤ 9223372036854775807 := by
        have hle : (x.tdiv 10).natAbs * 10 ≤ x.natAbs := by rw [e2, hx, div_div10]; exact Nat.div_mul_le_self _ _
        clear e1 e2
        generalize x.tdiv 10 = q at *
        omega
      have ih := of_loop fu N (m - 1) (i + 1) n (x.tdiv 10) e2 (by omega) (by omega) (by omega) hq.1 hq.2
      unfold ofLoop at ih
      rw [show i + 1 + (m - 1) = i + m by omega, dg_snoc, show (i + 1 == 0) = false from rfl] at ih
      have hd : ∀ y : Int, y = ((N / 10 ^ i % 10 : Nat) : Int) → cellsD (dg i N) ++ [PV.int .i64 y] = cellsD (dg i N ++ [N / 10 ^ i % 10]) := by
        intro y hy; rw [hy]; simp [cellsD, cellD]
      have hnl : (some (i == 0)).map (fun b : Bool => b && false) = some false := by simp
      rw [room_eq (by omega), room_eq (by omega), wrapI_of hq.1 hq.2, hnl]
      by_cases hs : x.tmod 10 < 0
      · rw [cond_t (decide_eq_true hs), wrapI_of (by omega) (by omega), hd _ (by omega)]
        exact ih
      · rw [cond_f (decide_eq_false hs), hd _ (by omega)]
        exact ih
def p_Of : PFn := ⟨fun xs k => match xs with | [.int .i64 n] => bif inI n then k (big n.natAbs) else none | _ => none, false⟩
theorem ok_Of : FOK NGd Wd 101 p_Of := by
  refine fok wokd allOK_nil (h := hOf) Tryz.func101 rfl (by decide) ?_ ?_
  · intro R xs k
    simp only [p_Of]
    split
    · exact cond_nat
    · rfl
  · intro xs r h
    simp only [p_Of] at h
    split at h
    · rename_i n
      rcases hb : inI n with _ | _ <;> rw [hb] at h
      · cases h
      · simp only [cond_true, Option.some.injEq] at h
        subst h
        rw [inI_iff] at hb
        refine ⟨1000, (of_raw 1000 n).trans ?_⟩
        have hl : dlen n.natAbs ≤ 20 := (dlen_le _ _).2 (by omega)
        have := of_loop 1000 n.natAbs (dlen n.natAbs) 0 1000 n (by simp) (by simp) (by omega) (by omega) hb.1 hb.2
        rw [Nat.zero_add, ← big_nl] at this
        exact this
    · cases h

/-! ## Cmp -/
def hCmp : Hints := ⟨[], [(0, ⟨[(0, false), (1, false), (5, false)], []⟩)]⟩
def frCmp (n0 : Option Bool) (l0 : Nat) (c0 : List PV) (n1 : Option Bool) (l1 : Nat) (c1 : List PV) (i : Int) : St := frame 41 [(0, (.sl n0 1 l0 c0, 0)), (1, (.sl n1 1 l1 c1, 0)), (5, (.int .i64 i, 0))] []
noncomputable def cmpLoop (fu n : Nat) (st : St) : Option PV := loopF (en []) hCmp fu false Tryz.f134 [1, 1, 0, 1, 0] 0 n st
theorem cmp_raw (fu : Nat) (n0 : Option Bool) (l0 : Nat) (c0 : List PV) (n1 : Option Bool) (l1 : Nat) (c1 : List PV) : prun (en []) hCmp fu false Tryz.f134 [.sl n0 1 l0 c0, .sl n1 1 l1 c1] =
    bif !((l0 : Int) == (l1 : Int)) then bif decide ((l0 : Int) < (l1 : Int)) then some (.int .i64 (-1)) else some (.int .i64 1) else cmpLoop fu fu (frCmp n0 l0 c0 n1 l1 c1 (IntKind.i64.wrap ((l0 : Int) - 1))) := by kernel_rfl
def cmpBody (l0 : Nat) (c0 : List PV) (l1 : Nat) (c1 : List PV) (i : Int) (G : Int → Option PV) : Option PV :=
  bif decide (0 ≤ i) then ixI l0 c0 i fun a => ixI l1 c1 i fun b => bif decide (a < b) then some (.int .i64 (-1)) else ixI l0 c0 i fun a => ixI l1 c1 i fun b => bif decide (b < a) then some (.int .i64 1) else G (IntKind.i64.wrap (i - 1))
  else some (.int .i64 0)
theorem cmp_step (fu : Nat) (n0 : Option Bool) (l0 : Nat) (c0 : List PV) (n1 : Option Bool) (l1 : Nat) (c1 : List PV) (i : Int) (K : St → Option PV) :
    stepF (en []) hCmp fu false Tryz.f134 [1, 1, 0, 1, 0] (frCmp n0 l0 c0 n1 l1 c1 i) (fun st => pnorm (hCmp.loop.lookup 0) st K) = cmpBody l0 c0 l1 c1 i (fun j => K (frCmp n0 l0 c0 n1 l1 c1 j)) := by kernel_rfl
theorem cmp_loop (fu : Nat) {A B : Nat} (hl : dlen A = dlen B) (n0 n1 : Option Bool) : ∀ (m n : Nat), m ≤ dlen A → m < n → m ≤ 900 → A / 10 ^ m = B / 10 ^ m →
    cmpLoop fu n (frCmp n0 (dlen A) (cellsN A) n1 (dlen B) (cellsN B) ((m : Int) - 1)) = some (.int .i64 (cmpI A B))
  | m, 0, _, h, _, _ => by omega
  | 0, n + 1, _, _, _, h => by
    unfold cmpLoop
    rw [loopF_succ, cmp_step, cmpBody, cond_f (by decide)]
    simp only [Nat.pow_zero, Nat.div_one] at h
    rw [h, cmpI_self]
  | m + 1, n + 1, hm, hn, hb, h => by
    unfold cmpLoop
    rw [loopF_succ, cmp_step, cmpBody]
    have e : ((m + 1 : Nat) : Int) - 1 = (m : Int) := by omega
    rw [e, cond_t (decide_eq_true (by omega)), ixI_dgs (by omega) (by omega), ixI_dgs (by omega) (by omega), ixI_dgs (by omega) (by omega), ixI_dgs (by omega) (by omega), Int.toNat_natCast, wrapI_of (by omega) (by omega)]
    rw [div_div10, div_div10] at h
    have up : ∀ {X Y : Nat}, X / 10 ^ m < Y / 10 ^ m → X < Y := by
      intro X Y k
      rcases Nat.lt_or_ge X Y with q | q
      · exact q
      · have := Nat.div_le_div_right (c := 10 ^ m) q
        omega
    by_cases k1 : A / 10 ^ m < B / 10 ^ m
    · rw [cond_t (decide_eq_true (by omega)), cmpI_lt (by have := up k1; omega)]
    · rw [cond_f (decide_eq_false (by omega))]
      by_cases k2 : B / 10 ^ m < A / 10 ^ m
      · rw [cond_t (decide_eq_true (by omega)), cmpI_gt (by have := up k2; omega)]
      · rw [cond_f (decide_eq_false (by omega))]
        have := cmp_loop fu hl n0 n1 m n (by omega) (by omega) (by omega) (by omega)
        unfold cmpLoop at this
        exact this
def p_Cmp : PFn := ⟨fun xs k => match xs with | [.sl _ 1 l0 c0, .sl _ 1 l1 c1] => (decN l0 c0).bind fun A => (decN l1 c1).bind fun B => bif decide (dlen A ≤ 500) && decide (dlen B ≤ 500) then k (.int .i64 (cmpI A B)) else none | _ => none, false⟩
theorem bind2_nat {R : Type} {a b : Option Nat} {g : Nat → Nat → Bool} {v : Nat → Nat → PV} {k : PV → Option R} :
    (a.bind fun A => b.bind fun B => bif g A B then k (v A B) else none) = (a.bind fun A => b.bind fun B => bif g A B then some (v A B) else none).bind k := by
  cases a with
  | none => rfl
  | some a => cases b with
    | none => rfl
    | some b => exact cond_nat
theorem bind2_inv {a b : Option Nat} {g : Nat → Nat → Bool} {v : Nat → Nat → PV} {r : PV} (h : (a.bind fun A => b.bind fun B => bif g A B then some (v A B) else none) = some r) : ∃ A B, a = some A ∧ b = some B ∧ g A B = true ∧ r = v A B := by
  obtain ⟨A, h1, h⟩ := Option.bind_eq_some_iff.1 h
  obtain ⟨B, h2, h⟩ := Option.bind_eq_some_iff.1 h
  cases hg : g A B <;> rw [hg] at h
  · cases h
  · injection h with h
    exact ⟨A, B, h1, h2, hg, h.symm⟩
theorem ok_Cmp : FOK NGd Wd 134 p_Cmp := by
  refine fok wokd allOK_nil (h := hCmp) Tryz.func134 rfl (by decide) ?_ ?_
  · intro R xs k
    simp only [p_Cmp]
    split
    · exact bind2_nat
    · rfl
  · intro xs r h
    simp only [p_Cmp] at h
    split at h
    · rename_i n0 l0 c0 n1 l1 c1
      obtain ⟨A, B, h1, h2, hg, rfl⟩ := bind2_inv h
      obtain ⟨rfl, rfl⟩ := decN_inv h1
      obtain ⟨rfl, rfl⟩ := decN_inv h2
      simp only [Bool.and_eq_true, decide_eq_true_eq] at hg
      refine ⟨1000, (cmp_raw 1000 n0 _ _ n1 _ _).trans ?_⟩
      have up : ∀ {X Y : Nat}, dlen X < dlen Y → X < Y := by
        intro X Y k
        rcases Nat.lt_or_ge X Y with q | q
        · exact q
        · have := dlen_mono q; omega
      by_cases e : dlen A = dlen B
      · rw [cond_f (by simp [e]), wrapI_of (by omega) (by omega)]
        exact cmp_loop 1000 e n0 n1 (dlen A) 1000 (Nat.le_refl _) (by omega) (by omega) (by rw [div0.2 (Nat.le_refl _), e, div0.2 (Nat.le_refl _)])
      · rw [cond_t (by simp; omega)]
        by_cases k : dlen A < dlen B
        · rw [cond_t (decide_eq_true (by omega)), cmpI_lt (by have := up k; omega)]
        · rw [cond_f (decide_eq_false (by omega)), cmpI_gt (by have := up (show dlen B < dlen A by omega); omega)]
    · cases h

/-! ## Shift -/
def p_Shift : PFn := ⟨fun xs k => match xs with | [.sl _ 1 l0 c0, .int .i64 j] => (decN l0 c0).bind fun A => bif decide (dlen A ≤ 500) && (decide (0 ≤ j) && decide (j ≤ 100)) then k (big (A * 10 ^ j.toNat)) else none | _ => none, false⟩
theorem shift_raw (n0 : Option Bool) (l0 : Nat) (c0 : List PV) (j : Int) : prun (en []) ⟨[], []⟩ 0 false Tryz.f135 [.sl n0 1 l0 c0, .int .i64 j] =
    bif (l0 : Int) == 0 then some (.sl (some true) 1 0 []) else
    bif decide (0 ≤ j) && decide (j ≤ j) && decide (j * ((8 : Nat) : Int) ≤ ((140737488355328 : Nat) : Int)) && decide (j ≤ 9223372036854775807) then
      room j.toNat l0 (some (.sl ((some false).map (· && (l0 == 0))) 1 (j.toNat + l0) ((List.replicate j.toNat [.int .i64 0]).flatten ++ c0))) else none := by kernel_rfl
theorem ok_Shift : FOK NGd Wd 135 p_Shift := by
  refine fok wokd allOK_nil (h := ⟨[], []⟩) Tryz.func135 rfl (by decide) ?_ ?_
  · intro R xs k
    simp only [p_Shift]
    split
    · rename_i l0 c0 j
      cases decN l0 c0 with
      | none => rfl
      | some A => exact cond_nat
    · rfl
  · intro xs r h
    simp only [p_Shift] at h
    split at h
    · rename_i n0 l0 c0 j
      obtain ⟨A, h1, g⟩ := Option.bind_eq_some_iff.1 h
      obtain ⟨rfl, rfl⟩ := decN_inv h1
      rcases hb : (decide (dlen A ≤ 500) && (decide (0 ≤ j) && decide (j ≤ 100))) with _ | _ <;> rw [hb] at g
      · cases g
      · simp only [cond_true, Option.some.injEq] at g
        subst g
        simp only [Bool.and_eq_true, decide_eq_true_eq] at hb
        refine ⟨0, (shift_raw n0 _ _ j).trans ?_⟩
        by_cases e : A = 0
        · subst e
          rw [cond_t (by rw [dlen_zero]; rfl)]
          unfold big cellsN dgs
          rw [Nat.zero_mul, dlen_zero]; rfl
        · rw [cond_f (by rw [dlen_pos e]; simp; omega), cond_t (by simp only [Bool.and_eq_true, decide_eq_true_eq]; omega), room_eq (by omega)]
          unfold big cellsN
          have hne : A * 10 ^ j.toNat ≠ 0 := Nat.mul_ne_zero e (by have := Nat.pow_pos (a := 10) (n := j.toNat) (by decide); omega)
          rw [dlen_shift e, beq_eq_false_iff_ne.2 hne]
          have : cellsD (dgs (A * 10 ^ j.toNat)) = (List.replicate j.toNat [PV.int .i64 0]).flatten ++ cellsD (dgs A) := by
            rw [dgs, dlen_shift e, ← dg_shift]
            simp only [cellsD, List.map_append, List.map_replicate]
            congr 1
            generalize j.toNat = t
            induction t with
            | zero => rfl
            | succ t ih => rw [List.replicate_succ, List.replicate_succ, List.flatten_cons, ih]; rfl
          rw [this]
          simp
    · cases h
end Go.Proofs.YtelckbphbkebkaaGreatDoor
set_option linter.unusedVariables false
set_option linter.unusedSimpArgs false
namespace Go.Proofs.YtelckbphbkebkaaGreatDoor
open Go.RowKit

theorem dlen_add {A B k : Nat} (h1 : dlen A ≤ k) (h2 : dlen B ≤ k) : dlen (A + B) ≤ k + 1 := by
  refine (dlen_le _ _).2 ?_
  have h1 := (dlen_le _ _).1 h1
  have h2 := (dlen_le _ _).1 h2
  rw [Nat.pow_succ]
  omega

/-! ## Plus -/
def hPlus : Hints := ⟨[], [(0, ⟨[(0, false), (1, false), (5, true), (6, false), (7, false)], []⟩)]⟩
def frPlus (n0 : Option Bool) (l0 : Nat) (c0 : List PV) (n1 : Option Bool) (l1 : Nat) (c1 : List PV) (nl : Option Bool) (l : Nat) (c : List PV) (s i : Int) : St :=
  frame 52 [(0, (.sl n0 1 l0 c0, 0)), (1, (.sl n1 1 l1 c1, 0)), (5, (.sl nl 1 l c, 59)), (6, (.int .i64 s, 0)), (7, (.int .i64 i, 0))] []
noncomputable def plusLoop (fu n : Nat) (st : St) : Option PV := loopF (en []) hPlus fu false Tryz.f100 [1, 1, 1, 0, 1, 0] 0 n st
theorem plus_raw (fu : Nat) (n0 : Option Bool) (l0 : Nat) (c0 : List PV) (n1 : Option Bool) (l1 : Nat) (c1 : List PV) : prun (en []) hPlus fu false Tryz.f100 [.sl n0 1 l0 c0, .sl n1 1 l1 c1] =
    plusLoop fu fu (frPlus n0 l0 c0 n1 l1 c1 (some true) 0 [] 0 0) := by kernel_rfl
def plusE (nl : Option Bool) (l : Nat) (c : List PV) (i : Int) (G : Option Bool → Nat → List PV → Int → Int → Option PV) (s : Int) : Option PV :=
  room l 1 (G (nl.map (· && false)) (l + 1) (c ++ [.int .i64 (s.tmod 10)]) (IntKind.i64.wrap (s.tdiv 10)) (IntKind.i64.wrap (i + 1)))
def plusW (l0 : Nat) (c0 : List PV) (l1 : Nat) (c1 : List PV) (s i : Int) (E : Int → Option PV) : Option PV :=
  bif decide (i < (l0 : Int)) then ixI l0 c0 i fun a => bif decide (i < (l1 : Int)) then ixI l1 c1 i fun b => E (IntKind.i64.wrap (IntKind.i64.wrap (s + a) + b)) else E (IntKind.i64.wrap (s + a))
  else bif decide (i < (l1 : Int)) then ixI l1 c1 i fun b => E (IntKind.i64.wrap (s + b)) else E s
def plusBody (l0 : Nat) (c0 : List PV) (l1 : Nat) (c1 : List PV) (nl : Option Bool) (l : Nat) (c : List PV) (s i : Int) (G : Option Bool → Nat → List PV → Int → Int → Option PV) : Option PV :=
  bif !decide (i < (l0 : Int)) then bif decide (i < (l1 : Int)) || decide (0 < s) then plusW l0 c0 l1 c1 s i (plusE nl l c i G) else some (.sl nl 1 l c)
  else plusW l0 c0 l1 c1 s i (plusE nl l c i G)
theorem plus_step (fu : Nat) (n0 : Option Bool) (l0 : Nat) (c0 : List PV) (n1 : Option Bool) (l1 : Nat) (c1 : List PV) (nl : Option Bool) (l : Nat) (c : List PV) (s i : Int) (K : St → Option PV) :
    stepF (en []) hPlus fu false Tryz.f100 [1, 1, 1, 0, 1, 0] (frPlus n0 l0 c0 n1 l1 c1 nl l c s i) (fun st => pnorm (hPlus.loop.lookup 0) st K) =
    plusBody l0 c0 l1 c1 nl l c s i (fun a b d e f => K (frPlus n0 l0 c0 n1 l1 c1 a b d e f)) := by kernel_rfl
theorem plus_w {A B i : Nat} {s : Int} (hs : 0 ≤ s) (hs2 : s ≤ 1000) (E : Int → Option PV) : plusW (dlen A) (cellsN A) (dlen B) (cellsN B) s (i : Int) E = E (s + ((A / 10 ^ i % 10 : Nat) : Int) + ((B / 10 ^ i % 10 : Nat) : Int)) := by
  unfold plusW
  have hA : ¬ (i : Int) < (dlen A : Int) → A / 10 ^ i % 10 = 0 := fun h => by rw [div0.2 (by omega)]
  have hB : ¬ (i : Int) < (dlen B : Int) → B / 10 ^ i % 10 = 0 := fun h => by rw [div0.2 (by omega)]
  by_cases ka : (i : Int) < (dlen A : Int)
  · rw [cond_t (decide_eq_true ka), ixI_dgs (by omega) ka, Int.toNat_natCast]
    by_cases kb : (i : Int) < (dlen B : Int)
    · rw [cond_t (decide_eq_true kb), ixI_dgs (by omega) kb, Int.toNat_natCast, wrapI_of (x := s + _) (by omega) (by omega), wrapI_of (by omega) (by omega)]
    · rw [cond_f (decide_eq_false kb), hB kb, wrapI_of (by omega) (by omega)]
      simp
  · rw [cond_f (decide_eq_false ka), hA ka]
    by_cases kb : (i : Int) < (dlen B : Int)
    · rw [cond_t (decide_eq_true kb), ixI_dgs (by omega) kb, Int.toNat_natCast, wrapI_of (by omega) (by omega)]
      simp
    · rw [cond_f (decide_eq_false kb), hB kb]
      simp
theorem carry {A B : Nat} (i : Nat) : A / 10 ^ i + B / 10 ^ i ≤ (A + B) / 10 ^ i ∧ (A + B) / 10 ^ i ≤ A / 10 ^ i + B / 10 ^ i + 1 := by
  have hp : 0 < 10 ^ i := Nat.pow_pos (by decide)
  have h1 := Nat.div_add_mod A (10 ^ i)
  have h2 := Nat.div_add_mod B (10 ^ i)
  have h3 := Nat.mod_lt A hp
  have h4 := Nat.mod_lt B hp
  generalize 10 ^ i = p at *
  refine ⟨(Nat.le_div_iff_mul_le hp).2 ?_, Nat.le_of_lt_succ ((Nat.div_lt_iff_lt_mul hp).2 ?_)⟩
  · rw [Nat.add_mul, Nat.mul_comm _ p, Nat.mul_comm _ p]; omega
  · show A + B < (A / p + B / p + 2) * p
    rw [Nat.add_mul, Nat.add_mul, Nat.mul_comm (A / p) p, Nat.mul_comm (B / p) p]; omega
theorem plus_loop (fu A B : Nat) (n0 n1 : Option Bool) (hA : dlen A ≤ 600) (hB : dlen B ≤ 600) (hS : dlen (A + B) ≤ 700) : ∀ (m i n : Nat), i + m = dlen (A + B) → m < n →
    plusLoop fu n (frPlus n0 (dlen A) (cellsN A) n1 (dlen B) (cellsN B) (some (i == 0)) i (cellsD (dg i (A + B))) (((A + B) / 10 ^ i - A / 10 ^ i - B / 10 ^ i : Nat) : Int) (i : Int)) = some (big (A + B))
  | m, i, 0, _, h => by omega
  | m, i, n + 1, hi, hn => by
    have hc := carry (A := A) (B := B) i
    unfold plusLoop
    rw [loopF_succ, plus_step, plusBody]
    have go : 0 < m → plusW (dlen A) (cellsN A) (dlen B) (cellsN B) (((A + B) / 10 ^ i - A / 10 ^ i - B / 10 ^ i : Nat) : Int) (i : Int) (plusE (some (i == 0)) i (cellsD (dg i (A + B))) (i : Int)
        (fun a b d e f => loopF (en []) hPlus fu false Tryz.f100 [1, 1, 1, 0, 1, 0] 0 n (frPlus n0 (dlen A) (cellsN A) n1 (dlen B) (cellsN B) a b d e f))) = some (big (A + B)) := by
      intro hm
      have ih := plus_loop fu A B n0 n1 hA hB hS (m - 1) (i + 1) n (by omega) (by omega)
      unfold plusLoop at ih
      rw [plus_w (by omega) (by omega), plusE, room_eq (by omega), ← ih]
      have d1 := div_div10 A i
      have d2 := div_div10 B i
      have d3 := div_div10 (A + B) i
      generalize (A + B) / 10 ^ (i + 1) = z' at *
      generalize A / 10 ^ (i + 1) = x' at *
      generalize B / 10 ^ (i + 1) = y' at *
      have e1 : cellsD (dg i (A + B)) ++ [PV.int .i64 (((A + B) / 10 ^ i % 10 : Nat) : Int)] = cellsD (dg (i + 1) (A + B)) := by rw [dg_snoc]; simp [cellsD, cellD]
      rw [← e1]
      generalize (A + B) / 10 ^ i = z at *
      generalize A / 10 ^ i = x at *
      generalize B / 10 ^ i = y at *
      have e2 : (((z - x - y : Nat) : Int) + ((x % 10 : Nat) : Int) + ((y % 10 : Nat) : Int)).tmod 10 = ((z % 10 : Nat) : Int) := by
        rw [Int.tmod_eq_emod_of_nonneg (by omega)]; omega
      have e3 : (((z - x - y : Nat) : Int) + ((x % 10 : Nat) : Int) + ((y % 10 : Nat) : Int)).tdiv 10 = ((z' - x' - y' : Nat) : Int) := by
        rw [Int.tdiv_eq_ediv_of_nonneg (by omega)]; omega
      rw [e2, e3, wrapI_of (by omega) (by omega), wrapI_of (x := (i : Int) + 1) (by omega) (by omega)]
      simp
    have hz : m = 0 → (A + B) / 10 ^ i = 0 := fun h => div0.2 (by omega)
    by_cases hm : m = 0
    · have z0 := hz hm
      have := dlen_mono (show A ≤ A + B by omega)
      have := dlen_mono (show B ≤ A + B by omega)
      rw [cond_t (by rw [decide_eq_false (by omega)]; rfl), cond_f (by rw [decide_eq_false (by omega), z0]; simp)]
      subst hm
      have : i = dlen (A + B) := by omega
      rw [this]
      unfold big
      rw [← big_nl]
      rfl
    · by_cases ka : (i : Int) < (dlen A : Int)
      · rw [decide_eq_true ka]
        exact go (by omega)
      · rw [cond_t (by rw [decide_eq_false ka]; rfl)]
        by_cases kb : (i : Int) < (dlen B : Int)
        · rw [decide_eq_true kb]
          exact go (by omega)
        · have h1 := div0 (n := A) (i := i)
          have h2 := div0 (n := B) (i := i)
          have h3 := div0 (n := A + B) (i := i)
          rw [cond_t (by rw [Bool.or_eq_true, decide_eq_true_eq, decide_eq_true_eq]; omega)]
          exact go (by omega)
def p_Plus : PFn := ⟨fun xs k => match xs with | [.sl _ 1 l0 c0, .sl _ 1 l1 c1] => (decN l0 c0).bind fun A => (decN l1 c1).bind fun B => bif decide (dlen A ≤ 500) && decide (dlen B ≤ 500) then k (big (A + B)) else none | _ => none, false⟩
theorem ok_Plus : FOK NGd Wd 100 p_Plus := by
  refine fok wokd allOK_nil (h := hPlus) Tryz.func100 rfl (by decide) ?_ ?_
  · intro R xs k
    simp only [p_Plus]
    split
    · exact bind2_nat
    · rfl
  · intro xs r h
    simp only [p_Plus] at h
    split at h
    · rename_i n0 l0 c0 n1 l1 c1
      obtain ⟨A, B, h1, h2, hg, rfl⟩ := bind2_inv h
      obtain ⟨rfl, rfl⟩ := decN_inv h1
      obtain ⟨rfl, rfl⟩ := decN_inv h2
      simp only [Bool.and_eq_true, decide_eq_true_eq] at hg
      refine ⟨1000, (plus_raw 1000 n0 _ _ n1 _ _).trans ?_⟩
      have hS := dlen_add hg.1 hg.2
      have := plus_loop 1000 A B n0 n1 (by omega) (by omega) (by omega) (dlen (A + B)) 0 1000 (by omega) (by omega)
      simp only [Nat.pow_zero, Nat.div_one] at this
      rw [show A + B - A - B = 0 by omega] at this
      exact this
    · cases h
end Go.Proofs.YtelckbphbkebkaaGreatDoor
set_option linter.unusedVariables false
set_option linter.unusedSimpArgs false
namespace Go.Proofs.YtelckbphbkebkaaGreatDoor
open Go.RowKit

/-! ## Int -/
/-- what Plus and Cmp yield of cells -/
def plusO {R : Type} (l0 : Nat) (c0 : List PV) (l1 : Nat) (c1 : List PV) (k : Nat → Option R) : Option R := (decN l0 c0).bind fun A => (decN l1 c1).bind fun B => bif decide (dlen A ≤ 500) && decide (dlen B ≤ 500) then k (A + B) else none
def cmpO {R : Type} (l0 : Nat) (c0 : List PV) (l1 : Nat) (c1 : List PV) (k : Int → Option R) : Option R := (decN l0 c0).bind fun A => (decN l1 c1).bind fun B => bif decide (dlen A ≤ 500) && decide (dlen B ≤ 500) then k (cmpI A B) else none
theorem plusO_eq {R : Type} {A B : Nat} {k : Nat → Option R} (hA : dlen A ≤ 500) (hB : dlen B ≤ 500) : plusO (dlen A) (cellsN A) (dlen B) (cellsN B) k = k (A + B) := by
  unfold plusO
  rw [decN_big, decN_big]
  exact cond_t (by rw [decide_eq_true hA, decide_eq_true hB]; rfl)
theorem cmpO_eq {R : Type} {A B : Nat} {k : Int → Option R} (hA : dlen A ≤ 500) (hB : dlen B ≤ 500) : cmpO (dlen A) (cellsN A) (dlen B) (cellsN B) k = k (cmpI A B) := by
  unfold cmpO
  rw [decN_big, decN_big]
  exact cond_t (by rw [decide_eq_true hA, decide_eq_true hB]; rfl)
theorem one_cells : (dlen 1, cellsN 1) = (1, [PV.int .i64 1]) := rfl
noncomputable def lInt : List (FuncId × PFn) := [(101, p_Of), (100, p_Plus), (134, p_Cmp)]
theorem ok_lInt : AllOK NGd Wd lInt := allOK_cons ok_Of (allOK_cons ok_Plus (allOK_cons ok_Cmp allOK_nil))
def hInt : Hints := ⟨[], [(0, ⟨[(0, false), (1, false), (7, false), (8, false)], []⟩)]⟩
def frInt (n0 : Option Bool) (l0 : Nat) (c0 : List PV) (m : Bool) (x i : Int) : St := frame 41 [(0, (.sl n0 1 l0 c0, 0)), (1, (.bool m, 0)), (7, (.int .i64 x, 0)), (8, (.int .i64 i, 0))] []
noncomputable def intLoop (fu n : Nat) (st : St) : Option PV := loopF (en lInt) hInt fu false Tryz.f132 [1, 1, 1, 1, 1, 0, 1, 0] 0 n st
def maxN : Nat := (9223372036854775807 : Int).natAbs
def intTop (l0 : Nat) (c0 : List PV) (m : Bool) (L : Option PV) : Option PV :=
  bif m then plusO (dlen maxN) (cellsN maxN) 1 [.int .i64 1] fun Y => cmpO l0 c0 (dlen Y) (cellsN Y) fun z => bif decide (0 < z) then some (.tuple [.int .i64 0, .bool false]) else L
  else cmpO l0 c0 (dlen maxN) (cellsN maxN) fun z => bif decide (0 < z) then some (.tuple [.int .i64 0, .bool false]) else L
theorem int_raw (fu : Nat) (n0 : Option Bool) (l0 : Nat) (c0 : List PV) (m : Bool) : prun (en lInt) hInt fu false Tryz.f132 [.sl n0 1 l0 c0, .bool m] =
    intTop l0 c0 m (intLoop fu fu (frInt n0 l0 c0 m 0 (IntKind.i64.wrap ((l0 : Int) - 1)))) := by kernel_rfl
def intBody (l0 : Nat) (c0 : List PV) (m : Bool) (x i : Int) (G : Int → Int → Option PV) : Option PV :=
  bif decide (0 ≤ i) then
    bif m then ixI l0 c0 i fun v => G (IntKind.i64.wrap (IntKind.i64.wrap (10 * x) - v)) (IntKind.i64.wrap (i - 1))
    else ixI l0 c0 i fun v => G (IntKind.i64.wrap (IntKind.i64.wrap (10 * x) + v)) (IntKind.i64.wrap (i - 1))
  else some (.tuple [.int .i64 x, .bool true])
theorem int_step (fu : Nat) (n0 : Option Bool) (l0 : Nat) (c0 : List PV) (m : Bool) (x i : Int) (K : St → Option PV) :
    stepF (en lInt) hInt fu false Tryz.f132 [1, 1, 1, 1, 1, 0, 1, 0] (frInt n0 l0 c0 m x i) (fun st => pnorm (hInt.loop.lookup 0) st K) = intBody l0 c0 m x i (fun y j => K (frInt n0 l0 c0 m y j)) := by kernel_rfl
theorem int_loop (fu : Nat) (X : Nat) (n0 : Option Bool) (m : Bool) (hX : over64 (sgn X m) = false) : ∀ (k n : Nat), k ≤ dlen X → k < n → k ≤ 900 →
    intLoop fu n (frInt n0 (dlen X) (cellsN X) m (sgn ((X / 10 ^ k : Nat) : Int) m) ((k : Int) - 1)) = some (.tuple [.int .i64 (sgn X m), .bool true])
  | k, 0, _, h, _ => by omega
  | 0, n + 1, _, _, _ => by
    unfold intLoop
    rw [loopF_succ, int_step, intBody, cond_f (by decide)]
    simp
  | k + 1, n + 1, hk, hn, hb => by
    unfold intLoop
    have e : ((k + 1 : Nat) : Int) - 1 = (k : Int) := by omega
    rw [loopF_succ, int_step, intBody, e, cond_t (decide_eq_true (by omega)), ixI_dgs (by omega) (by omega), ixI_dgs (by omega) (by omega), Int.toNat_natCast, wrapI_of (x := (k : Int) - 1) (by omega) (by omega)]
    have ih := int_loop fu X n0 m hX k n (by omega) (by omega) (by omega)
    unfold intLoop at ih
    have hle : X / 10 ^ k ≤ X := Nat.div_le_self _ _
    have hd := div_div10 X k
    unfold over64 at hX
    simp only [Bool.or_eq_false_iff, decide_eq_false_iff_not] at hX
    rw [hd, ← ih]
    generalize X / 10 ^ k = q at *
    cases m
    · simp only [cond_false, sgn] at hX ⊢
      rw [wrapI_of (x := 10 * _) (by omega) (by omega), wrapI_of (by omega) (by omega), show 10 * ((q / 10 : Nat) : Int) + ((q % 10 : Nat) : Int) = (q : Int) by omega]
    · simp only [cond_true, sgn] at hX ⊢
      rw [wrapI_of (x := 10 * _) (by omega) (by omega), wrapI_of (by omega) (by omega), show 10 * -((q / 10 : Nat) : Int) - ((q % 10 : Nat) : Int) = -(q : Int) by omega]
def p_Int : PFn := ⟨fun xs k => match xs with | [.sl _ 1 l0 c0, .bool m] => (decN l0 c0).bind fun X => bif decide (dlen X ≤ 500) then k (.tuple [.int .i64 (ansV (sgn X m)), .bool (!over64 (sgn X m))]) else none | _ => none, false⟩
theorem bind1_nat {R : Type} {a : Option Nat} {g : Nat → Bool} {v : Nat → PV} {k : PV → Option R} :
    (a.bind fun A => bif g A then k (v A) else none) = (a.bind fun A => bif g A then some (v A) else none).bind k := by
  cases a with
  | none => rfl
  | some a => exact cond_nat
theorem bind1_inv {a : Option Nat} {g : Nat → Bool} {v : Nat → PV} {r : PV} (h : (a.bind fun A => bif g A then some (v A) else none) = some r) : ∃ A, a = some A ∧ g A = true ∧ r = v A := by
  obtain ⟨A, h1, h⟩ := Option.bind_eq_some_iff.1 h
  cases hg : g A <;> rw [hg] at h
  · cases h
  · injection h with h
    exact ⟨A, h1, hg, h.symm⟩
theorem maxN_eq : maxN = 9223372036854775807 := rfl
theorem ok_Int : FOK NGd Wd 132 p_Int := by
  refine fok wokd ok_lInt (h := hInt) Tryz.func132 rfl (by decide) ?_ ?_
  · intro R xs k
    simp only [p_Int]
    split
    · exact bind1_nat
    · rfl
  · intro xs r h
    simp only [p_Int] at h
    split at h
    · rename_i n0 l0 c0 m
      obtain ⟨X, h1, hg, rfl⟩ := bind1_inv h
      obtain ⟨rfl, rfl⟩ := decN_inv h1
      simp only [decide_eq_true_eq] at hg
      refine ⟨1000, (int_raw 1000 n0 _ _ m).trans ?_⟩
      have hm : dlen maxN ≤ 500 := by decide
      have hm1 : dlen (maxN + 1) ≤ 500 := by decide
      have key : ∀ (Y : Nat), dlen Y ≤ 500 → (over64 (sgn X m) = decide ((Y : Int) < X)) →
          (bif decide (0 < cmpI X Y) then some (PV.tuple [.int .i64 0, .bool false]) else intLoop 1000 1000 (frInt n0 (dlen X) (cellsN X) m 0 (IntKind.i64.wrap ((dlen X : Int) - 1)))) = some (.tuple [.int .i64 (ansV (sgn X m)), .bool (!over64 (sgn X m))]) := by
        intro Y hY ho
        by_cases hc : (Y : Int) < X
        · rw [cmpI_gt hc, cond_t (by decide)]
          unfold ansV
          rw [ho, decide_eq_true hc]; rfl
        · rw [decide_eq_false hc] at ho
          have hz : X / 10 ^ dlen X = 0 := div0.2 (Nat.le_refl _)
          have := int_loop 1000 X n0 m ho (dlen X) 1000 (Nat.le_refl _) (by omega) (by omega)
          rw [hz, show sgn ((0 : Nat) : Int) m = 0 by cases m <;> rfl] at this
          have hcc : ¬ 0 < cmpI X Y := by
            rcases cmpI_cases X Y with ⟨k, e⟩ | ⟨k, e⟩ | ⟨k, e⟩ <;> omega
          rw [cond_f (decide_eq_false hcc), wrapI_of (by omega) (by omega), this]
          unfold ansV
          rw [ho]; rfl
      unfold intTop
      cases m
      · rw [cond_false, cmpO_eq hg hm]
        refine key maxN hm ?_
        rw [maxN_eq]
        unfold over64 sgn
        simp only [cond_false]
        rw [decide_eq_false (show ¬ (X : Int) < -9223372036854775808 by omega)]
        rfl
      · have e1 := one_cells
        injection e1 with e1 e2
        rw [cond_true, ← e1, ← e2, plusO_eq hm (by decide), cmpO_eq hg hm1]
        refine key (maxN + 1) hm1 ?_
        rw [maxN_eq]
        unfold over64 sgn
        simp only [cond_true]
        rw [decide_eq_false (show ¬ 9223372036854775807 < -(X : Int) by omega), Bool.or_false]
        congr 1
        simp only [eq_iff_iff]
        omega
    · cases h

/-! ## answer -/
def p_answer : PFn := ⟨fun xs k => match xs with | [.sl _ 1 l0 c0, .bool m] => (decN l0 c0).bind fun X => bif decide (dlen X ≤ 500) then k (ansI (sgn X m)) else none | _ => none, false⟩
theorem answer_raw (n0 : Option Bool) (l0 : Nat) (c0 : List PV) (m : Bool) : prun (en [(132, p_Int)]) ⟨[], []⟩ 0 false Tryz.f99 [.sl n0 1 l0 c0, .bool m] =
    (decN l0 c0).bind fun X => bif decide (dlen X ≤ 500) then (bif !(!over64 (sgn X m)) then some (.tuple [.int .i64 0, .int .i64 20]) else some (.tuple [.int .i64 (ansV (sgn X m)), .int .i64 0])) else none := by kernel_rfl
theorem ok_answer : FOK NGd Wd 99 p_answer := by
  refine fok wokd (allOK_cons ok_Int allOK_nil) (h := ⟨[], []⟩) Tryz.func99 rfl (by decide) ?_ ?_
  · intro R xs k
    simp only [p_answer]
    split
    · exact bind1_nat
    · rfl
  · intro xs r h
    simp only [p_answer] at h
    split at h
    · rename_i n0 l0 c0 m
      obtain ⟨X, h1, hg, rfl⟩ := bind1_inv h
      refine ⟨0, (answer_raw n0 _ _ m).trans ?_⟩
      rw [h1]
      simp only [Option.bind_some]
      rw [hg]
      unfold ansI ansV ansE
      cases over64 (sgn X m) <;> rfl
    · cases h

/-! ## Sum, Diff -/
/-- what answer yields of cells -/
def ansO (l0 : Nat) (c0 : List PV) (m : Bool) : Option PV := (decN l0 c0).bind fun X => bif decide (dlen X ≤ 500) then some (.tuple [.int .i64 (ansV (sgn X m)), .int .i64 (ansE (sgn X m))]) else none
theorem ansO_eq {X : Nat} {m : Bool} (h : dlen X ≤ 500) : ansO (dlen X) (cellsN X) m = some (ansI (sgn X m)) := by
  unfold ansO
  rw [decN_big]
  exact cond_t (decide_eq_true h)
theorem dlen_small {n : Nat} (h : n < 10 ^ 20) : dlen n ≤ 20 := (dlen_le _ _).2 h
theorem dlen_abs {n : Int} (h : inI n = true) : dlen n.natAbs ≤ 20 := dlen_small (by rw [inI_iff] at h; omega)
noncomputable def lSum : List (FuncId × PFn) := [(101, p_Of), (100, p_Plus), (99, p_answer)]
theorem ok_lSum : AllOK NGd Wd lSum := allOK_cons ok_Of (allOK_cons ok_Plus (allOK_cons ok_answer allOK_nil))
def sumA (a b : Int) : Option PV := bif inI a then bif inI b then plusO (dlen a.natAbs) (cellsN a.natAbs) (dlen b.natAbs) (cellsN b.natAbs) fun Z => ansO (dlen Z) (cellsN Z) (decide (a < 0)) else none else none
theorem sumA_eq {a b : Int} (ha : inI a = true) (hb : inI b = true) : sumA a b = some (ansI (sgn ((a.natAbs + b.natAbs : Nat) : Int) (decide (a < 0)))) := by
  unfold sumA
  have h1 := dlen_abs ha
  have h2 := dlen_abs hb
  have h3 := dlen_add h1 h2
  rw [ha, hb, cond_true, cond_true, plusO_eq (by omega) (by omega), ansO_eq (by omega)]
theorem rsum_raw (a b : Int) : prun (en lSum) ⟨[], []⟩ 0 false Tryz.f138 [.int .i64 a, .int .i64 b] =
    bif decide (a < 0) == decide (b < 0) then sumA a b else some (.tuple [.int .i64 (IntKind.i64.wrap (a + b)), .int .i64 0]) := by kernel_rfl
theorem rdiff_raw (a b : Int) : prun (en lSum) ⟨[], []⟩ 0 false Tryz.f63 [.int .i64 a, .int .i64 b] =
    bif !(decide (a < 0) == decide (b < 0)) then sumA a b else some (.tuple [.int .i64 (IntKind.i64.wrap (a - b)), .int .i64 0]) := by kernel_rfl
def p_RSum : PFn := ⟨fun xs k => match xs with | [.int .i64 a, .int .i64 b] => bif inI a && inI b then k (ansI (a + b)) else none | _ => none, false⟩
def p_RDiff : PFn := ⟨fun xs k => match xs with | [.int .i64 a, .int .i64 b] => bif inI a && inI b then k (ansI (a - b)) else none | _ => none, false⟩
theorem ok_RSum : FOK NGd Wd 138 p_RSum := by
  refine fok wokd ok_lSum (h := ⟨[], []⟩) Tryz.func138 rfl (by decide) ?_ ?_
  · intro R xs k
    simp only [p_RSum]
    split
    · exact cond_nat
    · rfl
  · intro xs r h
    simp only [p_RSum] at h
    split at h
    · rename_i a b
      rcases hb : (inI a && inI b) with _ | _ <;> rw [hb] at h
      · cases h
      · simp only [cond_true, Option.some.injEq] at h
        subst h
        simp only [Bool.and_eq_true] at hb
        refine ⟨0, (rsum_raw a b).trans ?_⟩
        rw [sumA_eq hb.1 hb.2]
        simp only [inI_iff] at hb
        by_cases h1 : a < 0 <;> by_cases h2 : b < 0 <;> simp only [h1, h2, decide_true, decide_false, beq_self_eq_true, cond_true, Bool.true_beq, Bool.false_beq, Bool.not_true, Bool.not_false, cond_false]
        · congr 2; unfold sgn; rw [cond_true]; omega
        · rw [ansI_fine (by omega), wrapI_of (by omega) (by omega)]
        · rw [ansI_fine (by omega), wrapI_of (by omega) (by omega)]
        · congr 2; unfold sgn; rw [cond_false]; omega
    · cases h
theorem ok_RDiff : FOK NGd Wd 63 p_RDiff := by
  refine fok wokd ok_lSum (h := ⟨[], []⟩) Tryz.func63 rfl (by decide) ?_ ?_
  · intro R xs k
    simp only [p_RDiff]
    split
    · exact cond_nat
    · rfl
  · intro xs r h
    simp only [p_RDiff] at h
    split at h
    · rename_i a b
      rcases hb : (inI a && inI b) with _ | _ <;> rw [hb] at h
      · cases h
      · simp only [cond_true, Option.some.injEq] at h
        subst h
        simp only [Bool.and_eq_true] at hb
        refine ⟨0, (rdiff_raw a b).trans ?_⟩
        rw [sumA_eq hb.1 hb.2]
        simp only [inI_iff] at hb
        by_cases h1 : a < 0 <;> by_cases h2 : b < 0 <;> simp only [h1, h2, decide_true, decide_false, beq_self_eq_true, cond_true, Bool.true_beq, Bool.false_beq, Bool.not_true, Bool.not_false, cond_false]
        · rw [ansI_fine (by omega), wrapI_of (by omega) (by omega)]
        · congr 2; unfold sgn; rw [cond_true]; omega
        · congr 2; unfold sgn; rw [cond_false]; omega
        · rw [ansI_fine (by omega), wrapI_of (by omega) (by omega)]
    · cases h
end Go.Proofs.YtelckbphbkebkaaGreatDoor
set_option linter.unusedVariables false
set_option linter.unusedSimpArgs false
namespace Go.Proofs.YtelckbphbkebkaaGreatDoor
open Go.RowKit

/-- what Shift yields of cells -/
def shiftO {R : Type} (l0 : Nat) (c0 : List PV) (j : Int) (k : Nat → Option R) : Option R := (decN l0 c0).bind fun A => bif decide (dlen A ≤ 500) && (decide (0 ≤ j) && decide (j ≤ 100)) then k (A * 10 ^ j.toNat) else none
theorem shiftO_eq {R : Type} {A : Nat} {j : Int} {k : Nat → Option R} (hA : dlen A ≤ 500) (h0 : 0 ≤ j) (h1 : j ≤ 100) : shiftO (dlen A) (cellsN A) j k = k (A * 10 ^ j.toNat) := by
  unfold shiftO
  rw [decN_big]
  exact cond_t (by rw [decide_eq_true hA, decide_eq_true h0, decide_eq_true h1]; rfl)
theorem dlen_shift_le {A k : Nat} {m : Nat} (h : dlen A ≤ m) : dlen (A * 10 ^ k) ≤ m + k := by
  by_cases e : A = 0
  · subst e; rw [Nat.zero_mul, dlen_zero]; omega
  · rw [dlen_shift e]; omega
noncomputable def lRC : List (FuncId × PFn) := [(101, p_Of), (135, p_Shift), (134, p_Cmp), (129, p_Scale)]
theorem ok_lRC : AllOK NGd Wd lRC := allOK_cons ok_Of (allOK_cons ok_Shift (allOK_cons ok_Cmp (allOK_cons ok_Scale allOK_nil)))
def rcBody (a sa b sb : Int) : Option PV :=
  bif !!scaleB sa then bif !scaleB sb then some (.int .i64 0) else
    bif decide (a < 0) && decide (0 ≤ b) then some (.int .i64 (-1)) else
    bif decide (0 ≤ a) && decide (b < 0) then some (.int .i64 1) else
    bif inI a then shiftO (dlen a.natAbs) (cellsN a.natAbs) sb fun X => bif inI b then shiftO (dlen b.natAbs) (cellsN b.natAbs) sa fun Y => cmpO (dlen X) (cellsN X) (dlen Y) (cellsN Y) fun z =>
      bif decide (a < 0) then some (.int .i64 (IntKind.i64.wrap (0 - z))) else some (.int .i64 z)
    else none else none
  else some (.int .i64 0)
theorem rc_raw (a sa b sb : Int) : prun (en lRC) ⟨[], []⟩ 0 false Tryz.f102 [.int .i64 a, .int .i64 sa, .int .i64 b, .int .i64 sb] = rcBody a sa b sb := by kernel_rfl
theorem tenI_pow {k : Int} (h0 : 0 ≤ k) (h1 : k ≤ 13) : tenI k = ((10 ^ k.toNat : Nat) : Int) := by
  unfold tenI
  rw [show min k 13 = k by omega]
theorem rc_body {a sa b sb : Int} (ha : inI a = true) (hb : inI b = true) : rcBody a sa b sb = some (.int .i64 (dcmp a sa b sb)) := by
  unfold rcBody dcmp
  cases h1 : scaleB sa
  · rfl
  · cases h2 : scaleB sb
    · rfl
    · rw [scaleB_iff] at h1 h2
      have t1 := tenI_le sa
      have t2 := tenI_le sb
      simp only [Bool.not_true, Bool.not_false, cond_true, cond_false, Bool.and_self]
      by_cases ka : a < 0
      · have q1 : a * tenI sb < 0 := Int.mul_neg_of_neg_of_pos ka (by omega)
        by_cases kb : b < 0
        · rw [decide_eq_true ka, decide_eq_false (show ¬ 0 ≤ b by omega), decide_eq_false (show ¬ 0 ≤ a by omega), ha, hb, shiftO_eq (by have := dlen_abs ha; omega) h2.1 (by omega), cond_true]
          simp only [Bool.and_false, Bool.false_and, cond_false, cond_true]
          rw [shiftO_eq (by have := dlen_abs hb; omega) h1.1 (by omega), cmpO_eq (by have := dlen_shift_le (k := sb.toNat) (dlen_abs ha); omega) (by have := dlen_shift_le (k := sa.toNat) (dlen_abs hb); omega)]
          rw [Int.natCast_mul, Int.natCast_mul, ← tenI_pow h2.1 (by omega), ← tenI_pow h1.1 (by omega), show ((a.natAbs : Nat) : Int) = -a by omega, show ((b.natAbs : Nat) : Int) = -b by omega, Int.neg_mul, Int.neg_mul]
          have e : IntKind.i64.wrap (0 - cmpI (-(a * tenI sb)) (-(b * tenI sa))) = cmpI (a * tenI sb) (b * tenI sa) := by
            rcases cmpI_cases (a * tenI sb) (b * tenI sa) with ⟨k, e⟩ | ⟨k, e⟩ | ⟨k, e⟩
            · rw [e, cmpI_gt (by omega)]; decide
            · rw [e, k, cmpI_self]; decide
            · rw [e, cmpI_lt (by omega)]; decide
          rw [e]
        · have q2 : 0 ≤ b * tenI sa := Int.mul_nonneg (by omega) (by omega)
          rw [decide_eq_true ka, decide_eq_true (show 0 ≤ b by omega), cmpI_lt (by omega)]
          rfl
      · have q1 : 0 ≤ a * tenI sb := Int.mul_nonneg (by omega) (by omega)
        by_cases kb : b < 0
        · have q2 : b * tenI sa < 0 := Int.mul_neg_of_neg_of_pos kb (by omega)
          rw [decide_eq_false ka, decide_eq_true (show 0 ≤ a by omega), decide_eq_true kb, cmpI_gt (by omega)]
          rfl
        · rw [decide_eq_false ka, decide_eq_false kb, ha, hb]
          simp only [Bool.and_false, Bool.false_and, cond_false, cond_true]
          rw [shiftO_eq (by have := dlen_abs ha; omega) h2.1 (by omega), shiftO_eq (by have := dlen_abs hb; omega) h1.1 (by omega), cmpO_eq (by have := dlen_shift_le (k := sb.toNat) (dlen_abs ha); omega) (by have := dlen_shift_le (k := sa.toNat) (dlen_abs hb); omega)]
          rw [Int.natCast_mul, Int.natCast_mul, ← tenI_pow h2.1 (by omega), ← tenI_pow h1.1 (by omega), show ((a.natAbs : Nat) : Int) = a by omega, show ((b.natAbs : Nat) : Int) = b by omega]
def p_RCompare : PFn := ⟨fun xs k => match xs with | [.int .i64 a, .int .i64 sa, .int .i64 b, .int .i64 sb] => bif inI a && inI b then k (.int .i64 (dcmp a sa b sb)) else none | _ => none, false⟩
theorem ok_RCompare : FOK NGd Wd 102 p_RCompare := by
  refine fok wokd ok_lRC (h := ⟨[], []⟩) Tryz.func102 rfl (by decide) ?_ ?_
  · intro R xs k
    simp only [p_RCompare]
    split
    · exact cond_nat
    · rfl
  · intro xs r h
    simp only [p_RCompare] at h
    split at h
    · rename_i a sa b sb
      rcases hb : (inI a && inI b) with _ | _ <;> rw [hb] at h
      · cases h
      · simp only [Bool.and_eq_true] at hb
        exact ⟨0, (rc_raw a sa b sb).trans ((rc_body hb.1 hb.2).trans h)⟩
    · cases h
theorem comp_body {a0 a1 b0 b1 : Int} (ha : inI a0 = true) (hb : inI b0 = true) :
    (bif inI a0 && inI b0 then bif inI a0 && inI b0 then bif dcmp a0 a1 b0 b1 == dcmp a0 a1 b0 b1 then bif inI b0 && inI a0 then some (PV.bool (dcmp a0 a1 b0 b1 == IntKind.i64.wrap (0 - dcmp b0 b1 a0 a1))) else none else some (.bool false) else none else none) = some (.bool true) := by
  have e : IntKind.i64.wrap (0 - dcmp b0 b1 a0 a1) = dcmp a0 a1 b0 b1 := by
    unfold dcmp
    rw [Bool.and_comm]
    cases scaleB a1 && scaleB b1
    · rfl
    · simp only [cond_true]
      rw [cmpI_swap (a0 * tenI b1) (b0 * tenI a1)]
      rcases cmpI_cases (a0 * tenI b1) (b0 * tenI a1) with ⟨k, e⟩ | ⟨k, e⟩ | ⟨k, e⟩ <;> rw [e] <;> decide
  rw [ha, hb, e]
  simp
end Go.Proofs.YtelckbphbkebkaaGreatDoor
set_option linter.unusedVariables false
set_option linter.unusedSimpArgs false
namespace Go.Proofs.YtelckbphbkebkaaGreatDoor
open Go.RowKit

theorem small0 {q : Nat} (h : q < 10) (k : q % 10 = 0) : q = 0 := by omega
/-! ## trim -/
def hTrim : Hints := ⟨[], [(0, ⟨[(0, false)], []⟩)]⟩
def frTrim (n0 : Option Bool) (l0 : Nat) (c0 : List PV) : St := frame 21 [(0, (.sl n0 1 l0 c0, 0))] []
noncomputable def trimLoop (fu n : Nat) (st : St) : Option PV := loopF (en []) hTrim fu false Tryz.f133 [1, 0, 0] 0 n st
theorem trim_raw (fu : Nat) (n0 : Option Bool) (l0 : Nat) (c0 : List PV) : prun (en []) hTrim fu false Tryz.f133 [.sl n0 1 l0 c0] = trimLoop fu fu (frTrim n0 l0 c0) := by kernel_rfl
def trimBody (n0 : Option Bool) (l0 : Nat) (c0 : List PV) (G : Nat → List PV → Option PV) : Option PV :=
  bif decide (0 < (l0 : Int)) then ixI l0 c0 (IntKind.i64.wrap ((l0 : Int) - 1)) fun v =>
    bif v == 0 then bif decide (0 ≤ IntKind.i64.wrap ((l0 : Int) - 1)) && decide (IntKind.i64.wrap ((l0 : Int) - 1) ≤ (l0 : Int)) then G ((IntKind.i64.wrap ((l0 : Int) - 1)).toNat - 0) ((c0.take ((IntKind.i64.wrap ((l0 : Int) - 1)).toNat * 1)).drop (0 * 1)) else none
    else some (.sl n0 1 l0 c0)
  else some (.sl n0 1 l0 c0)
theorem trim_step (fu : Nat) (n0 : Option Bool) (l0 : Nat) (c0 : List PV) (K : St → Option PV) :
    stepF (en []) hTrim fu false Tryz.f133 [1, 0, 0] (frTrim n0 l0 c0) (fun st => pnorm (hTrim.loop.lookup 0) st K) = trimBody n0 l0 c0 (fun l c => K (frTrim n0 l c)) := by kernel_rfl
theorem trim_loop (fu : Nat) (n0 : Option Bool) (N : Nat) : ∀ (k n : Nat), N < 10 ^ k → k < n → k ≤ 900 → trimLoop fu n (frTrim n0 k (cellsD (dg k N))) = some (.sl n0 1 (dlen N) (cellsN N))
  | k, 0, _, h, _ => by omega
  | 0, n + 1, h, _, _ => by
    have h0 : N = 0 := by simp at h; exact h
    subst h0
    unfold trimLoop
    rw [loopF_succ, trim_step, trimBody, cond_f (by decide)]
    rfl
  | k + 1, n + 1, h, hn, hb => by
    unfold trimLoop
    rw [loopF_succ, trim_step, trimBody, wrapI_of (by omega) (by omega), show ((k + 1 : Nat) : Int) - 1 = (k : Int) by omega, cond_t (decide_eq_true (by omega)), ixI_eq (d := N / 10 ^ k % 10) (by omega) (by omega) (dg_get _ _ _ (by omega))]
    have hlt : N / 10 ^ k < 10 := (Nat.div_lt_iff_lt_mul (Nat.pow_pos (by decide))).2 (by rw [Nat.pow_succ] at h; omega)
    by_cases hz : N / 10 ^ k % 10 = 0
    · have h0 : N / 10 ^ k = 0 := small0 hlt hz
      have hN : N < 10 ^ k := (dlen_le _ _).1 (div0.1 h0)
      rw [hz, cond_t (by decide), cond_t (by rw [decide_eq_true (by omega), decide_eq_true (by omega)]; rfl)]
      have ih := trim_loop fu n0 N k n hN (by omega) (by omega)
      unfold trimLoop at ih
      have e : ((cellsD (dg (k + 1) N)).take ((k : Int).toNat * 1)).drop (0 * 1) = cellsD (dg k N) := by
        simp only [Int.toNat_natCast, Nat.mul_one, List.drop_zero, cellsD]
        rw [← List.map_take, dg_take]
      rw [e]
      exact ih
    · rw [cond_f (by simp only [beq_eq_false_iff_ne]; omega)]
      have h1 : dlen N = k + 1 := by
        have a := (dlen_le (k + 1) N).2 h
        have b : ¬ dlen N ≤ k := fun q => hz (by rw [div0.2 q])
        omega
      unfold cellsN dgs
      rw [h1]
def p_trim : PFn := ⟨fun xs k => match xs with | [.sl n0 1 l0 c0] => (natC c0).bind fun N => bif l0 == c0.length && decide (l0 ≤ 600) then k (.sl n0 1 (dlen N) (cellsN N)) else none | _ => none, false⟩
theorem ok_trim : FOK NGd Wd 133 p_trim := by
  refine fok wokd allOK_nil (h := hTrim) Tryz.func133 rfl (by decide) ?_ ?_
  · intro R xs k
    simp only [p_trim]
    split
    · exact bind1_nat
    · rfl
  · intro xs r h
    simp only [p_trim] at h
    split at h
    · rename_i n0 l0 c0
      obtain ⟨N, h1, hg, rfl⟩ := bind1_inv h
      simp only [Bool.and_eq_true, beq_iff_eq, decide_eq_true_eq] at hg
      obtain ⟨e1, e2⟩ := natC_inv h1
      refine ⟨1000, (trim_raw 1000 n0 l0 c0).trans ?_⟩
      rw [← hg.1] at e1 e2
      have := trim_loop 1000 n0 N l0 1000 e2 (by omega) (by omega)
      rw [← e1] at this
      exact this
    · cases h
/-- what trim yields of cells -/
def cutO {R : Type} (l0 : Nat) (c0 : List PV) (k : Nat → Option R) : Option R := (natC c0).bind fun N => bif l0 == c0.length && decide (l0 ≤ 600) then k N else none
theorem cutO_eq {R : Type} {l N : Nat} {k : Nat → Option R} (h : N < 10 ^ l) (hl : l ≤ 600) : cutO l (cellsD (dg l N)) k = k N := by
  unfold cutO
  rw [natC_dg, Nat.mod_eq_of_lt h]
  exact cond_t (by simp [cellsD, dg_len, hl])

/-! ## Minus -/
def hMinus : Hints := ⟨[], [(0, ⟨[(0, false), (1, false), (5, true), (6, false), (7, false)], []⟩)]⟩
def frMinus (n0 : Option Bool) (l0 : Nat) (c0 : List PV) (n1 : Option Bool) (l1 : Nat) (c1 : List PV) (nl : Option Bool) (l : Nat) (c : List PV) (s i : Int) : St :=
  frame 41 [(0, (.sl n0 1 l0 c0, 0)), (1, (.sl n1 1 l1 c1, 0)), (5, (.sl nl 1 l c, 48)), (6, (.int .i64 s, 0)), (7, (.int .i64 i, 0))] []
noncomputable def lMinus : List (FuncId × PFn) := [(133, p_trim)]
noncomputable def minusLoop (fu n : Nat) (st : St) : Option PV := loopF (en lMinus) hMinus fu false Tryz.f153 [1, 1, 1, 0, 1, 0] 0 n st
theorem minus_raw (fu : Nat) (n0 : Option Bool) (l0 : Nat) (c0 : List PV) (n1 : Option Bool) (l1 : Nat) (c1 : List PV) : prun (en lMinus) hMinus fu false Tryz.f153 [.sl n0 1 l0 c0, .sl n1 1 l1 c1] =
    minusLoop fu fu (frMinus n0 l0 c0 n1 l1 c1 (some true) 0 [] 0 0) := by kernel_rfl
def minusE (nl : Option Bool) (l : Nat) (c : List PV) (i : Int) (G : Option Bool → Nat → List PV → Int → Int → Option PV) (d : Int) : Option PV :=
  bif decide (d < 0) then room l 1 (G (nl.map (· && false)) (l + 1) (c ++ [.int .i64 (IntKind.i64.wrap (d + 10))]) 1 (IntKind.i64.wrap (i + 1)))
  else room l 1 (G (nl.map (· && false)) (l + 1) (c ++ [.int .i64 d]) 0 (IntKind.i64.wrap (i + 1)))
def minusBody (l0 : Nat) (c0 : List PV) (l1 : Nat) (c1 : List PV) (nl : Option Bool) (l : Nat) (c : List PV) (s i : Int) (G : Option Bool → Nat → List PV → Int → Int → Option PV) : Option PV :=
  bif decide (i < (l0 : Int)) then ixI l0 c0 i fun a => bif decide (i < (l1 : Int)) then ixI l1 c1 i fun b => minusE nl l c i G (IntKind.i64.wrap (IntKind.i64.wrap (a - s) - b)) else minusE nl l c i G (IntKind.i64.wrap (a - s))
  else cutO l c fun N => some (.sl nl 1 (dlen N) (cellsN N))
theorem minus_step (fu : Nat) (n0 : Option Bool) (l0 : Nat) (c0 : List PV) (n1 : Option Bool) (l1 : Nat) (c1 : List PV) (nl : Option Bool) (l : Nat) (c : List PV) (s i : Int) (K : St → Option PV) :
    stepF (en lMinus) hMinus fu false Tryz.f153 [1, 1, 1, 0, 1, 0] (frMinus n0 l0 c0 n1 l1 c1 nl l c s i) (fun st => pnorm (hMinus.loop.lookup 0) st K) =
    minusBody l0 c0 l1 c1 nl l c s i (fun a b d e f => K (frMinus n0 l0 c0 n1 l1 c1 a b d e f)) := by kernel_rfl
theorem minus_w {B i : Nat} {a s : Int} (ha : 0 ≤ a) (ha2 : a ≤ 1000) (hs : 0 ≤ s) (hs2 : s ≤ 1000) (E : Int → Option PV) :
    (bif decide ((i : Int) < (dlen B : Int)) then ixI (dlen B) (cellsN B) (i : Int) fun b => E (IntKind.i64.wrap (IntKind.i64.wrap (a - s) - b)) else E (IntKind.i64.wrap (a - s))) = E (a - s - ((B / 10 ^ i % 10 : Nat) : Int)) := by
  by_cases kb : (i : Int) < (dlen B : Int)
  · rw [cond_t (decide_eq_true kb), ixI_dgs (by omega) kb, Int.toNat_natCast, wrapI_of (x := a - s) (by omega) (by omega), wrapI_of (by omega) (by omega)]
  · rw [cond_f (decide_eq_false kb), show B / 10 ^ i = 0 from div0.2 (by omega), wrapI_of (by omega) (by omega)]
    simp
theorem minus_loop (fu : Nat) {A B D : Nat} (hD : A = B + D) (n0 n1 : Option Bool) (hA : dlen A ≤ 500) : ∀ (m i n : Nat), i + m = dlen A → m < n →
    minusLoop fu n (frMinus n0 (dlen A) (cellsN A) n1 (dlen B) (cellsN B) (some (i == 0)) i (cellsD (dg i D)) ((A / 10 ^ i - B / 10 ^ i - D / 10 ^ i : Nat) : Int) (i : Int)) = some (.sl (some (dlen A == 0)) 1 (dlen D) (cellsN D))
  | m, i, 0, _, h => by omega
  | m, i, n + 1, hi, hn => by
    have hc := carry (A := B) (B := D) i
    rw [← hD] at hc
    unfold minusLoop
    rw [loopF_succ, minus_step, minusBody]
    by_cases hm : m = 0
    · subst hm
      have e : i = dlen A := by omega
      subst e
      rw [cond_f (decide_eq_false (by omega)), cutO_eq (Nat.lt_of_le_of_lt (by omega) (lt_pow_dlen A)) (by omega)]
    · have hs : A / 10 ^ i - B / 10 ^ i - D / 10 ^ i ≤ 1 := by omega
      rw [cond_t (decide_eq_true (by omega)), ixI_dgs (by omega) (by omega), Int.toNat_natCast, minus_w (by omega) (by omega) (by omega) (by omega)]
      have ih := minus_loop fu hD n0 n1 hA (m - 1) (i + 1) n (by omega) (by omega)
      unfold minusLoop at ih
      have d1 := div_div10 A i
      have d2 := div_div10 B i
      have d3 := div_div10 D i
      have e1 : ∀ y : Int, y = ((D / 10 ^ i % 10 : Nat) : Int) → cellsD (dg i D) ++ [PV.int .i64 y] = cellsD (dg (i + 1) D) := by
        intro y hy
        rw [hy, dg_snoc]; simp [cellsD, cellD]
      generalize A / 10 ^ (i + 1) = x' at *
      generalize B / 10 ^ (i + 1) = y' at *
      generalize D / 10 ^ (i + 1) = z' at *
      generalize D / 10 ^ i = z at *
      generalize A / 10 ^ i = x at *
      generalize B / 10 ^ i = y at *
      unfold minusE
      rw [room_eq (by omega), room_eq (by omega), ← ih, wrapI_of (x := (i : Int) + 1) (by omega) (by omega)]
      have en1 : (some (i == 0)).map (fun b : Bool => b && false) = some (i + 1 == 0) := by simp
      rw [en1]
      by_cases hd : ((x % 10 : Nat) : Int) - ((x - y - z : Nat) : Int) - ((y % 10 : Nat) : Int) < 0
      · rw [cond_t (decide_eq_true hd), wrapI_of (by omega) (by omega), e1 _ (by omega), show ((x' - y' - z' : Nat) : Int) = 1 by omega]
        rfl
      · rw [cond_f (decide_eq_false hd), e1 _ (by omega), show ((x' - y' - z' : Nat) : Int) = 0 by omega]
        rfl
/-- a number without noughts at the end, its slice said to be nil or not -/
def bigN (nl : Option Bool) (n : Nat) : PV := .sl nl 1 (dlen n) (cellsN n)
def p_Minus : PFn := ⟨fun xs k => match xs with | [.sl _ 1 l0 c0, .sl _ 1 l1 c1] => (decN l0 c0).bind fun A => (decN l1 c1).bind fun B => bif decide (dlen A ≤ 500) && decide (B ≤ A) then k (.sl (some (dlen A == 0)) 1 (dlen (A - B)) (cellsN (A - B))) else none | _ => none, false⟩
theorem ok_Minus : FOK NGd Wd 153 p_Minus := by
  refine fok wokd (allOK_cons ok_trim allOK_nil) (h := hMinus) Tryz.func153 rfl (by decide) ?_ ?_
  · intro R xs k
    simp only [p_Minus]
    split
    · exact bind2_nat
    · rfl
  · intro xs r h
    simp only [p_Minus] at h
    split at h
    · rename_i n0 l0 c0 n1 l1 c1
      obtain ⟨A, B, h1, h2, hg, rfl⟩ := bind2_inv h
      obtain ⟨rfl, rfl⟩ := decN_inv h1
      obtain ⟨rfl, rfl⟩ := decN_inv h2
      simp only [Bool.and_eq_true, decide_eq_true_eq] at hg
      refine ⟨1000, (minus_raw 1000 n0 _ _ n1 _ _).trans ?_⟩
      have := minus_loop 1000 (A := A) (B := B) (D := A - B) (by omega) n0 n1 hg.1 (dlen A) 0 1000 (by omega) (by omega)
      simp only [Nat.pow_zero, Nat.div_one] at this
      rw [show A - B - (A - B) = 0 by omega] at this
      exact this
    · cases h
/-- what Minus yields of cells -/
def minusO {R : Type} (l0 : Nat) (c0 : List PV) (l1 : Nat) (c1 : List PV) (k : Nat → Nat → Option R) : Option R := (decN l0 c0).bind fun A => (decN l1 c1).bind fun B => bif decide (dlen A ≤ 500) && decide (B ≤ A) then k A (A - B) else none
theorem minusO_eq {R : Type} {A B : Nat} {k : Nat → Nat → Option R} (hA : dlen A ≤ 500) (h : B ≤ A) : minusO (dlen A) (cellsN A) (dlen B) (cellsN B) k = k A (A - B) := by
  unfold minusO
  rw [decN_big, decN_big]
  exact cond_t (by rw [decide_eq_true hA, decide_eq_true h]; rfl)
end Go.Proofs.YtelckbphbkebkaaGreatDoor
set_option linter.unusedVariables false
set_option linter.unusedSimpArgs false
namespace Go.Proofs.YtelckbphbkebkaaGreatDoor
open Go.RowKit

/-! ## loops in loops -/
def stepI (e : Env) (h : Hints) (fuel : Nat) (own : Bool) (fn : Func) (path : List Nat) (KL : St → Option PV) (st : St) (k : St → Option PV) : Option PV :=
  stepAt e h fuel (pfin e own fn) path (fn.body.getD .skip) 0 (pfin e own fn) [] KL st k
def loopI (e : Env) (h : Hints) (fuel : Nat) (own : Bool) (fn : Func) (path : List Nat) (cur : Nat) (KL : St → Option PV) (n : Nat) (st : St) : Option PV :=
  ploop (h.loop.lookup cur) (stepI e h fuel own fn path KL) n st
theorem loopI_succ {e : Env} {h : Hints} {fuel : Nat} {own : Bool} {fn : Func} {path : List Nat} {cur n : Nat} {KL : St → Option PV} {st : St} :
    loopI e h fuel own fn path cur KL (n + 1) st = stepI e h fuel own fn path KL st (fun st' => pnorm (h.loop.lookup cur) st' (loopI e h fuel own fn path cur KL n)) := rfl

/-! ## Times -/
def hTimes : Hints := ⟨[], [(2, ⟨[(1, false), (5, false), (6, false), (7, false), (8, false), (9, false), (10, false), (11, false)], []⟩), (0, ⟨[(1, false), (5, false), (9, false), (10, false), (11, false)], []⟩)]⟩
noncomputable def lTimes : List (FuncId × PFn) := [(135, p_Shift), (100, p_Plus)]
theorem ok_lTimes : AllOK NGd Wd lTimes := allOK_cons ok_Shift (allOK_cons ok_Plus allOK_nil)
def fr1 (n1 : Option Bool) (l1 : Nat) (c1 : List PV) (n5 : Option Bool) (l5 : Nat) (c5 : List PV) (n9 : Option Bool) (l9 : Nat) (c9 : List PV) (L i : Int) : St :=
  frame 28 [(1, (.sl n1 1 l1 c1, 0)), (5, (.sl n5 1 l5 c5, 0)), (9, (.sl n9 1 l9 c9, 0)), (10, (.int .i64 L, 0)), (11, (.int .i64 i, 0))] []
def fr2 (n1 : Option Bool) (l1 : Nat) (c1 : List PV) (n5 : Option Bool) (l5 : Nat) (c5 : List PV) (j d k : Int) (n9 : Option Bool) (l9 : Nat) (c9 : List PV) (L i : Int) : St :=
  frame 28 [(1, (.sl n1 1 l1 c1, 0)), (5, (.sl n5 1 l5 c5, 0)), (6, (.int .i64 j, 0)), (7, (.int .i64 d, 0)), (8, (.int .i64 k, 0)), (9, (.sl n9 1 l9 c9, 0)), (10, (.int .i64 L, 0)), (11, (.int .i64 i, 0))] []
noncomputable def timesLoop (fu n : Nat) (st : St) : Option PV := loopF (en lTimes) hTimes fu false Tryz.f136 [1, 1, 0, 1, 0] 0 n st
noncomputable def timesIn (fu : Nat) (KL : St → Option PV) (n : Nat) (st : St) : Option PV := loopI (en lTimes) hTimes fu false Tryz.f136 [1, 1, 0, 1, 0, 0, 1, 1, 0, 0, 1, 1, 0] 2 KL n st
theorem rtimes_raw (fu : Nat) (n0 : Option Bool) (l0 : Nat) (c0 : List PV) (n1 : Option Bool) (l1 : Nat) (c1 : List PV) : prun (en lTimes) hTimes fu false Tryz.f136 [.sl n0 1 l0 c0, .sl n1 1 l1 c1] =
    timesLoop fu fu (fr1 n1 l1 c1 (some true) 0 [] n0 l0 c0 (l0 : Int) 0) := by kernel_rfl
theorem times_step (fu : Nat) (n1 : Option Bool) (l1 : Nat) (c1 : List PV) (n5 : Option Bool) (l5 : Nat) (c5 : List PV) (n9 : Option Bool) (l9 : Nat) (c9 : List PV) (L i : Int) (K : St → Option PV) :
    stepF (en lTimes) hTimes fu false Tryz.f136 [1, 1, 0, 1, 0] (fr1 n1 l1 c1 n5 l5 c5 n9 l9 c9 L i) (fun st => pnorm (hTimes.loop.lookup 0) st K) =
    bif decide (i < L) then ixI l9 c9 i fun d => timesIn fu (fun st => pnorm (hTimes.loop.lookup 0) st K) fu (fr2 n1 l1 c1 n5 l5 c5 i d 0 n9 l9 c9 L i)
    else some (.sl n5 1 l5 c5) := by kernel_rfl
theorem times_in (fu : Nat) (n1 : Option Bool) (l1 : Nat) (c1 : List PV) (n5 : Option Bool) (l5 : Nat) (c5 : List PV) (j d k : Int) (n9 : Option Bool) (l9 : Nat) (c9 : List PV) (L i : Int) (K KO : St → Option PV) :
    stepI (en lTimes) hTimes fu false Tryz.f136 [1, 1, 0, 1, 0, 0, 1, 1, 0, 0, 1, 1, 0] (fun st => pnorm (hTimes.loop.lookup 0) st KO) (fr2 n1 l1 c1 n5 l5 c5 j d k n9 l9 c9 L i) (fun st => pnorm (hTimes.loop.lookup 2) st K) =
    bif decide (k < d) then shiftO l1 c1 j fun S => plusO l5 c5 (dlen S) (cellsN S) fun Z => K (fr2 n1 l1 c1 (some (Z == 0)) (dlen Z) (cellsN Z) j d (IntKind.i64.wrap (k + 1)) n9 l9 c9 L i)
    else KO (fr1 n1 l1 c1 n5 l5 c5 n9 l9 c9 L (IntKind.i64.wrap (i + 1))) := by kernel_rfl
theorem times_inner (fu : Nat) (n1 n9 : Option Bool) (l9 : Nat) (c9 : List PV) (L : Int) {B i d : Nat} (hB : dlen B ≤ 100) (hi : i ≤ 100) (hd : d ≤ 9) (KO : St → Option PV) : ∀ (m k n O : Nat), k + m = d → m < n → dlen (O + m * (B * 10 ^ i)) ≤ 400 → 
    timesIn fu (fun st => pnorm (hTimes.loop.lookup 0) st KO) n (fr2 n1 (dlen B) (cellsN B) (some (O == 0)) (dlen O) (cellsN O) (i : Int) (d : Int) (k : Int) n9 l9 c9 L (i : Int)) =
    KO (fr1 n1 (dlen B) (cellsN B) (some (O + m * (B * 10 ^ i) == 0)) (dlen (O + m * (B * 10 ^ i))) (cellsN (O + m * (B * 10 ^ i))) n9 l9 c9 L ((i : Int) + 1))
  | m, k, 0, O, _, h, _ => by omega
  | 0, k, n + 1, O, hk, hn, hO => by
    unfold timesIn
    rw [loopI_succ, times_in, cond_f (decide_eq_false (by omega)), wrapI_of (by omega) (by omega), Nat.zero_mul, Nat.add_zero]
  | m + 1, k, n + 1, O, hk, hn, hO => by
    unfold timesIn
    have hS := dlen_shift_le (k := i) hB
    have hO1 := dlen_mono (show O ≤ O + (m + 1) * (B * 10 ^ i) by omega)
    rw [loopI_succ, times_in, cond_t (decide_eq_true (by omega)), shiftO_eq (by omega) (by omega) (by omega), Int.toNat_natCast, plusO_eq (by omega) (by omega), wrapI_of (by omega) (by omega)]
    have e : O + B * 10 ^ i + m * (B * 10 ^ i) = O + (m + 1) * (B * 10 ^ i) := by rw [Nat.add_mul, Nat.one_mul]; omega
    have ih := times_inner fu n1 n9 l9 c9 L hB hi hd KO m (k + 1) n (O + B * 10 ^ i) (by omega) (by omega) (by rw [e]; exact hO)
    unfold timesIn at ih
    rw [e] at ih
    exact ih
theorem dlen_mul {A B a b : Nat} (h1 : dlen A ≤ a) (h2 : dlen B ≤ b) : dlen (A * B) ≤ a + b := by
  refine (dlen_le _ _).2 ?_
  have h1 := (dlen_le _ _).1 h1
  have h2 := (dlen_le _ _).1 h2
  rw [Nat.pow_add]
  exact Nat.mul_lt_mul'' h1 h2
theorem mod_step (A i : Nat) : A % 10 ^ (i + 1) = A % 10 ^ i + A / 10 ^ i % 10 * 10 ^ i := by
  rw [Nat.pow_succ, Nat.mod_mul, Nat.mul_comm (10 ^ i)]
theorem times_loop (fu : Nat) (hfu : 20 ≤ fu) {A B : Nat} (n0 n1 : Option Bool) (hA : dlen A ≤ 100) (hB : dlen B ≤ 100) : ∀ (m i n : Nat), i + m = dlen A → m < n →
    timesLoop fu n (fr1 n1 (dlen B) (cellsN B) (some (A % 10 ^ i * B == 0)) (dlen (A % 10 ^ i * B)) (cellsN (A % 10 ^ i * B)) n0 (dlen A) (cellsN A) (dlen A : Int) (i : Int)) = some (big (A * B))
  | m, i, 0, _, h => by omega
  | 0, i, n + 1, hi, hn => by
    unfold timesLoop
    have e : A % 10 ^ i = A := Nat.mod_eq_of_lt (by rw [show i = dlen A by omega]; exact lt_pow_dlen A)
    rw [loopF_succ, times_step, cond_f (decide_eq_false (by omega)), e]
    rfl
  | m + 1, i, n + 1, hi, hn => by
    unfold timesLoop
    rw [loopF_succ, times_step, cond_t (decide_eq_true (by omega)), ixI_dgs (by omega) (by omega), Int.toNat_natCast]
    have e : A % 10 ^ i * B + A / 10 ^ i % 10 * (B * 10 ^ i) = A % 10 ^ (i + 1) * B := by
      rw [mod_step, Nat.add_mul, Nat.mul_comm B, Nat.mul_assoc]
    have hm : dlen (A % 10 ^ (i + 1) * B) ≤ 200 := dlen_mul (a := 100) (b := 100) (by have := dlen_mono (Nat.mod_le A (10 ^ (i + 1))); omega) hB
    have hin := times_inner fu n1 n0 (dlen A) (cellsN A) (dlen A : Int) (i := i) (d := A / 10 ^ i % 10) hB (by omega) (Nat.le_of_lt_succ (Nat.mod_lt _ (by decide))) (loopF (en lTimes) hTimes fu false Tryz.f136 [1, 1, 0, 1, 0] 0 n)
      (A / 10 ^ i % 10) 0 fu (A % 10 ^ i * B) (by omega) (Nat.lt_of_lt_of_le (Nat.mod_lt _ (by decide)) (by omega)) (by rw [e]; omega)
    rw [e] at hin
    have ih := times_loop fu hfu n0 n1 hA hB m (i + 1) n (by omega) (by omega)
    unfold timesLoop at ih
    exact hin.trans ih
def p_RTimes : PFn := ⟨fun xs k => match xs with | [.sl _ 1 l0 c0, .sl _ 1 l1 c1] => (decN l0 c0).bind fun A => (decN l1 c1).bind fun B => bif decide (dlen A ≤ 100) && decide (dlen B ≤ 100) then k (big (A * B)) else none | _ => none, false⟩
theorem ok_RTimes : FOK NGd Wd 136 p_RTimes := by
  refine fok wokd ok_lTimes (h := hTimes) Tryz.func136 rfl (by decide) ?_ ?_
  · intro R xs k
    simp only [p_RTimes]
    split
    · exact bind2_nat
    · rfl
  · intro xs r h
    simp only [p_RTimes] at h
    split at h
    · rename_i n0 l0 c0 n1 l1 c1
      obtain ⟨A, B, h1, h2, hg, rfl⟩ := bind2_inv h
      obtain ⟨rfl, rfl⟩ := decN_inv h1
      obtain ⟨rfl, rfl⟩ := decN_inv h2
      simp only [Bool.and_eq_true, decide_eq_true_eq] at hg
      refine ⟨1000, (rtimes_raw 1000 n0 _ _ n1 _ _).trans ?_⟩
      have := times_loop 1000 (by decide) (A := A) (B := B) n0 n1 hg.1 hg.2 (dlen A) 0 1000 (by omega) (by omega)
      rw [Nat.pow_zero, Nat.mod_one, Nat.zero_mul] at this
      exact this
    · cases h
end Go.Proofs.YtelckbphbkebkaaGreatDoor
set_option linter.unusedVariables false
set_option linter.unusedSimpArgs false
namespace Go.Proofs.YtelckbphbkebkaaGreatDoor
open Go.RowKit

/-! ## Round -/
def hRound : Hints := ⟨[], [(2, ⟨[(0, false), (1, false), (5, false), (6, false), (7, false), (8, false)], []⟩), (0, ⟨[(0, false), (1, false), (5, false), (6, false), (7, false)], []⟩)]⟩
noncomputable def lRound : List (FuncId × PFn) := [(133, p_trim), (134, p_Cmp), (153, p_Minus), (100, p_Plus)]
theorem ok_lRound : AllOK NGd Wd lRound := allOK_cons ok_trim (allOK_cons ok_Cmp (allOK_cons ok_Minus (allOK_cons ok_Plus allOK_nil)))
def fq1 (n0 : Option Bool) (l0 : Nat) (c0 : List PV) (n1 : Option Bool) (l1 : Nat) (c1 : List PV) (n5 : Option Bool) (l5 : Nat) (c5 : List PV) (n6 : Option Bool) (l6 : Nat) (c6 : List PV) (i : Int) : St :=
  frame 49 [(0, (.sl n0 1 l0 c0, 0)), (1, (.sl n1 1 l1 c1, 0)), (5, (.sl n5 1 l5 c5, 0)), (6, (.sl n6 1 l6 c6, 0)), (7, (.int .i64 i, 0))] []
def fq2 (n0 : Option Bool) (l0 : Nat) (c0 : List PV) (n1 : Option Bool) (l1 : Nat) (c1 : List PV) (n5 : Option Bool) (l5 : Nat) (c5 : List PV) (n6 : Option Bool) (l6 : Nat) (c6 : List PV) (i d : Int) : St :=
  frame 49 [(0, (.sl n0 1 l0 c0, 0)), (1, (.sl n1 1 l1 c1, 0)), (5, (.sl n5 1 l5 c5, 0)), (6, (.sl n6 1 l6 c6, 0)), (7, (.int .i64 i, 0)), (8, (.int .i64 d, 0))] []
noncomputable def roundLoop (fu n : Nat) (st : St) : Option PV := loopF (en lRound) hRound fu false Tryz.f137 [1, 1, 0, 1, 0] 0 n st
noncomputable def roundIn (fu : Nat) (KL : St → Option PV) (n : Nat) (st : St) : Option PV := loopI (en lRound) hRound fu false Tryz.f137 [1, 1, 0, 1, 0, 0, 1, 0, 0, 1, 1, 0, 0] 2 KL n st
theorem rround_raw (fu : Nat) (n0 : Option Bool) (l0 : Nat) (c0 : List PV) (n1 : Option Bool) (l1 : Nat) (c1 : List PV) : prun (en lRound) hRound fu false Tryz.f137 [.sl n0 1 l0 c0, .sl n1 1 l1 c1] =
    roundLoop fu fu (fq1 n0 l0 c0 n1 l1 c1 (some true) 0 [] (some true) 0 [] (IntKind.i64.wrap ((l0 : Int) - 1))) := by kernel_rfl
theorem round_step (fu : Nat) (n0 : Option Bool) (l0 : Nat) (c0 : List PV) (n1 : Option Bool) (l1 : Nat) (c1 : List PV) (n5 : Option Bool) (l5 : Nat) (c5 : List PV) (n6 : Option Bool) (l6 : Nat) (c6 : List PV) (i : Int) (K : St → Option PV) :
    stepF (en lRound) hRound fu false Tryz.f137 [1, 1, 0, 1, 0] (fq1 n0 l0 c0 n1 l1 c1 n5 l5 c5 n6 l6 c6 i) (fun st => pnorm (hRound.loop.lookup 0) st K) =
    bif decide (0 ≤ i) then ixI l0 c0 i fun v => room 1 l6 (cutO (1 + l6) (PV.int .i64 v :: c6) fun R => roundIn fu (fun st => pnorm (hRound.loop.lookup 0) st K) fu (fq2 n0 l0 c0 n1 l1 c1 n5 l5 c5 ((some false).map (· && (l6 == 0))) (dlen R) (cellsN R) i 0))
    else cutO l5 c5 fun Q => plusO l6 c6 l6 c6 fun T => cmpO (dlen T) (cellsN T) l1 c1 fun z => bif decide (0 ≤ z) then plusO (dlen Q) (cellsN Q) 1 [.int .i64 1] fun W => some (.sl (some (W == 0)) 1 (dlen W) (cellsN W)) else some (.sl n5 1 (dlen Q) (cellsN Q)) := by kernel_rfl
theorem round_in (fu : Nat) (n0 : Option Bool) (l0 : Nat) (c0 : List PV) (n1 : Option Bool) (l1 : Nat) (c1 : List PV) (n5 : Option Bool) (l5 : Nat) (c5 : List PV) (n6 : Option Bool) (l6 : Nat) (c6 : List PV) (i d : Int) (K KO : St → Option PV) :
    stepI (en lRound) hRound fu false Tryz.f137 [1, 1, 0, 1, 0, 0, 1, 0, 0, 1, 1, 0, 0] (fun st => pnorm (hRound.loop.lookup 0) st KO) (fq2 n0 l0 c0 n1 l1 c1 n5 l5 c5 n6 l6 c6 i d) (fun st => pnorm (hRound.loop.lookup 2) st K) =
    cmpO l6 c6 l1 c1 fun z => bif decide (0 ≤ z) then minusO l6 c6 l1 c1 fun A N => K (fq2 n0 l0 c0 n1 l1 c1 n5 l5 c5 (some (dlen A == 0)) (dlen N) (cellsN N) i (IntKind.i64.wrap (d + 1)))
      else room 1 l5 (KO (fq1 n0 l0 c0 n1 l1 c1 ((some false).map (· && (l5 == 0))) (1 + l5) (PV.int .i64 d :: c5) n6 l6 c6 (IntKind.i64.wrap (i - 1)))) := by kernel_rfl
theorem cmp_ge {a b : Int} : (0 ≤ cmpI a b) ↔ b ≤ a := by
  rcases cmpI_cases a b with ⟨k, e⟩ | ⟨k, e⟩ | ⟨k, e⟩ <;> rw [e] <;> omega
theorem div_sub {R B : Nat} (hB : 0 < B) (h : B ≤ R) : R / B = (R - B) / B + 1 ∧ R % B = (R - B) % B :=
  ⟨Nat.div_eq_sub_div hB h, Nat.mod_eq_sub_mod h⟩
theorem round_inner (fu : Nat) (n0 : Option Bool) (l0 : Nat) (c0 : List PV) (n1 n5 : Option Bool) (l5 : Nat) (c5 : List PV) (i : Int) (hi : 0 ≤ i) (hi2 : i ≤ 1000) (hl5 : l5 ≤ 500) {B : Nat} (hB0 : 0 < B) (hB : dlen B ≤ 400) (KO : St → Option PV) (r : Option PV) : ∀ (m d n R : Nat) (n6 : Option Bool), R / B = m → m < n → d + m ≤ 1000 → dlen R ≤ 450 →
    (∀ n6', KO (fq1 n0 l0 c0 n1 (dlen B) (cellsN B) (some false) (1 + l5) (PV.int .i64 ((d + m : Nat) : Int) :: c5) n6' (dlen (R % B)) (cellsN (R % B)) (i - 1)) = r) →
    roundIn fu (fun st => pnorm (hRound.loop.lookup 0) st KO) n (fq2 n0 l0 c0 n1 (dlen B) (cellsN B) n5 l5 c5 n6 (dlen R) (cellsN R) i (d : Int)) = r
  | m, d, 0, R, n6, _, h, _, _, _ => by omega
  | 0, d, n + 1, R, n6, hm, hn, hd, hR, hK => by
    unfold roundIn
    have hlt : R < B := by
      rcases Nat.lt_or_ge R B with h | h
      · exact h
      · have := Nat.div_pos h hB0; omega
    rw [loopI_succ, round_in, cmpO_eq (by omega) (by omega), cond_f (decide_eq_false (by rw [cmp_ge]; omega)), room_eq (by omega), wrapI_of (by omega) (by omega)]
    have := hK n6
    rw [Nat.mod_eq_of_lt hlt, Nat.add_zero] at this
    exact this
  | m + 1, d, n + 1, R, n6, hm, hn, hd, hR, hK => by
    unfold roundIn
    have hge : B ≤ R := by
      rcases Nat.lt_or_ge R B with h | h
      · rw [Nat.div_eq_of_lt h] at hm; omega
      · exact h
    obtain ⟨e1, e2⟩ := div_sub hB0 hge
    rw [loopI_succ, round_in, cmpO_eq (by omega) (by omega), cond_t (decide_eq_true (by rw [cmp_ge]; omega)), minusO_eq (by omega) hge, wrapI_of (by omega) (by omega)]
    have ih := round_inner fu n0 l0 c0 n1 n5 l5 c5 i hi hi2 hl5 hB0 hB KO r m (d + 1) n (R - B) (some (dlen R == 0)) (by omega) (by omega) (by omega) (by have := dlen_mono (show R - B ≤ R by omega); omega)
      (by intro n6'; rw [← e2, show d + 1 + m = d + (m + 1) by omega]; exact hK n6')
    unfold roundIn at ih
    exact ih
def roundN (A B : Nat) : Nat := A / B + bif decide (B ≤ 2 * (A % B)) then 1 else 0
def roundF (A B : Nat) : Bool := bif decide (B ≤ 2 * (A % B)) then false else dlen A == 0
theorem next_digit {A B i : Nat} (hB : 0 < B) : A / 10 ^ i / B = 10 * (A / 10 ^ (i + 1) / B) + (A / 10 ^ i % 10 + 10 * (A / 10 ^ (i + 1) % B)) / B ∧ A / 10 ^ i % B = (A / 10 ^ i % 10 + 10 * (A / 10 ^ (i + 1) % B)) % B ∧ (A / 10 ^ i % 10 + 10 * (A / 10 ^ (i + 1) % B)) / B < 10 := by
  rw [div_div10]
  generalize A / 10 ^ i = x
  have h1 := Nat.div_add_mod (x / 10) B
  have h2 := Nat.mod_lt (x / 10) hB
  generalize x / 10 / B = q at *
  generalize x / 10 % B = r at *
  have e : x = (x % 10 + 10 * r) + B * (10 * q) := by
    have : x = 10 * (x / 10) + x % 10 := by omega
    rw [← h1] at this
    rw [Nat.mul_left_comm]
    omega
  refine ⟨?_, ?_, (Nat.div_lt_iff_lt_mul hB).2 (by omega)⟩
  · conv => lhs; rw [e]
    rw [Nat.add_mul_div_left _ _ hB]; omega
  · conv => lhs; rw [e]
    rw [Nat.add_mul_mod_self_left]
theorem dlen_one : dlen 1 = 1 := rfl
theorem cells_one : cellsN 1 = [PV.int .i64 1] := rfl
theorem cons_lt {d r : Nat} (h : d < 10) : d + 10 * r < 10 ^ (1 + dlen r) := by
  have := lt_pow_dlen r
  rw [Nat.add_comm 1, Nat.pow_succ]
  omega
theorem round_loop (fu : Nat) (hfu : 20 ≤ fu) {A B : Nat} (n0 n1 : Option Bool) (hA : dlen A ≤ 300) (hB0 : 0 < B) (hB : dlen B ≤ 300) : ∀ (i n : Nat) (n6 : Option Bool), i ≤ dlen A → i < n →
    roundLoop fu n (fq1 n0 (dlen A) (cellsN A) n1 (dlen B) (cellsN B) (some (dlen A - i == 0)) (dlen A - i) (cellsD (dg (dlen A - i) (A / 10 ^ i / B))) n6 (dlen (A / 10 ^ i % B)) (cellsN (A / 10 ^ i % B)) ((i : Int) - 1)) =
    some (.sl (some (roundF A B)) 1 (dlen (roundN A B)) (cellsN (roundN A B)))
  | i, 0, _, _, h => by omega
  | 0, n + 1, n6, hi, hn => by
    unfold roundLoop
    have hq : A / B < 10 ^ dlen A := Nat.lt_of_le_of_lt (Nat.div_le_self _ _) (lt_pow_dlen A)
    have hr : dlen (A % B) ≤ 300 := by have := dlen_mono (Nat.le_of_lt (Nat.mod_lt A hB0)); omega
    have hr2 := dlen_add hr hr
    have hqd := dlen_mono (Nat.div_le_self A B)
    have e1 := dlen_one
    have e2 := cells_one
    rw [loopF_succ, round_step, cond_f (by decide), Nat.pow_zero, Nat.div_one, Nat.sub_zero, cutO_eq hq (by omega), plusO_eq (by omega) (by omega), cmpO_eq (by omega) (by omega)]
    unfold roundF roundN
    by_cases h : B ≤ 2 * (A % B)
    · rw [cond_t (decide_eq_true (by rw [cmp_ge]; omega)), ← e1, ← e2, plusO_eq (by omega) (by decide), decide_eq_true h]
      rfl
    · rw [cond_f (decide_eq_false (by rw [cmp_ge]; omega)), decide_eq_false h]
      rfl
  | i + 1, n + 1, n6, hi, hn => by
    unfold roundLoop
    obtain ⟨f1, f2, f3⟩ := next_digit (A := A) (B := B) (i := i) hB0
    have hr : dlen (A / 10 ^ (i + 1) % B) ≤ 300 := by have := dlen_mono (Nat.le_of_lt (Nat.mod_lt (A / 10 ^ (i + 1)) hB0)); omega
    have hd : A / 10 ^ i % 10 < 10 := Nat.mod_lt _ (by decide)
    rw [loopF_succ, round_step, show ((i + 1 : Nat) : Int) - 1 = (i : Int) by omega, cond_t (decide_eq_true (by omega)), ixI_dgs (by omega) (by omega), Int.toNat_natCast, room_eq (by omega)]
    have ec : PV.int .i64 ((A / 10 ^ i % 10 : Nat) : Int) :: cellsN (A / 10 ^ (i + 1) % B) = cellsD (dg (1 + dlen (A / 10 ^ (i + 1) % B)) (A / 10 ^ i % 10 + 10 * (A / 10 ^ (i + 1) % B))) := by
      rw [Nat.add_comm 1, ← dg_cons _ _ _ hd]; rfl
    have hlt := cons_lt (r := A / 10 ^ (i + 1) % B) hd
    have hdl := (dlen_le _ _).2 hlt
    rw [ec, cutO_eq hlt (by omega)]
    refine round_inner fu n0 (dlen A) (cellsN A) n1 _ (dlen A - (i + 1)) (cellsD (dg (dlen A - (i + 1)) (A / 10 ^ (i + 1) / B))) (i : Int) (by omega) (by omega) (by omega) hB0 (by omega) _ _ _ 0 fu _ _ rfl (by omega) (by omega) (by omega) ?_
    intro n6'
    have ih := round_loop fu hfu n0 n1 hA hB0 hB i n n6' (by omega) (by omega)
    unfold roundLoop at ih
    rw [f1, f2] at ih
    rw [← ih, Nat.zero_add, show dlen A - i = (dlen A - (i + 1)) + 1 by omega, show 10 * (A / 10 ^ (i + 1) / B) + (A / 10 ^ i % 10 + 10 * (A / 10 ^ (i + 1) % B)) / B = (A / 10 ^ i % 10 + 10 * (A / 10 ^ (i + 1) % B)) / B + 10 * (A / 10 ^ (i + 1) / B) by omega, ← dg_cons _ _ _ f3, show 1 + (dlen A - (i + 1)) = dlen A - (i + 1) + 1 by omega]
    rfl
def p_RRound : PFn := ⟨fun xs k => match xs with | [.sl _ 1 l0 c0, .sl _ 1 l1 c1] => (decN l0 c0).bind fun A => (decN l1 c1).bind fun B => bif decide (dlen A ≤ 300) && (decide (dlen B ≤ 300) && decide (0 < B)) then k (.sl (some (roundF A B)) 1 (dlen (roundN A B)) (cellsN (roundN A B))) else none | _ => none, false⟩
theorem ok_RRound : FOK NGd Wd 137 p_RRound := by
  refine fok wokd ok_lRound (h := hRound) Tryz.func137 rfl (by decide) ?_ ?_
  · intro R xs k
    simp only [p_RRound]
    split
    · exact bind2_nat
    · rfl
  · intro xs r h
    simp only [p_RRound] at h
    split at h
    · rename_i n0 l0 c0 n1 l1 c1
      obtain ⟨A, B, h1, h2, hg, rfl⟩ := bind2_inv h
      obtain ⟨rfl, rfl⟩ := decN_inv h1
      obtain ⟨rfl, rfl⟩ := decN_inv h2
      simp only [Bool.and_eq_true, decide_eq_true_eq] at hg
      refine ⟨1000, (rround_raw 1000 n0 _ _ n1 _ _).trans ?_⟩
      have := round_loop 1000 (by decide) (A := A) (B := B) n0 n1 hg.1 hg.2.2 hg.2.1 (dlen A) 1000 (some true) (Nat.le_refl _) (by omega)
      rw [div0.2 (Nat.le_refl _), Nat.zero_mod, Nat.sub_self] at this
      rw [wrapI_of (by omega) (by omega)]
      exact this
    · cases h

end Go.Proofs.YtelckbphbkebkaaGreatDoor
