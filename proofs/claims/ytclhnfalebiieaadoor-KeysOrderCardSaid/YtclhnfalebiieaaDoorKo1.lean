/-
  Keys by the evaluator: the document's order of numbers (refitref02's Compare).
-/
import Derived.Test.YtclhnfalebiieaaDoorKab
import Derived.Test.YtclhnfalebiieaaDoorDn
import Derived.Test.YtclhnfalebiieaaDoorPy
set_option linter.unusedVariables false
set_option linter.unusedSimpArgs false
namespace Go.Proofs.YtclhnfalebiieaaDoor
open Go.RowKit

abbrev NGd : Nat := NGk
abbrev Wd : World → Prop := Tabs
theorem wokd : WOK NGd Wd := wokk
/-! ## comparison -/
def cmpI (a b : Int) : Int := bif decide (a < b) then -1 else bif decide (b < a) then 1 else 0
def tenI (n : Int) : Int := ((10 ^ (min n 13).toNat : Nat) : Int)
theorem tenI_le (n : Int) : 1 ≤ tenI n ∧ tenI n ≤ 10000000000000 := by
  unfold tenI
  have h : (min n 13).toNat ≤ 13 := by omega
  have h1 := Nat.pow_le_pow_right (n := 10) (by decide) h
  have h2 := Nat.pow_pos (a := 10) (n := (min n 13).toNat) (by decide)
  omega
/-! ## sums, differences, remainders -/
def inI (x : Int) : Bool := decide (-9223372036854775808 ≤ x) && decide (x ≤ 9223372036854775807)
theorem inI_iff {x : Int} : inI x = true ↔ -9223372036854775808 ≤ x ∧ x ≤ 9223372036854775807 := by
  simp only [inI, Bool.and_eq_true, decide_eq_true_eq]
def scaleB (s : Int) : Bool := decide (0 ≤ s) && decide (s ≤ 6)
theorem scaleB_iff {s : Int} : scaleB s = true ↔ 0 ≤ s ∧ s ≤ 6 := by simp only [scaleB, Bool.and_eq_true, decide_eq_true_eq]
def p_Scale : PFn := ⟨fun xs k => match xs with | [.int .i64 s] => k (.bool (scaleB s)) | _ => none, false⟩
theorem scale_raw (l : List (FuncId × PFn)) (s : Int) (fuel : Nat) : prun (en l) ⟨[], []⟩ fuel false Tryd.f36 [.int .i64 s] = some (.bool (decide (0 ≤ s) && decide (s ≤ 6))) := by kernel_rfl
theorem ok_Scale : FOK NGd Wd 36 p_Scale := by
  refine fok wokd allOK_nil (h := ⟨[], []⟩) Tryd.func36 rfl (by decide) ?_ ?_
  · intro R xs k
    simp only [p_Scale]
    split <;> rfl
  · intro xs r h
    simp only [p_Scale] at h
    split at h
    · exact ⟨0, (scale_raw [] _ 0).trans h⟩
    · cases h
theorem cmpI_lt {a b : Int} (h : a < b) : cmpI a b = -1 := by unfold cmpI; rw [decide_eq_true h]; rfl
theorem cmpI_gt {a b : Int} (h : b < a) : cmpI a b = 1 := by unfold cmpI; rw [decide_eq_false (by omega), decide_eq_true h]; rfl
theorem cmpI_self (a : Int) : cmpI a a = 0 := by unfold cmpI; rw [decide_eq_false (by omega)]; rfl
theorem cmpI_cases (a b : Int) : (a < b ∧ cmpI a b = -1) ∨ (a = b ∧ cmpI a b = 0) ∨ (b < a ∧ cmpI a b = 1) := by
  rcases Int.lt_trichotomy a b with h | h | h
  · exact .inl ⟨h, cmpI_lt h⟩
  · subst h; exact .inr (.inl ⟨rfl, cmpI_self _⟩)
  · exact .inr (.inr ⟨h, cmpI_gt h⟩)
theorem cmpI_swap (a b : Int) : cmpI b a = -cmpI a b := by
  rcases cmpI_cases a b with ⟨h, e⟩ | ⟨h, e⟩ | ⟨h, e⟩
  · rw [e, cmpI_gt h]; rfl
  · subst h; rw [cmpI_self]; rfl
  · rw [e, cmpI_lt h]
/-! ## comparing -/
def dcmp (a sa b sb : Int) : Int := bif scaleB sa && scaleB sb then cmpI (a * tenI sb) (b * tenI sa) else 0
/-- an element of a slice of numbers -/
def ixI {R : Type} (len : Nat) (c : List PV) (i : Int) (K : Int → Option R) : Option R :=
  bif decide (0 ≤ i) && decide (i < (len : Int)) then ((c.drop (i.toNat * 1)).take 1).head?.bind fun v => (PV.asInt .i64 v).bind K else none
theorem ixI_eq {R : Type} {len : Nat} {l : List Nat} {i : Int} {d : Nat} {K : Int → Option R} (h0 : 0 ≤ i) (hl : i < (len : Int)) (hd : l[i.toNat]? = some d) : ixI len (cellsD l) i K = K d := by
  unfold ixI
  rw [cond_t (by rw [decide_eq_true h0, decide_eq_true hl]; rfl), Nat.mul_one]
  have : (((cellsD l).drop i.toNat).take 1).head? = some (cellD d) := by
    rw [List.head?_take, if_neg (by decide), List.head?_drop, cellsD, List.getElem?_map, hd]
    rfl
  rw [this]
  rfl
theorem ixI_dgs {R : Type} {n : Nat} {i : Int} {K : Int → Option R} (h0 : 0 ≤ i) (hl : i < (dlen n : Int)) : ixI (dlen n) (cellsN n) i K = K ((n / 10 ^ i.toNat % 10 : Nat) : Int) :=
  ixI_eq h0 hl (dg_get _ _ _ (by omega))
/-- there is room for more -/
def room {R : Type} (l m : Nat) (x : Option R) : Option R := bif decide (l + m ≤ 9223372036854775807) && decide ((l + m) * 8 ≤ 140737488355328) then x else none
theorem room_eq {R : Type} {l m : Nat} {x : Option R} (h : l + m ≤ 1000) : room l m x = x := by
  unfold room
  exact cond_t (by rw [decide_eq_true (by omega), decide_eq_true (by omega)]; rfl)
theorem big_nl (n : Nat) : (n == 0) = (dlen n == 0) := by
  by_cases h : n = 0
  · subst h; rw [dlen_zero]
  · rw [beq_eq_false_iff_ne.2 h, dlen_pos h]; rfl
theorem div0 {n i : Nat} : n / 10 ^ i = 0 ↔ dlen n ≤ i := by rw [dlen_le, Nat.div_eq_zero_iff_lt (Nat.pow_pos (by decide))]
theorem dlen_div (n : Nat) : ∀ (i : Nat), dlen (n / 10 ^ i) = dlen n - i
  | 0 => by simp
  | i + 1 => by
    rw [div_div10]
    by_cases h : n / 10 ^ i = 0
    · have := div0.1 h
      rw [h, Nat.zero_div, dlen_zero]; omega
    · have := dlen_pos h
      rw [dlen_div n i] at this
      omega
/-! ## Of -/
def hOf : Hints := ⟨[], [(0, ⟨[(0, false), (3, true)], []⟩)]⟩
def frOf (x : Int) (nl : Option Bool) (l : Nat) (c : List PV) : St := frame 20 [(0, (.int .i64 x, 0)), (3, (.sl nl 1 l c, 25))] []
noncomputable def ofLoop (fu n : Nat) (st : St) : Option PV := loopF (en []) hOf fu false Tryd.f62 [1, 1, 0, 0] 0 n st
theorem of_raw (fu : Nat) (n : Int) : prun (en []) hOf fu false Tryd.f62 [.int .i64 n] = ofLoop fu fu (frOf n (some true) 0 []) := by kernel_rfl
def ofBody (x : Int) (nl : Option Bool) (l : Nat) (c : List PV) (G : Int → Option Bool → Nat → List PV → Option PV) : Option PV :=
  bif !(x == 0) then
    bif decide (x.tmod 10 < 0) then room l 1 (G (IntKind.i64.wrap (x.tdiv 10)) (nl.map (· && false)) (l + 1) (c ++ [.int .i64 (IntKind.i64.wrap (0 - x.tmod 10))]))
    else room l 1 (G (IntKind.i64.wrap (x.tdiv 10)) (nl.map (· && false)) (l + 1) (c ++ [.int .i64 (x.tmod 10)]))
  else some (.sl nl 1 l c)
theorem of_step (fu : Nat) (x : Int) (nl : Option Bool) (l : Nat) (c : List PV) (K : St → Option PV) : stepF (en []) hOf fu false Tryd.f62 [1, 1, 0, 0] (frOf x nl l c) (fun st => pnorm (hOf.loop.lookup 0) st K) =
    ofBody x nl l c (fun a b d e => K (frOf a b d e)) := by kernel_rfl
theorem of_loop (fu N : Nat) : ∀ (m i n : Nat) (x : Int), x.natAbs = N / 10 ^ i → dlen (N / 10 ^ i) = m → m < n → i + m ≤ 900 → -9223372036854775808 ≤ x → x ≤ 9223372036854775807 →
    ofLoop fu n (frOf x (some (i == 0)) i (cellsD (dg i N))) = some (.sl (some (i + m == 0)) 1 (i + m) (cellsD (dg (i + m) N)))
  | m, i, 0, x, _, _, h, _, _, _ => by omega
  | m, i, n + 1, x, hx, hm, hn, hi, h0, h1 => by
    unfold ofLoop
    rw [loopF_succ, of_step, ofBody]
    by_cases h : x = 0
    · subst h
      have hz : N / 10 ^ i = 0 := by rw [← hx]; rfl
      rw [hz, dlen_zero] at hm
      subst hm
      rfl
    · rw [cond_t (by simpa using h)]
      have hz : N / 10 ^ i ≠ 0 := by rw [← hx]; omega
      have hm' := dlen_pos hz
      rw [← div_div10] at hm'
      have e1 := Int.natAbs_tmod x 10
      have e2 : (x.tdiv 10).natAbs = N / 10 ^ (i + 1) := by rw [div_div10, ← hx]; exact Int.natAbs_tdiv x 10
      rw [hx, show (10 : Int).natAbs = 10 from rfl] at e1
      have hq : -9223372036854775808 ≤ x.tdiv 10 ∧ x.tdiv 10 ≤ 9223372036854775807 := by
        have hle : (x.tdiv 10).natAbs * 10 ≤ x.natAbs := by rw [e2, hx, div_div10]; exact Nat.div_mul_le_self _ _
        clear e1 e2
        generalize x.tdiv 10 = q at *
        omega
      have ih := of_loop fu N (m - 1) (i + 1) n (x.tdiv 10) e2 (by omega) (by omega) (by omega) hq.1 hq.2
      unfold ofLoop at ih
      rw [show i + 1 + (m - 1) = i + m by omega, dg_snoc, show (i + 1 == 0) = false from rfl] at ih
      have hd : ∀ y : Int, y = ((N / 10 ^ i % 10 : Nat) : Int) → cellsD (dg i N) ++ [PV.int .i64 y] = cellsD (dg i N ++ [N / 10 ^ i % 10]) := by
        intro y hy; rw [hy]; simp [cellsD, cellD]
      have hnl : (some (i == 0)).map (fun b : Bool => b && false) = some false := by simp
      rw [room_eq (by omega), room_eq (by omega), wrapI_of hq.1 hq.2, hnl]
      by_cases hs : x.tmod 10 < 0
      · rw [cond_t (decide_eq_true hs), wrapI_of (by omega) (by omega), hd _ (by omega)]
        exact ih
      · rw [cond_f (decide_eq_false hs), hd _ (by omega)]
        exact ih
def p_Of : PFn := ⟨fun xs k => match xs with | [.int .i64 n] => bif inI n then k (big n.natAbs) else none | _ => none, false⟩
theorem ok_Of : FOK NGd Wd 62 p_Of := by
  refine fok wokd allOK_nil (h := hOf) Tryd.func62 rfl (by decide) ?_ ?_
  · intro R xs k
    simp only [p_Of]
    split
    · exact cond_nat
    · rfl
  · intro xs r h
    simp only [p_Of] at h
    split at h
    · rename_i n
      rcases hb : inI n with _ | _ <;> rw [hb] at h
      · cases h
      · simp only [cond_true, Option.some.injEq] at h
        subst h
        rw [inI_iff] at hb
        refine ⟨1000, (of_raw 1000 n).trans ?_⟩
        have hl : dlen n.natAbs ≤ 20 := (dlen_le _ _).2 (by omega)
        have := of_loop 1000 n.natAbs (dlen n.natAbs) 0 1000 n (by simp) (by simp) (by omega) (by omega) hb.1 hb.2
        rw [Nat.zero_add, ← big_nl] at this
        exact this
    · cases h
/-! ## Cmp -/
def hCmp : Hints := ⟨[], [(0, ⟨[(0, false), (1, false), (5, false)], []⟩)]⟩
def frCmp (n0 : Option Bool) (l0 : Nat) (c0 : List PV) (n1 : Option Bool) (l1 : Nat) (c1 : List PV) (i : Int) : St := frame 41 [(0, (.sl n0 1 l0 c0, 0)), (1, (.sl n1 1 l1 c1, 0)), (5, (.int .i64 i, 0))] []
noncomputable def cmpLoop (fu n : Nat) (st : St) : Option PV := loopF (en []) hCmp fu false Tryd.f60 [1, 1, 0, 1, 0] 0 n st
theorem cmp_raw (fu : Nat) (n0 : Option Bool) (l0 : Nat) (c0 : List PV) (n1 : Option Bool) (l1 : Nat) (c1 : List PV) : prun (en []) hCmp fu false Tryd.f60 [.sl n0 1 l0 c0, .sl n1 1 l1 c1] =
    bif !((l0 : Int) == (l1 : Int)) then bif decide ((l0 : Int) < (l1 : Int)) then some (.int .i64 (-1)) else some (.int .i64 1) else cmpLoop fu fu (frCmp n0 l0 c0 n1 l1 c1 (IntKind.i64.wrap ((l0 : Int) - 1))) := by kernel_rfl
def cmpBody (l0 : Nat) (c0 : List PV) (l1 : Nat) (c1 : List PV) (i : Int) (G : Int → Option PV) : Option PV :=
  bif decide (0 ≤ i) then ixI l0 c0 i fun a => ixI l1 c1 i fun b => bif decide (a < b) then some (.int .i64 (-1)) else ixI l0 c0 i fun a => ixI l1 c1 i fun b => bif decide (b < a) then some (.int .i64 1) else G (IntKind.i64.wrap (i - 1))
  else some (.int .i64 0)
theorem cmp_step (fu : Nat) (n0 : Option Bool) (l0 : Nat) (c0 : List PV) (n1 : Option Bool) (l1 : Nat) (c1 : List PV) (i : Int) (K : St → Option PV) :
    stepF (en []) hCmp fu false Tryd.f60 [1, 1, 0, 1, 0] (frCmp n0 l0 c0 n1 l1 c1 i) (fun st => pnorm (hCmp.loop.lookup 0) st K) = cmpBody l0 c0 l1 c1 i (fun j => K (frCmp n0 l0 c0 n1 l1 c1 j)) := by kernel_rfl
theorem cmp_loop (fu : Nat) {A B : Nat} (hl : dlen A = dlen B) (n0 n1 : Option Bool) : ∀ (m n : Nat), m ≤ dlen A → m < n → m ≤ 900 → A / 10 ^ m = B / 10 ^ m →
    cmpLoop fu n (frCmp n0 (dlen A) (cellsN A) n1 (dlen B) (cellsN B) ((m : Int) - 1)) = some (.int .i64 (cmpI A B))
  | m, 0, _, h, _, _ => by omega
  | 0, n + 1, _, _, _, h => by
    unfold cmpLoop
    rw [loopF_succ, cmp_step, cmpBody, cond_f (by decide)]
    simp only [Nat.pow_zero, Nat.div_one] at h
    rw [h, cmpI_self]
  | m + 1, n + 1, hm, hn, hb, h => by
    unfold cmpLoop
    rw [loopF_succ, cmp_step, cmpBody]
    have e : ((m + 1 : Nat) : Int) - 1 = (m : Int) := by omega
    rw [e, cond_t (decide_eq_true (by omega)), ixI_dgs (by omega) (by omega), ixI_dgs (by omega) (by omega), ixI_dgs (by omega) (by omega), ixI_dgs (by omega) (by omega), Int.toNat_natCast, wrapI_of (by omega) (by omega)]
    rw [div_div10, div_div10] at h
    have up : ∀ {X Y : Nat}, X / 10 ^ m < Y / 10 ^ m → X < Y := by
      intro X Y k
      rcases Nat.lt_or_ge X Y with q | q
      · exact q
      · have := Nat.div_le_div_right (c := 10 ^ m) q
        omega
    by_cases k1 : A / 10 ^ m < B / 10 ^ m
    · rw [cond_t (decide_eq_true (by omega)), cmpI_lt (by have := up k1; omega)]
    · rw [cond_f (decide_eq_false (by omega))]
      by_cases k2 : B / 10 ^ m < A / 10 ^ m
      · rw [cond_t (decide_eq_true (by omega)), cmpI_gt (by have := up k2; omega)]
      · rw [cond_f (decide_eq_false (by omega))]
        have := cmp_loop fu hl n0 n1 m n (by omega) (by omega) (by omega) (by omega)
        unfold cmpLoop at this
        exact this
def p_Cmp : PFn := ⟨fun xs k => match xs with | [.sl _ 1 l0 c0, .sl _ 1 l1 c1] => (decN l0 c0).bind fun A => (decN l1 c1).bind fun B => bif decide (dlen A ≤ 500) && decide (dlen B ≤ 500) then k (.int .i64 (cmpI A B)) else none | _ => none, false⟩
theorem bind2_nat {R : Type} {a b : Option Nat} {g : Nat → Nat → Bool} {v : Nat → Nat → PV} {k : PV → Option R} :
    (a.bind fun A => b.bind fun B => bif g A B then k (v A B) else none) = (a.bind fun A => b.bind fun B => bif g A B then some (v A B) else none).bind k := by
  cases a with
  | none => rfl
  | some a => cases b with
    | none => rfl
    | some b => exact cond_nat
theorem bind2_inv {a b : Option Nat} {g : Nat → Nat → Bool} {v : Nat → Nat → PV} {r : PV} (h : (a.bind fun A => b.bind fun B => bif g A B then some (v A B) else none) = some r) : ∃ A B, a = some A ∧ b = some B ∧ g A B = true ∧ r = v A B := by
  obtain ⟨A, h1, h⟩ := Option.bind_eq_some_iff.1 h
  obtain ⟨B, h2, h⟩ := Option.bind_eq_some_iff.1 h
  cases hg : g A B <;> rw [hg] at h
  · cases h
  · injection h with h
    exact ⟨A, B, h1, h2, hg, h.symm⟩
theorem ok_Cmp : FOK NGd Wd 60 p_Cmp := by
  refine fok wokd allOK_nil (h := hCmp) Tryd.func60 rfl (by decide) ?_ ?_
  · intro R xs k
    simp only [p_Cmp]
    split
    · exact bind2_nat
    · rfl
  · intro xs r h
    simp only [p_Cmp] at h
    split at h
    · rename_i n0 l0 c0 n1 l1 c1
      obtain ⟨A, B, h1, h2, hg, rfl⟩ := bind2_inv h
      obtain ⟨rfl, rfl⟩ := decN_inv h1
      obtain ⟨rfl, rfl⟩ := decN_inv h2
      simp only [Bool.and_eq_true, decide_eq_true_eq] at hg
      refine ⟨1000, (cmp_raw 1000 n0 _ _ n1 _ _).trans ?_⟩
      have up : ∀ {X Y : Nat}, dlen X < dlen Y → X < Y := by
        intro X Y k
        rcases Nat.lt_or_ge X Y with q | q
        · exact q
        · have := dlen_mono q; omega
      by_cases e : dlen A = dlen B
      · rw [cond_f (by simp [e]), wrapI_of (by omega) (by omega)]
        exact cmp_loop 1000 e n0 n1 (dlen A) 1000 (Nat.le_refl _) (by omega) (by omega) (by rw [div0.2 (Nat.le_refl _), e, div0.2 (Nat.le_refl _)])
      · rw [cond_t (by simp; omega)]
        by_cases k : dlen A < dlen B
        · rw [cond_t (decide_eq_true (by omega)), cmpI_lt (by have := up k; omega)]
        · rw [cond_f (decide_eq_false (by omega)), cmpI_gt (by have := up (show dlen B < dlen A by omega); omega)]
    · cases h
/-! ## Shift -/
def p_Shift : PFn := ⟨fun xs k => match xs with | [.sl _ 1 l0 c0, .int .i64 j] => (decN l0 c0).bind fun A => bif decide (dlen A ≤ 500) && (decide (0 ≤ j) && decide (j ≤ 100)) then k (big (A * 10 ^ j.toNat)) else none | _ => none, false⟩
theorem shift_raw (n0 : Option Bool) (l0 : Nat) (c0 : List PV) (j : Int) : prun (en []) ⟨[], []⟩ 0 false Tryd.f61 [.sl n0 1 l0 c0, .int .i64 j] =
    bif (l0 : Int) == 0 then some (.sl (some true) 1 0 []) else
    bif decide (0 ≤ j) && decide (j ≤ j) && decide (j * ((8 : Nat) : Int) ≤ ((140737488355328 : Nat) : Int)) && decide (j ≤ 9223372036854775807) then
      room j.toNat l0 (some (.sl ((some false).map (· && (l0 == 0))) 1 (j.toNat + l0) ((List.replicate j.toNat [.int .i64 0]).flatten ++ c0))) else none := by kernel_rfl
theorem ok_Shift : FOK NGd Wd 61 p_Shift := by
  refine fok wokd allOK_nil (h := ⟨[], []⟩) Tryd.func61 rfl (by decide) ?_ ?_
  · intro R xs k
    simp only [p_Shift]
    split
    · rename_i l0 c0 j
      cases decN l0 c0 with
      | none => rfl
      | some A => exact cond_nat
    · rfl
  · intro xs r h
    simp only [p_Shift] at h
    split at h
    · rename_i n0 l0 c0 j
      obtain ⟨A, h1, g⟩ := Option.bind_eq_some_iff.1 h
      obtain ⟨rfl, rfl⟩ := decN_inv h1
      rcases hb : (decide (dlen A ≤ 500) && (decide (0 ≤ j) && decide (j ≤ 100))) with _ | _ <;> rw [hb] at g
      · cases g
      · simp only [cond_true, Option.some.injEq] at g
        subst g
        simp only [Bool.and_eq_true, decide_eq_true_eq] at hb
        refine ⟨0, (shift_raw n0 _ _ j).trans ?_⟩
        by_cases e : A = 0
        · subst e
          rw [cond_t (by rw [dlen_zero]; rfl)]
          unfold big cellsN dgs
          rw [Nat.zero_mul, dlen_zero]; rfl
        · rw [cond_f (by rw [dlen_pos e]; simp; omega), cond_t (by simp only [Bool.and_eq_true, decide_eq_true_eq]; omega), room_eq (by omega)]
          unfold big cellsN
          have hne : A * 10 ^ j.toNat ≠ 0 := Nat.mul_ne_zero e (by have := Nat.pow_pos (a := 10) (n := j.toNat) (by decide); omega)
          rw [dlen_shift e, beq_eq_false_iff_ne.2 hne]
          have : cellsD (dgs (A * 10 ^ j.toNat)) = (List.replicate j.toNat [PV.int .i64 0]).flatten ++ cellsD (dgs A) := by
            rw [dgs, dlen_shift e, ← dg_shift]
            simp only [cellsD, List.map_append, List.map_replicate]
            congr 1
            generalize j.toNat = t
            induction t with
            | zero => rfl
            | succ t ih => rw [List.replicate_succ, List.replicate_succ, List.flatten_cons, ih]; rfl
          rw [this]
          simp
    · cases h
def cmpO {R : Type} (l0 : Nat) (c0 : List PV) (l1 : Nat) (c1 : List PV) (k : Int → Option R) : Option R := (decN l0 c0).bind fun A => (decN l1 c1).bind fun B => bif decide (dlen A ≤ 500) && decide (dlen B ≤ 500) then k (cmpI A B) else none
theorem cmpO_eq {R : Type} {A B : Nat} {k : Int → Option R} (hA : dlen A ≤ 500) (hB : dlen B ≤ 500) : cmpO (dlen A) (cellsN A) (dlen B) (cellsN B) k = k (cmpI A B) := by
  unfold cmpO
  rw [decN_big, decN_big]
  exact cond_t (by rw [decide_eq_true hA, decide_eq_true hB]; rfl)
theorem dlen_small {n : Nat} (h : n < 10 ^ 20) : dlen n ≤ 20 := (dlen_le _ _).2 h
theorem dlen_abs {n : Int} (h : inI n = true) : dlen n.natAbs ≤ 20 := dlen_small (by rw [inI_iff] at h; omega)
/-- what Shift yields of cells -/
def shiftO {R : Type} (l0 : Nat) (c0 : List PV) (j : Int) (k : Nat → Option R) : Option R := (decN l0 c0).bind fun A => bif decide (dlen A ≤ 500) && (decide (0 ≤ j) && decide (j ≤ 100)) then k (A * 10 ^ j.toNat) else none
theorem shiftO_eq {R : Type} {A : Nat} {j : Int} {k : Nat → Option R} (hA : dlen A ≤ 500) (h0 : 0 ≤ j) (h1 : j ≤ 100) : shiftO (dlen A) (cellsN A) j k = k (A * 10 ^ j.toNat) := by
  unfold shiftO
  rw [decN_big]
  exact cond_t (by rw [decide_eq_true hA, decide_eq_true h0, decide_eq_true h1]; rfl)
theorem dlen_shift_le {A k : Nat} {m : Nat} (h : dlen A ≤ m) : dlen (A * 10 ^ k) ≤ m + k := by
  by_cases e : A = 0
  · subst e; rw [Nat.zero_mul, dlen_zero]; omega
  · rw [dlen_shift e]; omega
noncomputable def lRC : List (FuncId × PFn) := [(62, p_Of), (61, p_Shift), (60, p_Cmp), (36, p_Scale)]
theorem ok_lRC : AllOK NGd Wd lRC := allOK_cons ok_Of (allOK_cons ok_Shift (allOK_cons ok_Cmp (allOK_cons ok_Scale allOK_nil)))
def rcBody (a sa b sb : Int) : Option PV :=
  bif !!scaleB sa then bif !scaleB sb then some (.int .i64 0) else
    bif decide (a < 0) && decide (0 ≤ b) then some (.int .i64 (-1)) else
    bif decide (0 ≤ a) && decide (b < 0) then some (.int .i64 1) else
    bif inI a then shiftO (dlen a.natAbs) (cellsN a.natAbs) sb fun X => bif inI b then shiftO (dlen b.natAbs) (cellsN b.natAbs) sa fun Y => cmpO (dlen X) (cellsN X) (dlen Y) (cellsN Y) fun z =>
      bif decide (a < 0) then some (.int .i64 (IntKind.i64.wrap (0 - z))) else some (.int .i64 z)
    else none else none
  else some (.int .i64 0)
theorem rc_raw (a sa b sb : Int) : prun (en lRC) ⟨[], []⟩ 0 false Tryd.f54 [.int .i64 a, .int .i64 sa, .int .i64 b, .int .i64 sb] = rcBody a sa b sb := by kernel_rfl
theorem tenI_pow {k : Int} (h0 : 0 ≤ k) (h1 : k ≤ 13) : tenI k = ((10 ^ k.toNat : Nat) : Int) := by
  unfold tenI
  rw [show min k 13 = k by omega]
theorem rc_body {a sa b sb : Int} (ha : inI a = true) (hb : inI b = true) : rcBody a sa b sb = some (.int .i64 (dcmp a sa b sb)) := by
  unfold rcBody dcmp
  cases h1 : scaleB sa
  · rfl
  · cases h2 : scaleB sb
    · rfl
    · rw [scaleB_iff] at h1 h2
      have t1 := tenI_le sa
      have t2 := tenI_le sb
      simp only [Bool.not_true, Bool.not_false, cond_true, cond_false, Bool.and_self]
      by_cases ka : a < 0
      · have q1 : a * tenI sb < 0 := Int.mul_neg_of_neg_of_pos ka (by omega)
        by_cases kb : b < 0
        · rw [decide_eq_true ka, decide_eq_false (show ¬ 0 ≤ b by omega), decide_eq_false (show ¬ 0 ≤ a by omega), ha, hb, shiftO_eq (by have := dlen_abs ha; omega) h2.1 (by omega), cond_true]
          simp only [Bool.and_false, Bool.false_and, cond_false, cond_true]
          rw [shiftO_eq (by have := dlen_abs hb; omega) h1.1 (by omega), cmpO_eq (by have := dlen_shift_le (k := sb.toNat) (dlen_abs ha); omega) (by have := dlen_shift_le (k := sa.toNat) (dlen_abs hb); omega)]
          rw [Int.natCast_mul, Int.natCast_mul, ← tenI_pow h2.1 (by omega), ← tenI_pow h1.1 (by omega), show ((a.natAbs : Nat) : Int) = -a by omega, show ((b.natAbs : Nat) : Int) = -b by omega, Int.neg_mul, Int.neg_mul]
          have e : IntKind.i64.wrap (0 - cmpI (-(a * tenI sb)) (-(b * tenI sa))) = cmpI (a * tenI sb) (b * tenI sa) := by
            rcases cmpI_cases (a * tenI sb) (b * tenI sa) with ⟨k, e⟩ | ⟨k, e⟩ | ⟨k, e⟩
            · rw [e, cmpI_gt (by omega)]; decide
            · rw [e, k, cmpI_self]; decide
            · rw [e, cmpI_lt (by omega)]; decide
          rw [e]
        · have q2 : 0 ≤ b * tenI sa := Int.mul_nonneg (by omega) (by omega)
          rw [decide_eq_true ka, decide_eq_true (show 0 ≤ b by omega), cmpI_lt (by omega)]
          rfl
      · have q1 : 0 ≤ a * tenI sb := Int.mul_nonneg (by omega) (by omega)
        by_cases kb : b < 0
        · have q2 : b * tenI sa < 0 := Int.mul_neg_of_neg_of_pos kb (by omega)
          rw [decide_eq_false ka, decide_eq_true (show 0 ≤ a by omega), decide_eq_true kb, cmpI_gt (by omega)]
          rfl
        · rw [decide_eq_false ka, decide_eq_false kb, ha, hb]
          simp only [Bool.and_false, Bool.false_and, cond_false, cond_true]
          rw [shiftO_eq (by have := dlen_abs ha; omega) h2.1 (by omega), shiftO_eq (by have := dlen_abs hb; omega) h1.1 (by omega), cmpO_eq (by have := dlen_shift_le (k := sb.toNat) (dlen_abs ha); omega) (by have := dlen_shift_le (k := sa.toNat) (dlen_abs hb); omega)]
          rw [Int.natCast_mul, Int.natCast_mul, ← tenI_pow h2.1 (by omega), ← tenI_pow h1.1 (by omega), show ((a.natAbs : Nat) : Int) = a by omega, show ((b.natAbs : Nat) : Int) = b by omega]
def p_RCompare : PFn := ⟨fun xs k => match xs with | [.int .i64 a, .int .i64 sa, .int .i64 b, .int .i64 sb] => bif inI a && inI b then k (.int .i64 (dcmp a sa b sb)) else none | _ => none, false⟩
theorem ok_RCompare : FOK NGd Wd 54 p_RCompare := by
  refine fok wokd ok_lRC (h := ⟨[], []⟩) Tryd.func54 rfl (by decide) ?_ ?_
  · intro R xs k
    simp only [p_RCompare]
    split
    · exact cond_nat
    · rfl
  · intro xs r h
    simp only [p_RCompare] at h
    split at h
    · rename_i a sa b sb
      rcases hb : (inI a && inI b) with _ | _ <;> rw [hb] at h
      · cases h
      · simp only [Bool.and_eq_true] at hb
        exact ⟨0, (rc_raw a sa b sb).trans ((rc_body hb.1 hb.2).trans h)⟩
    · cases h
end Go.Proofs.YtclhnfalebiieaaDoor
