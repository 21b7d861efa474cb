/-
  Decimal: the text of a decimal; the law DecimalPrints.
-/
import Derived.Test.YtllpobcecingiaaGreatDoorDd
set_option linter.unusedVariables false
set_option linter.unusedSimpArgs false
namespace Go.Proofs.YtllpobcecingiaaGreatDoor
open Go.RowKit

/-! ## the digits of a number, the highest first -/
theorem ch_nat {d : Nat} (h : d < 10) : (UInt8.ofNat (48 + d)).toNat = 48 + d := by simp; omega
theorem ch_isD {d : Nat} (h : d < 10) : isD (UInt8.ofNat (48 + d)) = true := by
  unfold isD
  rw [ch_nat h, decide_eq_true (by omega), decide_eq_true (by omega)]; rfl
theorem vacc_app (a : Nat) (l : List UInt8) (c : UInt8) : vacc a (l ++ [c]) = vacc a l * 10 + (c.toNat - 48) := by simp [vacc]
theorem head_app {l : List UInt8} {t : List UInt8} (h : l ≠ []) : (l ++ t).head? = l.head? := by
  obtain ⟨c, r, e⟩ := List.exists_cons_of_ne_nil h
  rw [e]; rfl
theorem decD_facts : ∀ (k u : Nat), u < 10 ^ (k + 1) → (decD (k + 1) u).all isD = true ∧ decD (k + 1) u ≠ [] ∧ digV (decD (k + 1) u) = u ∧ (decD (k + 1) u).length ≤ k + 1 ∧ (0 < u → ∀ c, (decD (k + 1) u).head? = some c → c ≠ 48) ∧ (1 < (decD (k + 1) u).length → 0 < u)
  | k, u, hu => by
    unfold decD
    by_cases h : u < 10
    · rw [decide_eq_true h, cond_true]
      refine ⟨by rw [List.all_cons, ch_isD h]; rfl, by simp, ?_, by simp, ?_, by simp⟩
      · show 0 * 10 + ((UInt8.ofNat (48 + u)).toNat - 48) = u
        rw [ch_nat h]; omega
      · intro hp c hc
        simp only [List.head?_cons, Option.some.injEq] at hc
        subst hc
        intro e
        have := congrArg UInt8.toNat e
        rw [ch_nat h] at this
        simp at this; omega
    · rw [decide_eq_false h, cond_false]
      match k, hu with
      | 0, hu => simp at hu; omega
      | k + 1, hu =>
        have hq : u / 10 < 10 ^ (k + 1) := (Nat.div_lt_iff_lt_mul (by decide)).2 (by rw [Nat.pow_succ] at hu; exact hu)
        obtain ⟨f1, f2, f3, f4, f5, f6⟩ := decD_facts k (u / 10) hq
        have hm : u % 10 < 10 := Nat.mod_lt _ (by decide)
        refine ⟨by rw [List.all_append, f1, List.all_cons, ch_isD hm]; rfl, by simp, ?_, by simp; omega, ?_, fun _ => by omega⟩
        · unfold digV at *
          rw [vacc_app, f3, ch_nat hm]; omega
        · intro hp c hc
          rw [head_app f2] at hc
          exact f5 (by omega) c hc
def dS (N : Nat) : List UInt8 := decD 20 N
theorem dS_facts {N : Nat} (h : N < 10 ^ 20) : (dS N).all isD = true ∧ dS N ≠ [] ∧ digV (dS N) = N ∧ (dS N).length ≤ 20 ∧ (0 < N → ∀ c, (dS N).head? = some c → c ≠ 48) ∧ (1 < (dS N).length → 0 < N) := decD_facts 19 N h

/-! ## what Print does -/
def padS (t : List UInt8) (k : Nat) : List UInt8 := List.replicate (k + 1 - t.length) 48 ++ t
def catM (m : Bool) (t : List UInt8) : Option PV := bif m then bif decide (([45] : List UInt8).length + t.length ≤ 9223372036854775807) then some (.str ([45] ++ t)) else none else some (.str t)
def prFin (x : List UInt8) (sc : Int) (m : Bool) : Option PV :=
  bif decide (0 < sc) then
    bif decide (0 ≤ IntKind.i64.wrap ((x.length : Int) - sc)) && decide (IntKind.i64.wrap ((x.length : Int) - sc) ≤ (x.length : Int)) then
      bif decide (((x.take (IntKind.i64.wrap ((x.length : Int) - sc)).toNat).drop 0).length + ([46] : List UInt8).length ≤ 9223372036854775807) then
        bif decide (0 ≤ IntKind.i64.wrap ((x.length : Int) - sc)) && decide (IntKind.i64.wrap ((x.length : Int) - sc) ≤ (x.length : Int)) then
          bif decide ((((x.take (IntKind.i64.wrap ((x.length : Int) - sc)).toNat).drop 0) ++ [46]).length + ((x.take x.length).drop (IntKind.i64.wrap ((x.length : Int) - sc)).toNat).length ≤ 9223372036854775807) then
            catM m (((x.take (IntKind.i64.wrap ((x.length : Int) - sc)).toNat).drop 0) ++ [46] ++ ((x.take x.length).drop (IntKind.i64.wrap ((x.length : Int) - sc)).toNat))
          else none
        else none
      else none
    else none
  else catM m x
def dotS (p : List UInt8) (k : Nat) : List UInt8 := bif decide (0 < k) then p.take (p.length - k) ++ [46] ++ p.drop (p.length - k) else p
def printS (N : Nat) (m : Bool) (k : Nat) : List UInt8 := (bif m then [45] else []) ++ dotS (padS (dS N) k) k
theorem catM_eq {m : Bool} {t : List UInt8} (h : t.length ≤ 1000) : catM m t = some (.str ((bif m then [45] else []) ++ t)) := by
  unfold catM
  cases m
  · rfl
  · rw [cond_true, cond_t (decide_eq_true (by simp; omega))]; rfl
theorem prFin_eq {x : List UInt8} {k : Nat} {m : Bool} (hk : k < x.length) (hx : x.length ≤ 500) : prFin x (k : Int) m = some (.str ((bif m then [45] else []) ++ dotS x k)) := by
  unfold prFin dotS
  have hw : IntKind.i64.wrap ((x.length : Int) - (k : Int)) = (x.length : Int) - (k : Int) := wrapI_of (by omega) (by omega)
  have ht : ((x.length : Int) - (k : Int)).toNat = x.length - k := by omega
  by_cases h : 0 < k
  · rw [cond_t (decide_eq_true (by omega)), decide_eq_true h, cond_true]
    simp only [hw, ht]
    have hb : (decide (0 ≤ (x.length : Int) - (k : Int)) && decide ((x.length : Int) - (k : Int) ≤ (x.length : Int))) = true := by rw [decide_eq_true (by omega), decide_eq_true (by omega)]; rfl
    rw [hb, List.take_length, List.drop_zero]
    have l1 : (x.take (x.length - k)).length = x.length - k := by rw [List.length_take]; omega
    rw [cond_true, cond_true, cond_t (decide_eq_true (by rw [l1]; simp; omega)), cond_t (decide_eq_true (by simp only [List.length_append, l1, List.length_drop, List.length_cons, List.length_nil]; omega)), catM_eq (by simp only [List.length_append, l1, List.length_drop, List.length_cons, List.length_nil]; omega)]
  · rw [cond_f (decide_eq_false (by omega)), decide_eq_false h, cond_false, catM_eq (by omega)]
theorem pad_step {t : List UInt8} {k : Nat} (h : t.length ≤ k) : padS (48 :: t) k = padS t k := by
  unfold padS
  rw [show k + 1 - t.length = (k + 1 - (48 :: t).length) + 1 by simp only [List.length_cons]; omega, List.replicate_succ', List.append_assoc]
  rfl
theorem pad_done {t : List UInt8} {k : Nat} (h : k < t.length) : padS t k = t := by
  unfold padS
  rw [show k + 1 - t.length = 0 by omega]; rfl
theorem pad_len (t : List UInt8) (k : Nat) : (padS t k).length = max t.length (k + 1) := by
  unfold padS
  rw [List.length_append, List.length_replicate]; omega
def hPr : Hints := ⟨[], [(0, ⟨[(1, false), (5, false), (6, false)], []⟩)]⟩
noncomputable def lPr : List (FuncId × PFn) := [(53, p_Right), (82, p_CutP), (83, p_Itoa)]
theorem ok_lPr : AllOK NGd Wd lPr := allOK_cons ok_Right (allOK_cons ok_CutP (allOK_cons ok_Itoa allOK_nil))
def frPr (sc : Int) (x : List UInt8) (m : Bool) : St := frame 42 [(1, (.int .i64 sc, 0)), (5, (.str x, 0)), (6, (.bool m, 0))] []
noncomputable def prLoop (fu n : Nat) (st : St) : Option PV := loopF (en lPr) hPr fu false Tryz.f57 [1, 1, 1, 0, 0] 0 n st
theorem pr_raw (fu : Nat) (n sc : Int) : prun (en lPr) hPr fu false Tryz.f57 [.int .i64 n, .int .i64 sc] =
    bif !scaleB sc then some (.str []) else bif decide (-9223372036854775808 ≤ n) && decide (n ≤ 9223372036854775807) then prLoop fu fu (frPr sc (noM (itoaD n)) (hasM (itoaD n))) else none := by kernel_rfl
theorem pr_step (fu : Nat) (sc : Int) (x : List UInt8) (m : Bool) (K : St → Option PV) :
    stepF (en lPr) hPr fu false Tryz.f57 [1, 1, 1, 0, 0] (frPr sc x m) (fun st => pnorm (hPr.loop.lookup 0) st K) =
    bif decide ((x.length : Int) ≤ sc) then bif decide (([48] : List UInt8).length + x.length ≤ 9223372036854775807) then K (frPr sc ([48] ++ x) m) else none else prFin x sc m := by kernel_rfl
theorem pr_loop (fu : Nat) (k : Nat) (hk : k ≤ 6) (m : Bool) : ∀ (j n : Nat) (x : List UInt8), k + 1 ≤ x.length + j → j < n → x.length ≤ 100 → prLoop fu n (frPr (k : Int) x m) = some (.str ((bif m then [45] else []) ++ dotS (padS x k) k))
  | j, 0, _, _, h, _ => by omega
  | j, n + 1, x, hj, hn, hx => by
    unfold prLoop
    rw [loopF_succ, pr_step]
    by_cases h : x.length ≤ k
    · rw [cond_t (decide_eq_true (by omega)), cond_t (decide_eq_true (by simp; omega))]
      have ih := pr_loop fu k hk m (j - 1) n (48 :: x) (by simp; omega) (by omega) (by simp; omega)
      rw [pad_step h] at ih
      unfold prLoop at ih
      exact ih
    · rw [cond_f (decide_eq_false (by omega)), prFin_eq (by omega) (by omega), pad_done (by omega)]
theorem noM_digits {t : List UInt8} (h : t.all isD = true) : noM t = t ∧ hasM t = false := by
  have : hasM t = false := by
    unfold hasM
    cases t with
    | nil => rfl
    | cons c t =>
      rw [List.all_cons, Bool.and_eq_true] at h
      have hc := h.1
      simp only [List.head?_cons]
      rw [beq_eq_false_iff_ne]
      intro e
      injection e with e
      subst e
      simp [isD] at hc
  unfold noM
  rw [this]
  exact ⟨rfl, rfl⟩
theorem itoa_cut {n : Int} (h : inI n = true) : noM (itoaD n) = dS n.natAbs ∧ hasM (itoaD n) = decide (n < 0) := by
  rw [inI_iff] at h
  have f := (dS_facts (N := n.natAbs) (by omega)).1
  unfold itoaD
  by_cases k : n < 0
  · rw [decide_eq_true k, cond_true]
    exact ⟨rfl, rfl⟩
  · rw [decide_eq_false k, cond_false, show n.toNat = n.natAbs by omega]
    exact noM_digits f
def prV (n sc : Int) : List UInt8 := bif scaleB sc then printS n.natAbs (decide (n < 0)) sc.toNat else []
def p_Print : PFn := ⟨fun xs k => match xs with | [.int .i64 n, .int .i64 sc] => bif inI n then k (.str (prV n sc)) else none | _ => none, false⟩
theorem ok_Print : FOK NGd Wd 57 p_Print := by
  refine fok wokd ok_lPr (h := hPr) Tryz.func57 rfl (by decide) ?_ ?_
  · intro R xs k
    simp only [p_Print]
    split
    · exact cond_nat
    · rfl
  · intro xs r h
    simp only [p_Print] at h
    split at h
    · rename_i n sc
      rcases hb : inI n with _ | _ <;> rw [hb] at h
      · cases h
      · simp only [cond_true, Option.some.injEq] at h
        subst h
        refine ⟨1000, (pr_raw 1000 n sc).trans ?_⟩
        unfold prV
        cases hs : scaleB sc
        · rfl
        · rw [scaleB_iff] at hs
          obtain ⟨e1, e2⟩ := itoa_cut hb
          rw [inI_iff] at hb
          have f := (dS_facts (N := n.natAbs) (by omega)).2.2.2.1
          rw [Bool.not_true, cond_false, cond_true, cond_t (by rw [decide_eq_true hb.1, decide_eq_true hb.2]; rfl), e1, e2]
          obtain ⟨k, rfl⟩ := Int.eq_ofNat_of_zero_le hs.1
          have := pr_loop 1000 k (by omega) (decide (n < 0)) 7 1000 (dS n.natAbs) (by omega) (by omega) (by omega)
          rw [Int.toNat_natCast]
          exact this
    · cases h

/-! ## the document's Digits and Print -/
def hDg : Hints := ⟨[], [(0, ⟨[(3, false), (7, false), (8, false), (9, false)], []⟩)]⟩
def frDg (x : List UInt8) (n7 : Option Bool) (l7 : Nat) (c7 : List PV) (L i : Int) : St := frame 23 [(3, (.str x, 0)), (7, (.sl n7 1 l7 c7, 0)), (8, (.int .i64 L, 0)), (9, (.int .i64 i, 0))] []
noncomputable def lDg : List (FuncId × PFn) := [(89, p_Of)]
noncomputable def dgLoop (fu n : Nat) (st : St) : Option PV := loopF (en lDg) hDg fu false Tryz.f61 [1, 1, 0, 1, 0] 0 n st
theorem dgt_raw (fu : Nat) (n : Int) : prun (en lDg) hDg fu false Tryz.f61 [.int .i64 n] =
    bif inI n then dgLoop fu fu (frDg [] (some (n.natAbs == 0)) (dlen n.natAbs) (cellsN n.natAbs) (dlen n.natAbs : Int) 0) else none := by kernel_rfl
def tenS : List UInt8 := [48, 49, 50, 51, 52, 53, 54, 55, 56, 57]
theorem dgt_step (fu : Nat) (x : List UInt8) (n7 : Option Bool) (l7 : Nat) (c7 : List PV) (L i : Int) (K : St → Option PV) :
    stepF (en lDg) hDg fu false Tryz.f61 [1, 1, 0, 1, 0] (frDg x n7 l7 c7 L i) (fun st => pnorm (hDg.loop.lookup 0) st K) =
    bif decide (i < L) then ixI l7 c7 i fun v =>
      bif decide (0 ≤ IntKind.i64.wrap (v + 1)) && decide (IntKind.i64.wrap (v + 1) ≤ (tenS.length : Int)) then bif decide (0 ≤ v) && decide (v ≤ ((IntKind.i64.wrap (v + 1)).toNat : Int)) then
        bif decide (((tenS.take (IntKind.i64.wrap (v + 1)).toNat).drop v.toNat).length + x.length ≤ 9223372036854775807) then K (frDg (((tenS.take (IntKind.i64.wrap (v + 1)).toNat).drop v.toNat) ++ x) n7 l7 c7 L (IntKind.i64.wrap (i + 1))) else none
      else none else none
    else bif x == [] then some (.str [48]) else some (.str x) := by kernel_rfl
def chS (k N : Nat) : List UInt8 := ((dg k N).map fun d => UInt8.ofNat (48 + d)).reverse
theorem ten_one : ∀ d, d < 10 → (tenS.take (d + 1)).drop d = [UInt8.ofNat (48 + d)] := by decide
theorem dgt_loop (fu : Nat) (N : Nat) (hN : dlen N ≤ 100) (n7 : Option Bool) : ∀ (m i n : Nat), i + m = dlen N → m < n → dgLoop fu n (frDg (chS i N) n7 (dlen N) (cellsN N) (dlen N : Int) (i : Int)) = some (.str (bif chS (dlen N) N == [] then [48] else chS (dlen N) N))
  | m, i, 0, _, h => by omega
  | 0, i, n + 1, hi, hn => by
    unfold dgLoop
    rw [loopF_succ, dgt_step, cond_f (decide_eq_false (by omega)), show i = dlen N by omega]
    cases chS (dlen N) N == [] <;> rfl
  | m + 1, i, n + 1, hi, hn => by
    unfold dgLoop
    have hd : N / 10 ^ i % 10 < 10 := Nat.mod_lt _ (by decide)
    have hl : (chS i N).length = i := by simp [chS, dg_len]
    rw [loopF_succ, dgt_step, cond_t (decide_eq_true (by omega)), ixI_dgs (by omega) (by omega), Int.toNat_natCast, wrapI_of (x := _ + 1) (by omega) (by omega), wrapI_of (x := (i : Int) + 1) (by omega) (by omega)]
    have e1 : (((N / 10 ^ i % 10 : Nat) : Int) + 1).toNat = N / 10 ^ i % 10 + 1 := by omega
    have ih := dgt_loop fu N hN n7 m (i + 1) n (by omega) (by omega)
    unfold dgLoop at ih
    have e2 : chS (i + 1) N = [UInt8.ofNat (48 + N / 10 ^ i % 10)] ++ chS i N := by
      unfold chS
      rw [dg_snoc, List.map_append, List.reverse_append]; rfl
    rw [e2] at ih
    simp only [e1, Int.toNat_natCast]
    rw [cond_t (by rw [decide_eq_true (by omega), decide_eq_true (by show _ ≤ ((10 : Nat) : Int); omega)]; rfl), cond_t (by rw [decide_eq_true (by omega), decide_eq_true (by omega)]; rfl), ten_one _ hd, cond_t (decide_eq_true (by simp; omega))]
    exact ih
theorem ch_dS : ∀ (k u : Nat), u < 10 ^ (k + 1) → decD (k + 1) u = bif chS (dlen u) u == [] then [48] else chS (dlen u) u
  | k, u, hu => by
    unfold decD
    by_cases h : u < 10
    · rw [decide_eq_true h, cond_true]
      by_cases h0 : u = 0
      · subst h0; rfl
      · have hl : dlen u = 1 := by rw [dlen_pos h0, show u / 10 = 0 by omega, dlen_zero]
        rw [hl]
        show _ = bif [UInt8.ofNat (48 + u % 10)] == [] then [48] else [UInt8.ofNat (48 + u % 10)]
        rw [show u % 10 = u by omega]; rfl
    · rw [decide_eq_false h, cond_false]
      match k, hu with
      | 0, hu => simp at hu; omega
      | k + 1, hu =>
        have hq : u / 10 < 10 ^ (k + 1) := (Nat.div_lt_iff_lt_mul (by decide)).2 (by rw [Nat.pow_succ] at hu; exact hu)
        rw [ch_dS k (u / 10) hq]
        have hl : dlen u = dlen (u / 10) + 1 := dlen_pos (by omega)
        have hl2 : dlen (u / 10) = dlen (u / 10 / 10) + 1 := dlen_pos (by omega)
        have e : chS (dlen u) u = chS (dlen (u / 10)) (u / 10) ++ [UInt8.ofNat (48 + u % 10)] := by
          rw [hl]
          unfold chS
          show ((u % 10 :: dg (dlen (u / 10)) (u / 10)).map _).reverse = _
          rw [List.map_cons, List.reverse_cons]
        have n1 : (chS (dlen (u / 10)) (u / 10) == []) = false := by
          rw [beq_eq_false_iff_ne]
          intro e
          have := congrArg List.length e
          simp [chS, dg_len] at this
          omega
        have n2 : (chS (dlen u) u == []) = false := by rw [e]; simp
        rw [n1, n2, cond_false, cond_false, e]
def p_Digits : PFn := ⟨fun xs k => match xs with | [.int .i64 n] => bif inI n then k (.str (dS n.natAbs)) else none | _ => none, false⟩
theorem ok_Digits : FOK NGd Wd 61 p_Digits := by
  refine fok wokd (allOK_cons ok_Of allOK_nil) (h := hDg) Tryz.func61 rfl (by decide) ?_ ?_
  · intro R xs k
    simp only [p_Digits]
    split
    · exact cond_nat
    · rfl
  · intro xs r h
    simp only [p_Digits] at h
    split at h
    · rename_i n
      rcases hb : inI n with _ | _ <;> rw [hb] at h
      · cases h
      · simp only [cond_true, Option.some.injEq] at h
        subst h
        refine ⟨1000, (dgt_raw 1000 n).trans ?_⟩
        have hl := dlen_abs hb
        rw [hb, cond_true]
        rw [inI_iff] at hb
        have := dgt_loop 1000 n.natAbs (by omega) (some (n.natAbs == 0)) (dlen n.natAbs) 0 1000 (by omega) (by omega)
        unfold dS
        rw [ch_dS 19 n.natAbs (by omega)]
        exact this
    · cases h
def hRPr : Hints := ⟨[], [(0, ⟨[(0, false), (1, false), (5, false)], []⟩)]⟩
noncomputable def lRPr : List (FuncId × PFn) := [(59, p_Scale), (61, p_Digits)]
def frRPr (n sc : Int) (x : List UInt8) : St := frame 38 [(0, (.int .i64 n, 0)), (1, (.int .i64 sc, 0)), (5, (.str x, 0))] []
noncomputable def rprLoop (fu n : Nat) (st : St) : Option PV := loopF (en lRPr) hRPr fu false Tryz.f37 [1, 1, 1, 0, 0] 0 n st
theorem rpr_raw (fu : Nat) (n sc : Int) : prun (en lRPr) hRPr fu false Tryz.f37 [.int .i64 n, .int .i64 sc] =
    bif !scaleB sc then some (.str []) else bif inI n then rprLoop fu fu (frRPr n sc (dS n.natAbs)) else none := by kernel_rfl
theorem rpr_step (fu : Nat) (n sc : Int) (x : List UInt8) (K : St → Option PV) :
    stepF (en lRPr) hRPr fu false Tryz.f37 [1, 1, 1, 0, 0] (frRPr n sc x) (fun st => pnorm (hRPr.loop.lookup 0) st K) =
    bif decide ((x.length : Int) ≤ sc) then bif decide (([48] : List UInt8).length + x.length ≤ 9223372036854775807) then K (frRPr n sc ([48] ++ x)) else none else prFin x sc (decide (n < 0)) := by kernel_rfl
theorem rpr_loop (fu : Nat) (k : Nat) (hk : k ≤ 6) (v : Int) : ∀ (j n : Nat) (x : List UInt8), k + 1 ≤ x.length + j → j < n → x.length ≤ 100 → rprLoop fu n (frRPr v (k : Int) x) = some (.str ((bif decide (v < 0) then [45] else []) ++ dotS (padS x k) k))
  | j, 0, _, _, h, _ => by omega
  | j, n + 1, x, hj, hn, hx => by
    unfold rprLoop
    rw [loopF_succ, rpr_step]
    by_cases h : x.length ≤ k
    · rw [cond_t (decide_eq_true (by omega)), cond_t (decide_eq_true (by simp; omega))]
      have ih := rpr_loop fu k hk v (j - 1) n (48 :: x) (by simp; omega) (by omega) (by simp; omega)
      rw [pad_step h] at ih
      unfold rprLoop at ih
      exact ih
    · rw [cond_f (decide_eq_false (by omega)), prFin_eq (by omega) (by omega), pad_done (by omega)]
def p_RPrint : PFn := ⟨fun xs k => match xs with | [.int .i64 n, .int .i64 sc] => bif inI n then k (.str (prV n sc)) else none | _ => none, false⟩
theorem ok_RPrint : FOK NGd Wd 37 p_RPrint := by
  refine fok wokd (allOK_cons ok_Scale (allOK_cons ok_Digits allOK_nil)) (h := hRPr) Tryz.func37 rfl (by decide) ?_ ?_
  · intro R xs k
    simp only [p_RPrint]
    split
    · exact cond_nat
    · rfl
  · intro xs r h
    simp only [p_RPrint] at h
    split at h
    · rename_i n sc
      rcases hb : inI n with _ | _ <;> rw [hb] at h
      · cases h
      · simp only [cond_true, Option.some.injEq] at h
        subst h
        refine ⟨1000, (rpr_raw 1000 n sc).trans ?_⟩
        unfold prV
        cases hs : scaleB sc
        · rfl
        · rw [scaleB_iff] at hs
          rw [Bool.not_true, cond_false, cond_true, hb, cond_true]
          rw [inI_iff] at hb
          have f := (dS_facts (N := n.natAbs) (by omega)).2.2.2.1
          obtain ⟨k, rfl⟩ := Int.eq_ofNat_of_zero_le hs.1
          have := rpr_loop 1000 k (by omega) n 7 1000 (dS n.natAbs) (by omega) (by omega) (by omega)
          rw [Int.toNat_natCast]
          exact this
    · cases h

end Go.Proofs.YtllpobcecingiaaGreatDoor
