/-
  Keys by the evaluator: the document's order of values; the law KeysOrder.
-/
import Derived.Test.YtclhnfalebiieaaDoorKo1
import Derived.Test.YtclhnfalebiieaaDoorKo2
import Derived.Test.YtclhnfalebiieaaDoorKrun
set_option linter.unusedVariables false
set_option linter.unusedSimpArgs false
set_option maxRecDepth 100000
namespace Go.Proofs.YtclhnfalebiieaaDoor
open Go.RowKit

def cmV (x y : Val) : Int := bif (x.kind == 2 || x.kind == 3) && (y.kind == 2 || y.kind == 3) then dcmp x.n x.scale y.n y.scale else bif x.kind == 0 || !(x.kind == y.kind) then 0 else bif x.kind == 1 then numI x.n y.n else txtL x.s y.s
def cmB (x y : Val) : Bool := (x.kind == 2 || x.kind == 3) && (y.kind == 2 || y.kind == 3) || !(x.kind == 0 || !(x.kind == y.kind))
def okV (x : Val) : Bool := decide (x.s.length ≤ 1000000) && (inI x.n && right x)
theorem okV_iff {x : Val} : okV x = true ↔ x.s.length ≤ 1000000 ∧ inI x.n = true ∧ right x = true := by simp only [okV, Bool.and_eq_true, decide_eq_true_eq]
def txtO {R : Type} (s t : List UInt8) (K : Int → Option R) : Option R := bif decide (s.length ≤ 1000000) then K (txtL s t) else none
noncomputable def lC3 : List (FuncId × PFn) := [(13, p_plain), (54, p_RCompare), (39, p_numbers), (22, p_Texts)]
theorem ok_lC3 : AllOK NGk Tabs lC3 := allOK_cons ok_plain (allOK_cons ok_RCompare (allOK_cons ok_numbers (allOK_cons ok_Texts allOK_nil)))
def c3Body (a n c : Int) (s : List UInt8) (a' n' c' : Int) (s' : List UInt8) : Option PV :=
  bif (a == 2 || a == 3) && (a' == 2 || a' == 3) then bif inI n && inI n' then some (.tuple [.int .i64 (dcmp n c n' c'), .bool true]) else none
  else bif a == 0 || !(a == a') then some (.tuple [.int .i64 0, .bool false])
  else bif a == 1 then some (.tuple [.int .i64 (numI n n'), .bool true])
  else txtO s s' fun z => some (.tuple [.int .i64 z, .bool true])
theorem c3_raw (a n c : Int) (s : List UInt8) (a' n' c' : Int) (s' : List UInt8) : prun (en lC3) ⟨[], []⟩ 0 false Tryd.f38 [.agg [.int .i64 a, .int .i64 n, .int .i64 c, .str s], .agg [.int .i64 a', .int .i64 n', .int .i64 c', .str s']] =
    plainO s (plainO s' (c3Body (bif rightB a n c s then a else 0) (bif rightB a n c s then n else 0) (bif rightB a n c s then c else 0) (bif rightB a n c s then s else [])
      (bif rightB a' n' c' s' then a' else 0) (bif rightB a' n' c' s' then n' else 0) (bif rightB a' n' c' s' then c' else 0) (bif rightB a' n' c' s' then s' else []))) := by kernel_rfl
def p_C3 : PFn := ⟨fun xs k => match xs with | [.agg [.int .i64 a, .int .i64 n, .int .i64 c, .str s], .agg [.int .i64 a', .int .i64 n', .int .i64 c', .str s']] => bif okV ⟨a, n, c, s⟩ && okV ⟨a', n', c', s'⟩ then k (.tuple [.int .i64 (cmV ⟨a, n, c, s⟩ ⟨a', n', c', s'⟩), .bool (cmB ⟨a, n, c, s⟩ ⟨a', n', c', s'⟩)]) else none | _ => none, false⟩
theorem ok_C3 : FOK NGk Tabs 38 p_C3 := by
  refine fok wokk ok_lC3 (h := ⟨[], []⟩) Tryd.func38 rfl (by decide) ?_ ?_
  · intro R xs k
    simp only [p_C3]
    split
    · exact cond_nat
    · rfl
  · intro xs r h
    simp only [p_C3] at h
    split at h
    · rename_i a n c s a' n' c' s'
      rcases hb : (okV ⟨a, n, c, s⟩ && okV ⟨a', n', c', s'⟩) with _ | _ <;> rw [hb] at h
      · cases h
      · simp only [Bool.and_eq_true, okV_iff] at hb
        obtain ⟨⟨h1, h2, h3⟩, h4, h5, h6⟩ := hb
        have r1 : rightB a n c s = true := (right_B ⟨a, n, c, s⟩).trans h3
        have r2 : rightB a' n' c' s' = true := (right_B ⟨a', n', c', s'⟩).trans h6
        refine ⟨0, (c3_raw a n c s a' n' c' s').trans ?_⟩
        rw [← h, r1, r2, plainO, plainO, cond_t (decide_eq_true h1), cond_t (decide_eq_true h4)]
        simp only [cond_true]
        unfold c3Body cmV cmB txtO
        rw [show inI n = true from h2, show inI n' = true from h5, show decide (s.length ≤ 1000000) = true from decide_eq_true h1]
        simp only [Bool.and_self, cond_true]
        cases (a == 2 || a == 3) && (a' == 2 || a' == 3)
        · cases a == 0 || !(a == a')
          · cases a == 1 <;> rfl
          · rfl
        · rfl
    · cases h
/-! ## the order of values -/
noncomputable def lOr : List (FuncId × PFn) := [(13, p_plain), (38, p_C3), (39, p_numbers)]
theorem ok_lOr : AllOK NGk Tabs lOr := allOK_cons ok_plain (allOK_cons ok_C3 (allOK_cons ok_numbers allOK_nil))
def c3O (x y : Val) (K : Int → Bool → Option PV) : Option PV := bif okV x && okV y then K (cmV x y) (cmB x y) else none
def orBody (x y : Val) : Option PV :=
  c3O x y fun c ok => bif ok && !(c == 0) then some (.int .i64 c) else bif !ok || !(x.kind == y.kind) then some (.int .i64 (numI x.kind y.kind)) else some (.int .i64 (numI x.scale y.scale))
theorem or_raw (a n c : Int) (s : List UInt8) (a' n' c' : Int) (s' : List UInt8) : prun (en lOr) ⟨[], []⟩ 0 false Tryd.f21 [.agg [.int .i64 a, .int .i64 n, .int .i64 c, .str s], .agg [.int .i64 a', .int .i64 n', .int .i64 c', .str s']] =
    plainO s (plainO s' (orBody ⟨bif rightB a n c s then a else 0, bif rightB a n c s then n else 0, bif rightB a n c s then c else 0, bif rightB a n c s then s else []⟩
      ⟨bif rightB a' n' c' s' then a' else 0, bif rightB a' n' c' s' then n' else 0, bif rightB a' n' c' s' then c' else 0, bif rightB a' n' c' s' then s' else []⟩)) := by kernel_rfl
theorem dcmp_same {n n' s : Int} (hs : scaleB s = true) : dcmp n s n' s = numI n n' := by
  unfold dcmp
  rw [hs]
  simp only [Bool.and_self, cond_true]
  have ht := (tenI_le s).1
  generalize tenI s = t at ht
  rcases Int.lt_trichotomy n n' with h | h | h
  · rw [numI_lt h, cmpI_lt (Int.mul_lt_mul_of_pos_right h (by omega))]
  · rw [h, numI_self, cmpI_self]
  · rw [numI_gt h, cmpI_gt (Int.mul_lt_mul_of_pos_right h (by omega))]
theorem or_body {x y : Val} (hx : okV x = true) (hy : okV y = true) (hm : mates x y) : orBody x y = some (.int .i64 (ordV x y)) := by
  unfold orBody c3O
  rw [hx, hy]
  rw [okV_iff] at hx hy
  have kx := right_kind hx.2.2
  have ky := right_kind hy.2.2
  simp only [Bool.and_self, cond_true]
  unfold ordV cmB cmV
  by_cases hk : x.kind = y.kind
  · have hk' : (x.kind == y.kind) = true := by simpa using hk
    rw [if_neg (by simpa using hk), hk', ← hk]
    by_cases h0 : x.kind = 0
    · rw [h0]; rfl
    · have hs : x.scale = y.scale := by
        rcases hm with h | h | h
        · exact absurd h h0
        · rw [← hk] at h; exact absurd h h0
        · exact h.2
      have h0' : (x.kind == 0) = false := by simpa using h0
      rw [if_neg h0, h0', ← hs, numI_self]
      by_cases h1 : x.kind = 1
      · rw [if_pos (.inl h1), h1]
        simp only [Int.reduceBEq, Bool.or_self, Bool.and_self, cond_false, Bool.not_true, Bool.or_false, Bool.not_false, cond_true, Bool.true_and, Bool.false_or, Bool.or_true]
        by_cases hz : numI x.n y.n = 0
        · rw [hz, numI_self]; rfl
        · rw [cond_t (by simpa using hz)]
      · by_cases h23 : x.kind = 2 ∨ x.kind = 3
        · rw [if_pos (.inr h23)]
          have hsc : scaleB x.scale = true := by
            have hr := hx.2.2
            unfold right at hr
            rw [if_neg h0, if_neg h1] at hr
            rw [scaleB_iff]
            rcases h23 with h | h
            · rw [if_pos h] at hr
              simp only [decide_eq_true_eq] at hr
              omega
            · rw [if_neg (by omega), if_pos h] at hr
              simp only [decide_eq_true_eq] at hr
              omega
          have e : (x.kind == 2 || x.kind == 3) = true := by simpa using h23
          rw [e, dcmp_same hsc]
          simp only [Bool.and_self, cond_true, Bool.true_or, Bool.not_true, Bool.or_false, Bool.true_and, Bool.false_or, cond_false]
          by_cases hz : numI x.n y.n = 0
          · rw [hz, numI_self]; rfl
          · rw [cond_t (by simpa using hz)]
        · have e : (x.kind == 2 || x.kind == 3) = false := by simpa using h23
          have e1 : (x.kind == 1) = false := by simpa using h1
          rw [if_neg (by omega), e, e1]
          simp only [Bool.and_self, cond_false, Bool.not_true, Bool.or_false, Bool.not_false, Bool.true_and, Bool.false_or]
          by_cases hz : txtL x.s y.s = 0
          · rw [hz, numI_self]; rfl
          · rw [cond_t (by simpa using hz)]
  · have hk' : (x.kind == y.kind) = false := by simpa using hk
    have e : ((x.kind == 2 || x.kind == 3) && (y.kind == 2 || y.kind == 3)) = false := by
      rw [Bool.eq_false_iff]
      simp only [ne_eq, Bool.and_eq_true, Bool.or_eq_true, beq_iff_eq]
      rcases hm with h | h | h
      · omega
      · omega
      · exact absurd h.1 hk
    rw [if_pos hk, hk', e]
    simp
def matesB (x y : Val) : Bool := x.kind == 0 || (y.kind == 0 || (x.kind == y.kind && x.scale == y.scale))
theorem matesB_iff {x y : Val} : matesB x y = true ↔ mates x y := by simp only [matesB, mates, Bool.or_eq_true, Bool.and_eq_true, beq_iff_eq]
def p_Order : PFn := ⟨fun xs k => match xs with | [.agg [.int .i64 a, .int .i64 n, .int .i64 c, .str s], .agg [.int .i64 a', .int .i64 n', .int .i64 c', .str s']] => bif okV ⟨a, n, c, s⟩ && (okV ⟨a', n', c', s'⟩ && matesB ⟨a, n, c, s⟩ ⟨a', n', c', s'⟩) then k (.int .i64 (ordV ⟨a, n, c, s⟩ ⟨a', n', c', s'⟩)) else none | _ => none, false⟩
theorem ok_Order : FOK NGk Tabs 21 p_Order := by
  refine fok wokk ok_lOr (h := ⟨[], []⟩) Tryd.func21 rfl (by decide) ?_ ?_
  · intro R xs k
    simp only [p_Order]
    split
    · exact cond_nat
    · rfl
  · intro xs r h
    simp only [p_Order] at h
    split at h
    · rename_i a n c s a' n' c' s'
      rcases hb : (okV ⟨a, n, c, s⟩ && (okV ⟨a', n', c', s'⟩ && matesB ⟨a, n, c, s⟩ ⟨a', n', c', s'⟩)) with _ | _ <;> rw [hb] at h
      · cases h
      · simp only [Bool.and_eq_true, matesB_iff] at hb
        obtain ⟨h1, h2, hm⟩ := hb
        have h1' := okV_iff.1 h1
        have h2' := okV_iff.1 h2
        have r1 : rightB a n c s = true := (right_B ⟨a, n, c, s⟩).trans h1'.2.2
        have r2 : rightB a' n' c' s' = true := (right_B ⟨a', n', c', s'⟩).trans h2'.2.2
        refine ⟨0, (or_raw a n c s a' n' c' s').trans ?_⟩
        rw [← h, r1, r2, plainO, plainO, cond_t (decide_eq_true h1'.1), cond_t (decide_eq_true h2'.1)]
        simp only [cond_true]
        exact or_body h1 h2 hm
    · cases h
/-! ## KeysOrder -/
noncomputable def lKo : List (FuncId × PFn) := [(10, p_first), (11, p_long), (20, p_rightV), (21, p_Order), (12, p_KeysPut), (22, p_Texts)]
theorem ok_lKo : AllOK NGk Tabs lKo := allOK_cons ok_first (allOK_cons ok_long (allOK_cons ok_rightR (allOK_cons ok_Order (allOK_cons ok_KeysPut (allOK_cons ok_Texts allOK_nil)))))
def hKo : Hints := ⟨[], [(0, ⟨[(0, false), (1, false), (5, false), (28, false), (29, false)], []⟩)]⟩
def frKo (n0 : Option Bool) (l0 : Nat) (c0 : List PV) (n1 : Option Bool) (l1 : Nat) (c1 : List PV) (c L i : Int) : St :=
  frame 109 [(0, (.sl n0 4 l0 c0, 0)), (1, (.sl n1 4 l1 c1, 0)), (5, (.int .i64 c, 0)), (28, (.int .i64 L, 0)), (29, (.int .i64 i, 0))] []
noncomputable def koLoop (fu n : Nat) (st : St) : Option PV := loopF (en lKo) hKo fu false Tryd.f5 [1, 1, 1, 1, 0, 1, 0] 0 n st
theorem ko_raw (fu : Nat) (n0 : Option Bool) (l0 : Nat) (c0 : List PV) (n1 : Option Bool) (l1 : Nat) (c1 : List PV) : prun (en lKo) hKo fu false Tryd.f5 [.sl n0 4 l0 c0, .sl n1 4 l1 c1] =
    longO l0 c0 fun b => bif !b then longO l1 c1 fun b => bif !b then bif !((l0 : Int) == (l1 : Int)) then some (.bool true) else koLoop fu fu (frKo n0 l0 c0 n1 l1 c1 0 (l0 : Int) 0) else some (.bool true) else some (.bool true) := prunN_eq.trans (by kernel_rfl)
def rightO {R : Type} (a n c : Int) (s : List UInt8) (K : Bool → Option R) : Option R := bif decide (s.length ≤ 1000000) then K (rightB a n c s) else none
def ordO {R : Type} (x y : Val) (K : Int → Option R) : Option R := bif okV x && (okV y && matesB x y) then K (ordV x y) else none
def minL (p q : List UInt8) : Int := if (q.length : Int) < (p.length : Int) then (q.length : Int) else (p.length : Int)
def koEnd (l0 : Nat) (c0 : List PV) (l1 : Nat) (c1 : List PV) (c : Int) : Option PV :=
  putO l0 c0 fun p => (pbytes (bC p)).bind fun v => putO l1 c1 fun q => (pbytes (bC q)).bind fun w => txtO v w fun z => bif !(z == c) then some (.bool false) else
    bif !(c == 0) then bif decide (0 ≤ minL v w) && decide (minL v w ≤ (v.length : Int)) then bif decide (0 ≤ minL v w) && decide (minL v w ≤ (w.length : Int)) then some (.bool !((v.take (minL v w).toNat).drop 0 == (w.take (minL v w).toNat).drop 0)) else none else none
    else some (.bool true)
theorem ko_step (fu : Nat) (n0 : Option Bool) (l0 : Nat) (c0 : List PV) (n1 : Option Bool) (l1 : Nat) (c1 : List PV) (c L i : Int) (K : St → Option PV) :
    stepF (en lKo) hKo fu false Tryd.f5 [1, 1, 1, 1, 0, 1, 0] (frKo n0 l0 c0 n1 l1 c1 c L i) (fun st => pnorm (hKo.loop.lookup 0) st K) =
    bif decide (i < L) then ixV l0 c0 i fun a n b s => rightO a n b s fun g => bif !!g then ixV l1 c1 i fun a n b s => rightO a n b s fun g => bif !g then some (.bool true) else
      ixV l0 c0 i fun a n b s => ixV l1 c1 i fun a' n' b' s' => bif !(a == 0) && !(a' == 0) && (!(a == a') || !(b == b')) then some (.bool true) else
        bif c == 0 then ordO ⟨a, n, b, s⟩ ⟨a', n', b', s'⟩ fun z => K (frKo n0 l0 c0 n1 l1 c1 z L (IntKind.i64.wrap (i + 1))) else K (frKo n0 l0 c0 n1 l1 c1 c L (IntKind.i64.wrap (i + 1)))
      else some (.bool true)
    else koEnd l0 c0 l1 c1 c := by kernel_rfl
theorem ko_end {a b : List Val} (hl : a.length = b.length) (h20 : a.length ≤ 20) (hg : ∀ (i : Nat) (x y : Val), a[i]? = some x → b[i]? = some y → Good x y) :
    koEnd a.length (valsC a) b.length (valsC b) (cL a b) = some (.bool true) := by
  have e1 := encs_length a
  have e2 := encs_length b
  unfold koEnd txtO
  rw [putO_eq (by omega), pbytes_bC]
  simp only [Option.bind_some]
  rw [putO_eq (by omega), pbytes_bC]
  simp only [Option.bind_some]
  rw [cond_t (decide_eq_true (by omega))]
  rcases encs_dif a b hl hg with ⟨rfl, h0⟩ | hd
  · rw [txt_self, h0]; rfl
  · have hne := hd.ne
    have hm : minL (encs a) (encs b) = ((min (encs a).length (encs b).length : Nat) : Int) := by unfold minL; split <;> omega
    rw [hd.txt, cond_f (by simp), cond_t (by simpa using hne), hm, cond_t (by rw [decide_eq_true (by omega), decide_eq_true (by omega)]; rfl), cond_t (by rw [decide_eq_true (by omega), decide_eq_true (by omega)]; rfl), Int.toNat_natCast, List.drop_zero, List.drop_zero]
    have := hd.take rfl
    simp [this]
theorem ko_loop (fu : Nat) (n0 n1 : Option Bool) (a b : List Val) (hl : a.length = b.length) (ha : ∀ x ∈ a, x.in64) (hb : ∀ x ∈ b, x.in64) (h20 : a.length ≤ 20) (hs : ∀ x ∈ a, x.s.length ≤ 500) (hs' : ∀ x ∈ b, x.s.length ≤ 500) :
    ∀ (k i n : Nat), i + k = a.length → k < n → (∀ (j : Nat) (x y : Val), j < i → a[j]? = some x → b[j]? = some y → Good x y) →
    koLoop fu n (frKo n0 a.length (valsC a) n1 b.length (valsC b) (cL (a.take i) (b.take i)) (a.length : Int) (i : Int)) = some (.bool true)
  | k, i, 0, _, h, _ => by omega
  | 0, i, n + 1, hi, hn, hg => by
    unfold koLoop
    rw [loopF_succ, ko_step, cond_f (decide_eq_false (by omega)), List.take_of_length_le (by omega), List.take_of_length_le (by omega)]
    refine ko_end hl h20 fun j x y hx hy => hg j x y ?_ hx hy
    have := (List.getElem?_eq_some_iff.1 hx).1
    omega
  | k + 1, i, n + 1, hi, hn, hg => by
    have hx := List.getElem?_eq_getElem (l := a) (i := i) (by omega)
    have hy := List.getElem?_eq_getElem (l := b) (i := i) (by omega)
    have ix := ha a[i] (List.getElem_mem _)
    have iy := hb b[i] (List.getElem_mem _)
    have sx := hs a[i] (List.getElem_mem _)
    have sy := hs' b[i] (List.getElem_mem _)
    have ih := ko_loop fu n0 n1 a b hl ha hb h20 hs hs' k (i + 1) n (by omega) (by omega)
    rw [List.take_add_one, hx, List.take_add_one, hy, Option.toList_some, Option.toList_some, cL_snoc _ _ _ _ (by rw [List.length_take, List.length_take]; omega)] at ih
    unfold koLoop at ih ⊢
    rw [loopF_succ, ko_step, cond_t (decide_eq_true (by omega)), ixV_eq hx, ixV_eq hy, ixV_eq hx, ixV_eq hy]
    generalize a[i] = x at *
    generalize b[i] = y at *
    unfold rightO
    rw [cond_t (decide_eq_true (by omega)), cond_t (decide_eq_true (by omega)), right_B, right_B]
    rcases hr : right x with _ | _
    · rfl
    · rcases hr' : right y with _ | _
      · rfl
      · simp only [Bool.not_true, Bool.not_false, cond_true, cond_false]
        rcases hmm : (!(x.kind == 0) && !(y.kind == 0) && (!(x.kind == y.kind) || !(x.scale == y.scale))) with _ | _
        · have hm : matesB x y = true := by
            have key : ∀ p q r s : Bool, (!p && !q && (!r || !s)) = false → (p || (q || (r && s))) = true := by decide
            exact key _ _ _ _ hmm
          have gx : okV x = true := okV_iff.2 ⟨by omega, inI_iff.2 ix, hr⟩
          have gy : okV y = true := okV_iff.2 ⟨by omega, inI_iff.2 iy, hr'⟩
          have hgood : Good x y := ⟨hr, hr', ix, iy, matesB_iff.1 hm⟩
          have ih := ih (fun j u v hj hu hv => by
            by_cases hji : j = i
            · subst hji
              rw [hx] at hu
              rw [hy] at hv
              injection hu with hu
              injection hv with hv
              subst hu hv
              exact hgood
            · exact hg j u v (by omega) hu hv)
          unfold ordO
          rw [cond_false, cond_t (show (okV ⟨x.kind, x.n, x.scale, x.s⟩ && (okV ⟨y.kind, y.n, y.scale, y.s⟩ && matesB ⟨x.kind, x.n, x.scale, x.s⟩ ⟨y.kind, y.n, y.scale, y.s⟩)) = true by rw [show okV ⟨x.kind, x.n, x.scale, x.s⟩ = true from gx, show okV ⟨y.kind, y.n, y.scale, y.s⟩ = true from gy, show matesB ⟨x.kind, x.n, x.scale, x.s⟩ ⟨y.kind, y.n, y.scale, y.s⟩ = true from hm]; rfl), wrapI_of (by omega) (by omega)]
          by_cases hc : cL (a.take i) (b.take i) = 0
          · rw [cond_t (by simpa using hc)]
            rw [if_pos hc] at ih
            exact ih
          · rw [cond_f (by simpa using hc)]
            rw [if_neg hc] at ih
            exact ih
        · rfl
theorem keysOrderLaw (W : World) (A1 A2 : Option Addr) (n1 c1 n2 c2 : Nat) (l1 l2 : List Val) (hs1 : Sl W 4 A1 n1 c1 (vcs l1)) (hs2 : Sl W 4 A2 n2 c2 (vcs l2)) (h01 : A1 = none → c1 = 0) (h02 : A2 = none → c2 = 0) (h1 : ∀ x ∈ l1, x.in64) (h2 : ∀ x ∈ l2, x.in64) (hT : Tabs W) :
    Calls Tryd.prog 5 #[.slice A1 n1 c1, .slice A2 n2 c2] W fun e W' => e = .returned (.bool true) ∧ Below W.heap.size W W' := by
  obtain ⟨B1, hB1⟩ := sl_rel hs1 h01 (fun M => rel_vals M l1)
  obtain ⟨B2, hB2⟩ := sl_rel hs2 h02 (fun M => rel_vals M l2)
  obtain rfl := sl_len4 hs1
  obtain rfl := sl_len4 hs2
  refine law_run (vs := [.slice A1 l1.length c1, .slice A2 l2.length c2]) (xs := [.sl none 4 l1.length (valsC l1), .sl none 4 l2.length (valsC l2)]) (U := fun _ => B1 + B2) (fuel := l1.length + 1) (h := hKo) wokk ok_lKo Tryd.func5 hT (tabs_size hT)
    ⟨_, _, rfl, hB1 _ (fun _ => Nat.le_add_right _ _), _, _, rfl, hB2 _ (fun _ => Nat.le_add_left _ _), rfl⟩ ?_
  rw [ko_raw, longO_eq]
  rcases hlo : longB l1 with _ | _
  · obtain ⟨g1, g2⟩ := longB_not' hlo
    rw [Bool.not_false, cond_true, longO_eq]
    rcases hlo' : longB l2 with _ | _
    · obtain ⟨g3, g4⟩ := longB_not' hlo'
      rw [Bool.not_false, cond_true]
      by_cases hl : l1.length = l2.length
      · rw [cond_f (by simp [hl])]
        exact ko_loop _ none none l1 l2 hl h1 h2 g1 g2 g4 l1.length 0 _ (by omega) (by omega) (fun j x y hj => by omega)
      · rw [cond_t (by simp only [Bool.not_eq_true', beq_eq_false_iff_ne]; omega)]
    · rfl
  · rfl
end Go.Proofs.YtclhnfalebiieaaDoor
