/-
  Keys by the evaluator: Get, the reference's Put, Same; the law KeysPuts.
-/
import Derived.Test.YtclhnfalebiieaaDoorKy
import Derived.Test.YtclhnfalebiieaaDoorLawCode
set_option linter.unusedVariables false
set_option linter.unusedSimpArgs false
namespace Go.Proofs.YtclhnfalebiieaaDoor
open Go.RowKit

theorem valsC_snoc (vs : List Val) (v : Val) : valsC vs ++ V4.cs v = valsC (vs ++ [v]) := by simp [valsC]
def roomV {R : Type} (l m : Nat) (x : Option R) : Option R := bif decide (l + m ≤ 9223372036854775807) && decide ((l + m) * 40 ≤ 140737488355328) then x else none
theorem roomV_eq {R : Type} {l m : Nat} {x : Option R} (h : l + m ≤ 2000000) : roomV l m x = x := by
  unfold roomV
  exact cond_t (by rw [decide_eq_true (by omega), decide_eq_true (by omega)]; rfl)
/-! ## Get -/
def nextO {R : Type} (n : Nat) (c : List PV) (K : List UInt8 → Option R) : Option R := (decY n c).bind fun l => bif decide (l.length ≤ 1000000) then K l else none
theorem nextO_eq {R : Type} {l : List UInt8} {K : List UInt8 → Option R} (h : l.length ≤ 1000000) : nextO l.length (bC l) K = K l := by
  unfold nextO
  rw [decY_bC]
  exact cond_t (decide_eq_true h)
def hGe : Hints := ⟨[], [(0, ⟨[(0, false), (4, true)], []⟩)]⟩
def frGe (n0 : Option Bool) (l0 : Nat) (c0 : List PV) (n4 : Option Bool) (l4 : Nat) (c4 : List PV) : St := frame 25 [(0, (.sl n0 1 l0 c0, 0)), (4, (.sl n4 4 l4 c4, 31))] []
noncomputable def lGe : List (FuncId × PFn) := [(18, p_KeysNext)]
noncomputable def geLoop (fu n : Nat) (st : St) : Option PV := loopF (en lGe) hGe fu false Tryd.f14 [1, 1, 0, 0] 0 n st
theorem ge_raw (fu : Nat) (n0 : Option Bool) (l0 : Nat) (c0 : List PV) : prun (en lGe) hGe fu false Tryd.f14 [.sl n0 1 l0 c0] = geLoop fu fu (frGe n0 l0 c0 (some true) 0 []) := by kernel_rfl
theorem ge_step (fu : Nat) (n0 : Option Bool) (l0 : Nat) (c0 : List PV) (n4 : Option Bool) (l4 : Nat) (c4 : List PV) (K : St → Option PV) :
    stepF (en lGe) hGe fu false Tryd.f14 [1, 1, 0, 0] (frGe n0 l0 c0 n4 l4 c4) (fun st => pnorm (hGe.loop.lookup 0) st K) =
    bif decide (0 < (l0 : Int)) then nextO l0 c0 fun l => bif !(nextV l).isSome then some (.tuple [.sl (some true) 4 0 [], .bool false]) else
      roomV l4 1 (K (frGe none (nxR (nextV l)).length (bC (nxR (nextV l))) (n4.map (· && false)) (l4 + 1) (c4 ++ [.int .i64 (nxA (nextV l)).kind, .int .i64 (nxA (nextV l)).n, .int .i64 (nxA (nextV l)).scale, .str (nxA (nextV l)).s])))
    else some (.tuple [.sl n4 4 l4 c4, .bool true]) := by kernel_rfl
/-- a list of values and whether there is one -/
def gtV (vs : List Val) (b : Bool) : PV := .tuple [.sl (some vs.isEmpty) 4 vs.length (valsC vs), .bool b]
theorem ge_loop (fu : Nat) : ∀ (k : Nat) (l : List UInt8) (n : Nat) (n0 : Option Bool) (acc : List Val), l.length ≤ k → k < n → k ≤ 1000000 → acc.length + k ≤ 1000000 →
    geLoop fu n (frGe n0 l.length (bC l) (some acc.isEmpty) acc.length (valsC acc)) = some (match getV l with | none => gtV [] false | some vs => gtV (acc ++ vs) true)
  | k, l, 0, _, _, _, h, _, _ => by omega
  | k, [], n + 1, n0, acc, hl, hn, hk, ha => by
    unfold geLoop
    rw [loopF_succ, ge_step, cond_f (decide_eq_false (by simp))]
    simp only [getV_nil, List.append_nil]
    rfl
  | 0, b :: l, n + 1, n0, acc, hl, hn, hk, ha => by simp at hl
  | k + 1, b :: l, n + 1, n0, acc, hl, hn, hk, ha => by
    unfold geLoop
    rw [loopF_succ, ge_step, cond_t (decide_eq_true (by simp only [List.length_cons]; omega)), nextO_eq (by omega), getV_step (by simp)]
    rcases hv : nextV (b :: l) with _ | ⟨x, r⟩
    · rfl
    · have hr := nextV_len hv
      simp only [Option.isSome_some, Bool.not_true, cond_false, nxR, nxA, Option.elim_some]
      rw [roomV_eq (by omega)]
      have e := valsC_snoc acc x
      unfold V4.cs at e
      rw [e]
      have ih := ge_loop fu k r n none (acc ++ [x]) (by simp only [List.length_cons] at hl hr; omega) (by omega) (by omega) (by simp; omega)
      unfold geLoop at ih
      rw [List.length_append, show (acc ++ [x]).isEmpty = false by cases acc <;> rfl] at ih
      simp only [Option.map_some, Bool.and_false]
      refine ih.trans ?_
      rcases getV r with _ | vs
      · rfl
      · simp only [Option.map_some, List.append_assoc, List.singleton_append]
def p_KeysGet : PFn := ⟨fun xs k => match xs with | [.sl _ 1 n c] => (decY n c).bind fun l => bif decide (l.length ≤ 1000000) then k (gtV ((getV l).getD []) (getV l).isSome) else none | _ => none, false⟩
theorem ok_lGe : AllOK NGk Tabs lGe := allOK_cons ok_KeysNext allOK_nil
theorem ok_KeysGet : FOK NGk Tabs 14 p_KeysGet := by
  refine fok wokk ok_lGe (h := hGe) Tryd.func14 rfl (by decide) ?_ ?_
  · intro R xs k
    simp only [p_KeysGet]
    split
    · exact bindY_nat
    · rfl
  · intro xs r h
    simp only [p_KeysGet] at h
    split at h
    · rename_i nl n c
      obtain ⟨l, h1, hg, rfl⟩ := bindY_inv h
      obtain ⟨rfl, rfl⟩ := decY_inv h1
      simp only [decide_eq_true_eq] at hg
      refine ⟨l.length + 1, (ge_raw _ nl _ _).trans ?_⟩
      refine (ge_loop (l.length + 1) l.length l _ nl [] (Nat.le_refl _) (by omega) hg (by simpa using hg)).trans ?_
      rcases getV l with _ | vs <;> rfl
    · cases h
/-! ## the reference's Put -/
def oneO {R : Type} (a n c : Int) (s : List UInt8) (K : List UInt8 → Option R) : Option R := bif decide (s.length ≤ 1000000) then K (enc ⟨a, n, c, s⟩) else none
def hRp : Hints := ⟨[], [(0, ⟨[(3, false), (6, false), (7, false), (8, false)], []⟩)]⟩
def frRp (s : List UInt8) (n0 : Option Bool) (l0 : Nat) (c0 : List PV) (L i : Int) : St := frame 18 [(3, (.str s, 0)), (6, (.sl n0 4 l0 c0, 0)), (7, (.int .i64 L, 0)), (8, (.int .i64 i, 0))] []
noncomputable def lRp : List (FuncId × PFn) := [(32, p_One)]
noncomputable def rpLoop (fu n : Nat) (st : St) : Option PV := loopF (en lRp) hRp fu false Tryd.f15 [1, 1, 0, 1, 0] 0 n st
theorem rp_raw (fu : Nat) (n0 : Option Bool) (l0 : Nat) (c0 : List PV) : prun (en lRp) hRp fu false Tryd.f15 [.sl n0 4 l0 c0] = rpLoop fu fu (frRp [] n0 l0 c0 (l0 : Int) 0) := by kernel_rfl
theorem rp_step (fu : Nat) (s : List UInt8) (n0 : Option Bool) (l0 : Nat) (c0 : List PV) (L i : Int) (K : St → Option PV) :
    stepF (en lRp) hRp fu false Tryd.f15 [1, 1, 0, 1, 0] (frRp s n0 l0 c0 L i) (fun st => pnorm (hRp.loop.lookup 0) st K) =
    bif decide (i < L) then ixV l0 c0 i fun a n b t => oneO a n b t fun y => catO s y (K (frRp (s ++ y) n0 l0 c0 L (IntKind.i64.wrap (i + 1)))) else some (.str s) := by kernel_rfl
theorem rp_loop (fu : Nat) (n0 : Option Bool) (vs : List Val) (hvs : vs.length ≤ 100000) (hs : ∀ v ∈ vs, v.s.length ≤ 1000000) : ∀ (k i n : Nat), i + k = vs.length → k < n →
    rpLoop fu n (frRp (encs (vs.take i)) n0 vs.length (valsC vs) (vs.length : Int) (i : Int)) = some (.str (encs vs))
  | k, i, 0, _, h => by omega
  | 0, i, n + 1, hi, hn => by
    unfold rpLoop
    rw [loopF_succ, rp_step, cond_f (decide_eq_false (by omega)), List.take_of_length_le (by omega)]
  | k + 1, i, n + 1, hi, hn => by
    unfold rpLoop
    have hc := List.getElem?_eq_getElem (l := vs) (i := i) (by omega)
    have hsv := hs vs[i] (List.getElem_mem _)
    have ih := rp_loop fu n0 vs hvs hs k (i + 1) n (by omega) (by omega)
    have e : encs (vs.take (i + 1)) = encs (vs.take i) ++ enc vs[i] := by
      rw [List.take_add_one, hc, Option.toList_some, encs, List.flatMap_append]
      simp [encs]
    rw [loopF_succ, rp_step, cond_t (decide_eq_true (by omega)), ixV_eq hc, oneO, cond_t (decide_eq_true hsv)]
    have h1 := encs_length (vs.take i)
    have h2 := enc_length vs[i]
    rw [List.length_take] at h1
    rw [catO_eq (by show (encs (vs.take i)).length + (enc vs[i]).length ≤ _; omega), wrapI_of (by omega) (by omega)]
    unfold rpLoop at ih
    rw [e] at ih
    exact ih
def p_RPut : PFn := ⟨fun xs k => match xs with | [.sl _ 4 n c] => (decV n c).bind fun vs => bif decide (vs.length ≤ 100000) && vs.all (fun v => decide (v.s.length ≤ 1000000)) then k (.str (encs vs)) else none | _ => none, false⟩
theorem ok_RPut : FOK NGk Tabs 15 p_RPut := by
  refine fok wokk (allOK_cons ok_One allOK_nil) (h := hRp) Tryd.func15 rfl (by decide) ?_ ?_
  · intro R xs k
    simp only [p_RPut]
    split
    · exact bindV_nat
    · rfl
  · intro xs r h
    simp only [p_RPut] at h
    split at h
    · rename_i nl n c
      obtain ⟨vs, h1, hg, rfl⟩ := bindV_inv h
      obtain ⟨rfl, rfl⟩ := decV_inv h1
      simp only [Bool.and_eq_true, decide_eq_true_eq, List.all_eq_true] at hg
      exact ⟨vs.length + 1, (rp_raw _ nl _ _).trans (rp_loop _ nl vs hg.1 hg.2 vs.length 0 _ (by omega) (by omega))⟩
    · cases h
/-! ## Same -/
def hSa : Hints := ⟨[], [(0, ⟨[(0, false), (1, false), (12, false), (13, false)], []⟩)]⟩
def frSa (n0 : Option Bool) (l0 : Nat) (c0 : List PV) (n1 : Option Bool) (l1 : Nat) (c1 : List PV) (L i : Int) : St :=
  frame 26 [(0, (.sl n0 4 l0 c0, 0)), (1, (.sl n1 4 l1 c1, 0)), (12, (.int .i64 L, 0)), (13, (.int .i64 i, 0))] []
noncomputable def saLoop (fu n : Nat) (st : St) : Option PV := loopF (en []) hSa fu false Tryd.f16 [1, 1, 0, 1, 0] 0 n st
theorem sa_raw (fu : Nat) (n0 : Option Bool) (l0 : Nat) (c0 : List PV) (n1 : Option Bool) (l1 : Nat) (c1 : List PV) : prun (en []) hSa fu false Tryd.f16 [.sl n0 4 l0 c0, .sl n1 4 l1 c1] =
    bif !((l0 : Int) == (l1 : Int)) then some (.bool false) else saLoop fu fu (frSa n0 l0 c0 n1 l1 c1 (l0 : Int) 0) := by kernel_rfl
theorem sa_step (fu : Nat) (n0 : Option Bool) (l0 : Nat) (c0 : List PV) (n1 : Option Bool) (l1 : Nat) (c1 : List PV) (L i : Int) (K : St → Option PV) :
    stepF (en []) hSa fu false Tryd.f16 [1, 1, 0, 1, 0] (frSa n0 l0 c0 n1 l1 c1 L i) (fun st => pnorm (hSa.loop.lookup 0) st K) =
    bif decide (i < L) then ixV l0 c0 i fun a n b s => ixV l1 c1 i fun a' n' b' s' => bif !eq4 a a' n n' b b' s s' then some (.bool false) else K (frSa n0 l0 c0 n1 l1 c1 L (IntKind.i64.wrap (i + 1)))
    else some (.bool true) := by kernel_rfl
theorem eq4_val (v u : Val) : eq4 v.kind u.kind v.n u.n v.scale u.scale v.s u.s = decide (v = u) := by
  unfold eq4
  rw [Bool.eq_iff_iff]
  simp only [Bool.and_eq_true, beq_iff_eq, and_true, decide_eq_true_eq]
  constructor
  · rintro ⟨h1, h2, h3, h4⟩; exact Val.ext' h1 h2 h3 h4
  · rintro rfl; exact ⟨rfl, rfl, rfl, rfl⟩
theorem sa_loop (fu : Nat) (n0 n1 : Option Bool) (vs us : List Val) (hl : vs.length = us.length) (h1 : vs.length ≤ 2000000) : ∀ (k i n : Nat), i + k = vs.length → k < n →
    saLoop fu n (frSa n0 vs.length (valsC vs) n1 us.length (valsC us) (vs.length : Int) (i : Int)) = some (.bool (decide (vs.drop i = us.drop i)))
  | k, i, 0, _, h => by omega
  | 0, i, n + 1, hi, hn => by
    unfold saLoop
    rw [loopF_succ, sa_step, cond_f (decide_eq_false (by omega)), List.drop_of_length_le (by omega), List.drop_of_length_le (by omega)]
    rfl
  | k + 1, i, n + 1, hi, hn => by
    unfold saLoop
    have hc := List.getElem?_eq_getElem (l := vs) (i := i) (by omega)
    have hd := List.getElem?_eq_getElem (l := us) (i := i) (by omega)
    have ih := sa_loop fu n0 n1 vs us hl h1 k (i + 1) n (by omega) (by omega)
    rw [loopF_succ, sa_step, cond_t (decide_eq_true (by omega)), ixV_eq hc, ixV_eq hd, eq4_val, wrapI_of (by omega) (by omega), List.drop_eq_getElem_cons (show i < vs.length by omega), List.drop_eq_getElem_cons (show i < us.length by omega)]
    by_cases hx : vs[i] = us[i]
    · rw [decide_eq_true hx, hx]
      unfold saLoop at ih
      refine ih.trans ?_
      simp only [List.cons.injEq, true_and]
    · rw [decide_eq_false hx]
      simp only [List.cons.injEq, hx, false_and, decide_false]
      rfl
def p_Same : PFn := ⟨fun xs k => match xs with | [.sl _ 4 n c, .sl _ 4 m d] => (decV n c).bind fun vs => (decV m d).bind fun us => bif decide (vs.length ≤ 2000000) then k (.bool (decide (vs = us))) else none | _ => none, false⟩
theorem ok_Same : FOK NGk Tabs 16 p_Same := by
  refine fok wokk allOK_nil (h := hSa) Tryd.func16 rfl (by decide) ?_ ?_
  · intro R xs k
    simp only [p_Same]
    split
    · rename_i n c _ m d
      cases decV n c with
      | none => rfl
      | some vs => exact bindV_nat (g := fun _ => decide (vs.length ≤ 2000000)) (v := fun us => .bool (decide (vs = us)))
    · rfl
  · intro xs r h
    simp only [p_Same] at h
    split at h
    · rename_i nl n c nl' m d
      obtain ⟨vs, h1, h⟩ := Option.bind_eq_some_iff.1 h
      obtain ⟨us, h2, hg, rfl⟩ := bindV_inv (g := fun _ => decide (vs.length ≤ 2000000)) (v := fun us => .bool (decide (vs = us))) h
      obtain ⟨rfl, rfl⟩ := decV_inv h1
      obtain ⟨rfl, rfl⟩ := decV_inv h2
      simp only [decide_eq_true_eq] at hg
      refine ⟨vs.length + 1, (sa_raw _ nl _ _ nl' _ _).trans ?_⟩
      by_cases hl : vs.length = us.length
      · rw [cond_f (by simp [hl])]
        exact (sa_loop _ nl nl' vs us hl hg vs.length 0 _ (by omega) (by omega)).trans rfl
      · rw [cond_t (by simp only [Bool.not_eq_true', beq_eq_false_iff_ne]; omega)]
        rw [decide_eq_false (fun e => hl (by rw [e]))]
    · cases h
/-! ## KeysPuts -/
def hKp : Hints := ⟨[], [(0, ⟨[(0, false), (3, false), (4, true), (15, false), (16, false), (17, false)], []⟩)]⟩
def frKp (n0 : Option Bool) (l0 : Nat) (c0 : List PV) (n3 : Option Bool) (l3 : Nat) (c3 : List PV) (n4 : Option Bool) (l4 : Nat) (c4 : List PV) (n5 : Option Bool) (l5 : Nat) (c5 : List PV) (L i : Int) : St :=
  frame 45 [(0, (.sl n0 4 l0 c0, 0)), (3, (.sl n3 1 l3 c3, 0)), (4, (.sl n4 4 l4 c4, 51)), (15, (.sl n5 4 l5 c5, 0)), (16, (.int .i64 L, 0)), (17, (.int .i64 i, 0))] []
noncomputable def lKp : List (FuncId × PFn) := [(10, p_first), (11, p_long), (12, p_KeysPut), (13, p_plain), (14, p_KeysGet), (15, p_RPut), (16, p_Same)]
theorem ok_lKp : AllOK NGk Tabs lKp := allOK_cons ok_first (allOK_cons ok_long (allOK_cons ok_KeysPut (allOK_cons ok_plain (allOK_cons ok_KeysGet (allOK_cons ok_RPut (allOK_cons ok_Same allOK_nil))))))
noncomputable def kpLoop (fu n : Nat) (st : St) : Option PV := loopF (en lKp) hKp fu false Tryd.f3 [1, 1, 1, 1, 1, 0, 1, 0] 0 n st
def longO {R : Type} (n : Nat) (c : List PV) (K : Bool → Option R) : Option R := (decV n c).bind fun vs => bif true then K (longB vs) else none
def putO {R : Type} (n : Nat) (c : List PV) (K : List UInt8 → Option R) : Option R := (decV n c).bind fun vs => bif decide (vs.length ≤ 100000) then K (encs vs) else none
def rputO {R : Type} (n : Nat) (c : List PV) (K : List UInt8 → Option R) : Option R := (decV n c).bind fun vs => bif decide (vs.length ≤ 100000) && vs.all (fun v => decide (v.s.length ≤ 1000000)) then K (encs vs) else none
def getO {R : Type} (n : Nat) (c : List PV) (K : Option (List Val) → Option R) : Option R := (decY n c).bind fun l => bif decide (l.length ≤ 1000000) then K (getV l) else none
def sameO {R : Type} (n : Nat) (c : List PV) (m : Nat) (d : List PV) (K : Bool → Option R) : Option R := (decV n c).bind fun vs => (decV m d).bind fun us => bif decide (vs.length ≤ 2000000) then K (decide (vs = us)) else none
def plainO {R : Type} (s : List UInt8) (k : Option R) : Option R := bif decide (s.length ≤ 1000000) then k else none
theorem longO_eq {R : Type} {vs : List Val} {K : Bool → Option R} : longO vs.length (valsC vs) K = K (longB vs) := by unfold longO; rw [decV_vals]; rfl
theorem putO_eq {R : Type} {vs : List Val} {K : List UInt8 → Option R} (h : vs.length ≤ 100000) : putO vs.length (valsC vs) K = K (encs vs) := by
  unfold putO; rw [decV_vals]; exact cond_t (decide_eq_true h)
theorem rputO_eq {R : Type} {vs : List Val} {K : List UInt8 → Option R} (h : vs.length ≤ 100000) (hs : ∀ v ∈ vs, v.s.length ≤ 1000000) : rputO vs.length (valsC vs) K = K (encs vs) := by
  unfold rputO; rw [decV_vals]; exact cond_t (by rw [decide_eq_true h, Bool.true_and, List.all_eq_true]; exact fun v hv => decide_eq_true (hs v hv))
theorem getO_eq {R : Type} {l : List UInt8} {K : Option (List Val) → Option R} (h : l.length ≤ 1000000) : getO l.length (bC l) K = K (getV l) := by
  unfold getO; rw [decY_bC]; exact cond_t (decide_eq_true h)
theorem sameO_eq {R : Type} {vs us : List Val} {K : Bool → Option R} (h : vs.length ≤ 2000000) : sameO vs.length (valsC vs) us.length (valsC us) K = K (decide (vs = us)) := by
  unfold sameO; rw [decV_vals, decV_vals]; exact cond_t (decide_eq_true h)
theorem kp_raw (fu : Nat) (n0 : Option Bool) (l0 : Nat) (c0 : List PV) : prun (en lKp) hKp fu false Tryd.f3 [.sl n0 4 l0 c0] =
    longO l0 c0 fun b => bif b then some (.bool true) else putO l0 c0 fun l => kpLoop fu fu (frKp n0 l0 c0 none l.length (bC l) (some true) 0 [] n0 l0 c0 (l0 : Int) 0) := by kernel_rfl
theorem kp_step (fu : Nat) (n0 : Option Bool) (l0 : Nat) (c0 : List PV) (n3 : Option Bool) (l3 : Nat) (c3 : List PV) (n4 : Option Bool) (l4 : Nat) (c4 : List PV) (n5 : Option Bool) (l5 : Nat) (c5 : List PV) (L i : Int) (K : St → Option PV) :
    stepF (en lKp) hKp fu false Tryd.f3 [1, 1, 1, 1, 1, 0, 1, 0] (frKp n0 l0 c0 n3 l3 c3 n4 l4 c4 n5 l5 c5 L i) (fun st => pnorm (hKp.loop.lookup 0) st K) =
    bif decide (i < L) then ixV l5 c5 i fun a n b s => plainO s (roomV l4 1 (K (frKp n0 l0 c0 n3 l3 c3 (n4.map (· && false)) (l4 + 1) (c4 ++ [PV.int .i64 (bif rightB a n b s then a else 0), .int .i64 (bif rightB a n b s then n else 0), .int .i64 (bif rightB a n b s then b else 0), .str (bif rightB a n b s then s else [])]) n5 l5 c5 L (IntKind.i64.wrap (i + 1)))))
    else getO l3 c3 fun g => (pbytes c3).bind fun v => rputO l0 c0 fun y => bif v == y && g.isSome then sameO (g.getD []).length (valsC (g.getD [])) l4 c4 fun b => some (.bool b) else some (.bool false) := by kernel_rfl
end Go.Proofs.YtclhnfalebiieaaDoor
