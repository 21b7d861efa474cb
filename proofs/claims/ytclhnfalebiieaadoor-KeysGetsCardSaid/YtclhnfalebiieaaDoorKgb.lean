/-
  Keys by the evaluator: the reference's Next and Get; the law KeysGets.
-/
import Derived.Test.YtclhnfalebiieaaDoorKga
import Derived.Test.YtclhnfalebiieaaDoorKrun
import Derived.Test.YtclhnfalebiieaaDoorPy
set_option linter.unusedVariables false
set_option linter.unusedSimpArgs false
set_option maxRecDepth 100000
namespace Go.Proofs.YtclhnfalebiieaaDoor
open Go.RowKit

/-! ## the reference's Next -/
def hRn : Hints := ⟨[], [(1, ⟨[(0, false), (2, false), (4, false), (5, false), (6, false), (7, false)], [2, 4]⟩), (3, ⟨[(0, false), (2, false), (4, false), (8, true), (9, false)], [2, 4]⟩)]⟩
def z4 : List TV := [(.int .i64 0, 0), (.int .i64 0, 0), (.int .i64 0, 0), (.str [], 0)]
def frRa (l : List UInt8) (a n c : Int) (s : List UInt8) (m u i : Int) : St :=
  frame 133 [(0, (.str l, 0)), (2, (.ptr 2 0, 0)), (4, (.ptr 4 0, 0)), (5, (.int .i64 m, 0)), (6, (.int .u64 u, 0)), (7, (.int .i64 i, 0))] [(2, z4), (4, [(.int .i64 a, 0), (.int .i64 n, 0), (.int .i64 c, 0), (.str s, 0)])]
def frRb (l : List UInt8) (a n c : Int) (s : List UInt8) (n8 : Option Bool) (l8 : Nat) (c8 : List PV) (i : Int) : St :=
  frame 133 [(0, (.str l, 0)), (2, (.ptr 2 0, 0)), (4, (.ptr 4 0, 0)), (8, (.sl n8 1 l8 c8, 143)), (9, (.int .i64 i, 0))] [(2, z4), (4, [(.int .i64 a, 0), (.int .i64 n, 0), (.int .i64 c, 0), (.str s, 0)])]
noncomputable def lRn : List (FuncId × PFn) := [(20, p_rightV), (32, p_One)]
noncomputable def raLoop (fu n : Nat) (st : St) : Option PV := loopF (en lRn) hRn fu false Tryd.f19 [1, 1, 1, 1, 0, 1, 0, 1, 1, 1, 0, 1, 1, 1, 1, 0, 1, 0] 1 n st
noncomputable def rbLoop (fu n : Nat) (st : St) : Option PV := loopF (en lRn) hRn fu false Tryd.f19 [1, 1, 1, 1, 0, 1, 0, 1, 1, 1, 1, 1, 0, 1, 1, 0, 0] 3 n st
def nulR : Option PV := some (.tuple [.agg [.int .i64 0, .int .i64 0, .int .i64 0, .str []], .int .i64 0])
def rgtO {R : Type} (a n c : Int) (s : List UInt8) (K : Bool → Option R) : Option R := bif decide (s.length ≤ 1000000) then K (rightB a n c s) else none
def finR (l : List UInt8) (a n c : Int) (s : List UInt8) (m : Int) : Option PV :=
  bif !decide ((l.length : Int) < m) then rgtO a n c s fun b => bif !!b then oneO a n c s fun y => bif decide (0 ≤ m) && decide (m ≤ (l.length : Int)) then bif !(y == (l.take m.toNat).drop 0) then nulR else some (.tuple [.agg [.int .i64 a, .int .i64 n, .int .i64 c, .str s], .int .i64 m]) else none
    else nulR else nulR
def numR (l : List UInt8) (a n : Int) (L : Int → Int → Option PV) : Option PV :=
  ixS l 0 fun b => bif decide ((l.length : Int) < IntKind.i64.wrap (IntKind.i64.wrap (8 + IntKind.i64.wrap (b.toNat : Int)) - 1)) then nulR else
    ixS l 0 fun d => bif (d.toNat : Int) == 3 then ixS l 1 fun e => L (IntKind.i64.wrap (e.toNat : Int)) (IntKind.i64.wrap (IntKind.i64.wrap (8 + IntKind.i64.wrap (b.toNat : Int)) - 1)) else L 0 (IntKind.i64.wrap (IntKind.i64.wrap (8 + IntKind.i64.wrap (b.toNat : Int)) - 1))
def txtR (t : UInt8) (T D : Option PV) : Option PV :=
  bif (t.toNat : Int) == 4 then bif (t.toNat : Int) == 4 then T else D else bif (t.toNat : Int) == 5 then T else D
theorem rn_raw (fu : Nat) (l : List UInt8) : prun (en lRn) hRn fu false Tryd.f19 [.str l] =
    bif l == [] then nulR else ixS l 0 fun v => ixS l 0 fun t =>
      bif (t.toNat : Int) == 1 then bif decide (1 < (l.length : Int)) then ixS l 1 fun d => finR l (IntKind.i64.wrap (v.toNat : Int)) (IntKind.i64.wrap (d.toNat : Int)) 0 [] 2 else finR l (IntKind.i64.wrap (v.toNat : Int)) 0 0 [] 2
      else bif (t.toNat : Int) == 2 then bif (t.toNat : Int) == 2 then numR l (IntKind.i64.wrap (v.toNat : Int)) 0 fun c m => raLoop fu fu (frRa l (IntKind.i64.wrap (v.toNat : Int)) 0 c [] m 0 (IntKind.i64.wrap (m - 8)))
        else txtR t (rbLoop fu fu (frRb l (IntKind.i64.wrap (v.toNat : Int)) 0 0 [] (some true) 0 [] 1)) (finR l (IntKind.i64.wrap (v.toNat : Int)) 0 0 [] 1)
      else bif (t.toNat : Int) == 3 then numR l (IntKind.i64.wrap (v.toNat : Int)) 0 fun c m => raLoop fu fu (frRa l (IntKind.i64.wrap (v.toNat : Int)) 0 c [] m 0 (IntKind.i64.wrap (m - 8)))
        else txtR t (rbLoop fu fu (frRb l (IntKind.i64.wrap (v.toNat : Int)) 0 0 [] (some true) 0 [] 1)) (finR l (IntKind.i64.wrap (v.toNat : Int)) 0 0 [] 1) := prunN_eq.trans (by kernel_rfl)
theorem ra_step (fu : Nat) (l : List UInt8) (a n c : Int) (s : List UInt8) (m u i : Int) (K : St → Option PV) :
    stepF (en lRn) hRn fu false Tryd.f19 [1, 1, 1, 1, 0, 1, 0, 1, 1, 1, 0, 1, 1, 1, 1, 0, 1, 0] (frRa l a n c s m u i) (fun st => pnorm (hRn.loop.lookup 1) st K) =
    bif decide (i < m) then ixS l i fun d => K (frRa l a n c s m (IntKind.u64.wrap (IntKind.u64.wrap (256 * u) + IntKind.u64.wrap (d.toNat : Int))) (IntKind.i64.wrap (i + 1)))
    else finR l a (IntKind.i64.wrap (IntKind.u64.wrap (u + 9223372036854775808))) c s m := by kernel_rfl
def rbEsc (l : List UInt8) (l8 : Nat) (i : Int) (v : UInt8) (K1 K2 : Option PV) : Option PV :=
  roomY l8 1 (ixS l i fun e => bif (e.toNat : Int) == 0 then ixS l (IntKind.i64.wrap (i + 1)) fun f => bif !((f.toNat : Int) == 255) then nulR else K1 else K2)
def rbBody (l : List UInt8) (a n c : Int) (l8 : Nat) (c8 : List PV) (i : Int) (K1 K2 : UInt8 → Option PV) : Option PV :=
  bif decide (IntKind.i64.wrap (i + 1) < (l.length : Int)) then ixS l i fun v =>
    bif (v.toNat : Int) == 0 then ixS l (IntKind.i64.wrap (i + 1)) fun d => bif !((d.toNat : Int) == 1) then ixS l i fun v => rbEsc l l8 i v (K1 v) (K2 v) else (pbytes c8).bind fun s => finR l a n c s (IntKind.i64.wrap (i + 2))
    else ixS l i fun v => rbEsc l l8 i v (K1 v) (K2 v)
  else (pbytes c8).bind fun s => finR l a n c s (IntKind.i64.wrap (i + 2))
theorem rb_step (fu : Nat) (l : List UInt8) (a n c : Int) (s : List UInt8) (n8 : Option Bool) (l8 : Nat) (c8 : List PV) (i : Int) (K : St → Option PV) :
    stepF (en lRn) hRn fu false Tryd.f19 [1, 1, 1, 1, 0, 1, 0, 1, 1, 1, 1, 1, 0, 1, 1, 0, 0] (frRb l a n c s n8 l8 c8 i) (fun st => pnorm (hRn.loop.lookup 3) st K) =
    rbBody l a n c l8 c8 i (fun v => K (frRb l a n c s (n8.map (· && false)) (l8 + 1) (c8 ++ [.int .u8 (v.toNat : Int)]) (IntKind.i64.wrap (IntKind.i64.wrap (i + 1) + 1))))
      (fun v => K (frRb l a n c s (n8.map (· && false)) (l8 + 1) (c8 ++ [.int .u8 (v.toNat : Int)]) (IntKind.i64.wrap (i + 1)))) := by kernel_rfl

/-! ## what it computes -/
theorem untL_eq : ∀ (k : Nat) (l acc : List UInt8), l.length ≤ k → untL l acc = (untext l).map fun p => (acc ++ p.1, p.2) := by
  intro k
  induction k with
  | zero => intro l acc hl; obtain rfl : l = [] := List.length_eq_zero_iff.1 (by omega); rfl
  | succ k ih =>
    intro l acc hl
    match l, hl with
    | [], _ => rfl
    | [c], _ =>
      unfold untL
      by_cases h : c = 0
      · rw [if_pos h]; simp [untext]
      · rw [if_neg h]; simp [untL, untext]
    | c :: d :: t, hl =>
      simp only [List.length_cons] at hl
      rw [untL, untext]
      by_cases h : c = 0
      · rw [if_pos h, if_pos h]
        by_cases h1 : d = 255
        · rw [if_pos h1, if_pos h1, ih t _ (by omega)]
          rcases untext t with _ | p <;> simp
        · rw [if_neg h1, if_neg h1]
          by_cases h2 : d = 1
          · rw [if_pos h2, if_pos h2]; simp
          · rw [if_neg h2, if_neg h2]; rfl
      · rw [if_neg h, if_neg h, ih (d :: t) _ (by simpa using hl)]
        rcases untext (d :: t) with _ | p <;> simp
def rnN (l : List UInt8) : Nat := (nextV l).elim 0 fun p => l.length - p.2.length
def rnV (l : List UInt8) : PV := .tuple [.agg [.int .i64 (nxA (nextV l)).kind, .int .i64 (nxA (nextV l)).n, .int .i64 (nxA (nextV l)).scale, .str (nxA (nextV l)).s], .int .i64 ((rnN l : Nat) : Int)]
theorem rnV_none {l : List UInt8} (h : nextV l = none) : nulR = some (rnV l) := by unfold rnV rnN; rw [h]; rfl
theorem nextV_noneS {l : List UInt8} (h : nextS l = none) : nextV l = none := by unfold nextV; rw [h]; rfl
theorem rnV_noneS {l : List UInt8} (h : nextS l = none) : nulR = some (rnV l) := rnV_none (nextV_noneS h)
theorem finR_next {l r : List UInt8} {x : Val} (h : nextS l = some (x, r)) (hs : x.s.length ≤ 1000000) {m : Int} (hm : m = (l.length : Int) - (r.length : Int)) : finR l x.kind x.n x.scale x.s m = some (rnV l) := by
  have hlen := nextS_len h
  unfold finR rgtO oneO
  rw [decide_eq_false (show ¬ (l.length : Int) < m by omega), decide_eq_true hs, right_B]
  simp only [Bool.not_false, cond_true]
  rcases hr : right x with _ | _
  · have : nextV l = none := by unfold nextV; rw [h]; simp [hr]
    simp only [Bool.not_false, Bool.not_true, cond_false]
    exact rnV_none this
  · have hv : nextV l = some (x, r) := by unfold nextV; rw [h]; simp [hr]
    have he := nextS_inv h hr
    have hle : (enc x).length = m.toNat := by
      have := congrArg List.length he
      rw [List.length_append] at this
      omega
    simp only [Bool.not_false, Bool.not_true, cond_true]
    rw [cond_t (by rw [decide_eq_true (by omega), decide_eq_true (by omega)]; rfl), List.drop_zero]
    have ht : l.take m.toNat = enc x := by rw [he, ← hle, List.take_left]
    rw [ht, beq_self_eq_true]
    unfold rnV rnN
    rw [hv]
    simp only [Bool.not_true, cond_false, nxA, Option.elim_some]
    rw [show ((l.length - r.length : Nat) : Int) = m by omega]
theorem finR_long {l : List UInt8} {a n c : Int} {s : List UInt8} {m : Int} (h : (l.length : Int) < m) : finR l a n c s m = nulR := by
  unfold finR; rw [decide_eq_true h]; rfl
theorem ra_loop (fu : Nat) (l : List UInt8) (a n c : Int) (j : Nat) (hj : j + 8 ≤ l.length) (hl : l.length ≤ 1000000) : ∀ (k i q : Nat), i + k = 8 → k < q →
    raLoop fu q (frRa l a n c [] ((j + 8 : Nat) : Int) (be ((l.drop j).take i) : Int) ((j + i : Nat) : Int)) = finR l a ((be ((l.drop j).take 8) : Int) - 9223372036854775808) c [] ((j + 8 : Nat) : Int)
  | k, i, 0, _, h => by omega
  | 0, i, q + 1, hi, hq => by
    obtain rfl : i = 8 := by omega
    unfold raLoop
    have hlt := be_lt 8 ((l.drop j).take 8) (by rw [List.length_take, List.length_drop]; omega)
    have hlt : be ((l.drop j).take 8) < 18446744073709551616 := by simpa using hlt
    have hw : IntKind.i64.wrap (IntKind.u64.wrap ((be ((l.drop j).take 8) : Int) + 9223372036854775808)) = (be ((l.drop j).take 8) : Int) - 9223372036854775808 := by
      rw [wrapU, IntKind.wrap_i64]; omega
    rw [loopF_succ, ra_step, cond_f (decide_eq_false (by omega)), hw]
  | k + 1, i, q + 1, hi, hq => by
    unfold raLoop
    have hlt := be_lt i ((l.drop j).take i) (by rw [List.length_take, List.length_drop]; omega)
    have hb : be ((l.drop j).take i) ≤ 72057594037927935 := by
      have := Nat.pow_le_pow_right (n := 256) (by decide) (show i ≤ 7 by omega)
      omega
    have hc := List.getElem?_eq_getElem (l := l) (i := j + i) (by omega)
    have hx := l[j + i].toNat_lt
    have e : be ((l.drop j).take (i + 1)) = be ((l.drop j).take i) * 256 + (l[j + i]).toNat := by
      rw [List.take_add_one, List.getElem?_drop, hc, Option.toList_some, be_snoc]
    have ih := ra_loop fu l a n c j hj hl k (i + 1) q (by omega) (by omega)
    unfold raLoop at ih
    rw [e] at ih
    rw [loopF_succ, ra_step, cond_t (decide_eq_true (by omega)), ixS_eq hc, ← ih]
    congr 2
    · rw [wrapU, wrapU, wrapU]; omega
    · rw [wrapI_of (by omega) (by omega)]; omega
theorem u8_eqb (t c : UInt8) : ((t.toNat : Int) == (c.toNat : Int)) = decide (t = c) := by
  rw [Bool.eq_iff_iff]
  simp only [beq_iff_eq, decide_eq_true_eq]
  constructor
  · intro e; apply UInt8.toNat_inj.1; omega
  · intro e; rw [e]
theorem u8_eq1 (t : UInt8) : ((t.toNat : Int) == 1) = decide (t = 1) := u8_eqb t 1
theorem u8_eq2 (t : UInt8) : ((t.toNat : Int) == 2) = decide (t = 2) := u8_eqb t 2
theorem u8_eq3 (t : UInt8) : ((t.toNat : Int) == 3) = decide (t = 3) := u8_eqb t 3
theorem u8_eq4 (t : UInt8) : ((t.toNat : Int) == 4) = decide (t = 4) := u8_eqb t 4
theorem u8_eq5 (t : UInt8) : ((t.toNat : Int) == 5) = decide (t = 5) := u8_eqb t 5
theorem u8_eq255 (t : UInt8) : ((t.toNat : Int) == 255) = decide (t = 255) := u8_eqb t 255
theorem rb_loop (fu : Nat) (l : List UInt8) (a n c : Int) (hl : l.length ≤ 100000) : ∀ (k i q : Nat) (n8 : Option Bool) (acc : List UInt8), l.length - i ≤ k → k < q → acc.length ≤ i → i ≤ l.length →
    rbLoop fu q (frRb l a n c [] n8 acc.length (bC acc) (i : Int)) = match untL (l.drop i) acc with | none => nulR | some p => finR l a n c p.1 ((l.length : Int) - (p.2.length : Int))
  | k, i, 0, _, _, _, h, _, _ => by omega
  | k, i, q + 1, n8, acc, hk, hq, ha, hil => by
    unfold rbLoop
    rw [loopF_succ, rb_step]
    unfold rbBody rbEsc
    rw [wrapI_of (x := (i : Int) + 1) (by omega) (by omega), wrapI_of (x := (i : Int) + 2) (by omega) (by omega)]
    by_cases h1 : i + 1 < l.length
    · have hv := List.getElem?_eq_getElem (l := l) (i := i) (by omega)
      have hd := List.getElem?_eq_getElem (l := l) (i := i + 1) h1
      have e1 : (i : Int) + 1 = ((i + 1 : Nat) : Int) := by omega
      have hroom : acc.length + 1 ≤ 1000000 := by omega
      rw [cond_t (decide_eq_true (by omega)), e1]
      simp only [ixS_eq hv, ixS_eq hd, roomY_eq hroom, u8_zero, u8_eq1, u8_eq255, pbytes_bC]
      rw [List.drop_eq_getElem_cons (show i < l.length by omega), List.drop_eq_getElem_cons h1]
      have hlen : (l.drop (i + 1 + 1)).length = l.length - (i + 2) := by rw [List.length_drop]
      generalize hg : l[i] = v
      generalize hg' : l[i + 1] = d
      unfold untL
      by_cases h0 : v = 0
      · rw [decide_eq_true h0, cond_true, cond_true, if_pos h0]
        dsimp only
        by_cases hd1 : d = 1
        · subst hd1
          rw [decide_eq_true rfl, Bool.not_true, cond_false, if_neg (by decide), if_pos rfl]
          simp only [Option.bind_some]
          congr 1
          rw [hlen]
          omega
        · rw [decide_eq_false hd1, Bool.not_false, cond_true]
          by_cases hd2 : d = 255
          · have ih := rb_loop fu l a n c hl (k - 2) (i + 2) q (n8.map (· && false)) (acc ++ [0]) (by omega) (by omega) (by simp; omega) (by omega)
            unfold rbLoop at ih
            rw [List.length_append, ← bC_snoc] at ih
            rw [decide_eq_true hd2, Bool.not_true, cond_false, if_pos hd2, h0, wrapI_of (by omega) (by omega), show ((i + 1 : Nat) : Int) + 1 = ((i + 2 : Nat) : Int) by omega]
            exact ih
          · rw [decide_eq_false hd2, Bool.not_false, cond_true, if_neg hd2, if_neg hd1]
      · have ih := rb_loop fu l a n c hl (k - 1) (i + 1) q (n8.map (· && false)) (acc ++ [v]) (by omega) (by omega) (by simp; omega) (by omega)
        unfold rbLoop at ih
        rw [List.length_append, ← bC_snoc, List.drop_eq_getElem_cons h1, hg'] at ih
        rw [decide_eq_false h0, cond_false, cond_false, if_neg h0]
        exact ih
    · have hu : untL (l.drop i) acc = none := by
        rcases hdr : l.drop i with _ | ⟨v, t⟩
        · rfl
        · have : (l.drop i).length = l.length - i := List.length_drop
          rw [hdr, List.length_cons] at this
          obtain rfl : t = [] := List.length_eq_zero_iff.1 (by omega)
          unfold untL
          by_cases h0 : v = 0
          · rw [if_pos h0]
          · rw [if_neg h0]; rfl
      rw [cond_f (decide_eq_false (by omega)), hu, pbytes_bC]
      exact finR_long (by omega)
theorem untext_short {l s r : List UInt8} (h : untext l = some (s, r)) : s.length ≤ l.length := by
  have := untext_len l.length l (Nat.le_refl _) s r h
  omega
theorem rn_any (l : List UInt8) (hl : l.length ≤ 100000) : prun (en lRn) hRn (l.length + 20) false Tryd.f19 [.str l] = some (rnV l) := by
  rw [rn_raw]
  match l, hl with
  | [], _ => rfl
  | t :: r, hl =>
    have hlc : (t :: r).length = r.length + 1 := rfl
    have g0 : (t :: r)[0]? = some t := rfl
    have i0 : ∀ {K : UInt8 → Option PV}, ixS (t :: r) 0 K = K t := fun {K} => ixS_eq (i := 0) g0
    have wt : ∀ t : UInt8, IntKind.i64.wrap (t.toNat : Int) = (t.toNat : Int) := fun t => wrapI_of (by have := t.toNat_lt; omega) (by have := t.toNat_lt; omega)
    rw [cond_f (show ((t :: r) == ([] : List UInt8)) = false from rfl), i0, i0, u8_eq1, u8_eq2, u8_eq3]
    unfold txtR
    rw [u8_eq4, u8_eq5, wt]
    by_cases h1 : t = 1
    · subst h1
      rw [decide_eq_true rfl, cond_true]
      match r, hl with
      | [], _ => exact (cond_f (by simp)).trans ((finR_long (by simp)).trans (rnV_noneS rfl))
      | d :: r', _ =>
        have i1 : ∀ {K : UInt8 → Option PV}, ixS (1 :: d :: r') 1 K = K d := fun {K} => ixS_eq (i := 1) rfl
        rw [cond_t (decide_eq_true (by simp only [List.length_cons]; omega)), i1, wt]
        exact finR_next (x := ⟨1, d.toNat, 0, []⟩) (r := r') (by simp [nextS]) (by simp) (by simp only [List.length_cons]; omega)
    · rw [decide_eq_false h1, cond_false]
      by_cases h2 : t = 2
      · subst h2
        rw [decide_eq_true rfl, cond_true, cond_true]
        unfold numR
        rw [i0, i0, show ((2 : UInt8).toNat : Int) = 2 from rfl, show IntKind.i64.wrap (IntKind.i64.wrap (8 + IntKind.i64.wrap 2) - 1) = 9 by decide]
        by_cases h8 : r.length < 8
        · rw [cond_t (decide_eq_true (by omega))]
          exact rnV_noneS (by simp [nextS, h8])
        · rw [cond_f (decide_eq_false (by omega)), cond_f (by decide)]
          have := ra_loop (((2 : UInt8) :: r).length + 20) (2 :: r) 2 0 0 1 (by omega) (by omega) 8 0 (((2 : UInt8) :: r).length + 20) (by omega) (by omega)
          refine Eq.trans (Eq.trans ?_ this) ?_
          · rfl
          · exact finR_next (x := ⟨2, (be (r.take 8) : Int) - 9223372036854775808, 0, []⟩) (r := r.drop 8) (by simp [nextS, h8, deTo_be]) (by simp) (by rw [List.length_drop]; omega)
      · rw [decide_eq_false h2, cond_false]
        by_cases h3 : t = 3
        · subst h3
          rw [decide_eq_true rfl, cond_true]
          unfold numR
          rw [i0, i0, show ((3 : UInt8).toNat : Int) = 3 from rfl, show IntKind.i64.wrap (IntKind.i64.wrap (8 + IntKind.i64.wrap 3) - 1) = 10 by decide]
          match r, hl, hlc with
          | [], _, _ =>
            rw [cond_t (by simp)]
            exact rnV_noneS rfl
          | e :: r', hl, hlc =>
            simp only [List.length_cons] at hlc
            by_cases h8 : r'.length < 8
            · rw [cond_t (decide_eq_true (by simp only [List.length_cons]; omega))]
              exact rnV_noneS (by simp [nextS, h8])
            · have i1 : ∀ {K : UInt8 → Option PV}, ixS (3 :: e :: r') 1 K = K e := fun {K} => ixS_eq (i := 1) rfl
              rw [cond_f (decide_eq_false (by simp only [List.length_cons]; omega)), cond_t (by decide), i1, wt]
              have := ra_loop (((3 : UInt8) :: e :: r').length + 20) (3 :: e :: r') 3 0 e.toNat 2 (by simp only [List.length_cons]; omega) (by omega) 8 0 (((3 : UInt8) :: e :: r').length + 20) (by omega) (by omega)
              refine Eq.trans (Eq.trans ?_ this) ?_
              · rfl
              · exact finR_next (x := ⟨3, (be (r'.take 8) : Int) - 9223372036854775808, e.toNat, []⟩) (r := r'.drop 8) (by simp [nextS, h8, deTo_be]) (by simp) (by simp only [List.length_cons, List.length_drop]; omega)
        · rw [decide_eq_false h3, cond_false]
          have hT : (t = 4 ∨ t = 5) → rbLoop ((t :: r).length + 20) ((t :: r).length + 20) (frRb (t :: r) (t.toNat : Int) 0 0 [] (some true) 0 [] 1) = some (rnV (t :: r)) := by
            intro h45
            have := rb_loop ((t :: r).length + 20) (t :: r) (t.toNat : Int) 0 0 hl (t :: r).length 1 ((t :: r).length + 20) (some true) [] (by omega) (by omega) (by simp) (by simp)
            refine Eq.trans this ?_
            rw [show (t :: r).drop 1 = r from rfl, untL_eq r.length r [] (Nat.le_refl _)]
            have ht0 : t ≠ 0 := by rcases h45 with rfl | rfl <;> decide
            rcases hu : untext r with _ | ⟨s, r'⟩
            · exact rnV_noneS (by simp [nextS, ht0, h1, h2, h3, h45, hu])
            · have hsl := untext_short hu
              exact finR_next (x := ⟨t.toNat, 0, 0, s⟩) (r := r') (by simp [nextS, ht0, h1, h2, h3, h45, hu]) (by show s.length ≤ _; omega) rfl
          by_cases h4 : t = 4
          · rw [decide_eq_true h4, cond_true, cond_true]
            exact hT (.inl h4)
          · rw [decide_eq_false h4, cond_false]
            by_cases h5 : t = 5
            · rw [decide_eq_true h5, cond_true]
              exact hT (.inr h5)
            · rw [decide_eq_false h5, cond_false]
              by_cases h0 : t = 0
              · subst h0
                exact finR_next (x := ⟨0, 0, 0, []⟩) (r := r) (by simp [nextS]) (by simp) (by simp only [List.length_cons]; omega)
              · have hn : nextS (t :: r) = none := by simp [nextS, h0, h1, h2, h3, h4, h5]
                unfold finR rgtO
                have hr : right ⟨t.toNat, 0, 0, []⟩ = false := by
                  have k0 : (t.toNat : Int) ≠ 0 := fun e => h0 (UInt8.toNat_inj.1 (by simp only [UInt8.reduceToNat]; omega))
                  have k1 : (t.toNat : Int) ≠ 1 := fun e => h1 (UInt8.toNat_inj.1 (by simp only [UInt8.reduceToNat]; omega))
                  have k2 : (t.toNat : Int) ≠ 2 := fun e => h2 (UInt8.toNat_inj.1 (by simp only [UInt8.reduceToNat]; omega))
                  have k3 : (t.toNat : Int) ≠ 3 := fun e => h3 (UInt8.toNat_inj.1 (by simp only [UInt8.reduceToNat]; omega))
                  have k4 : (t.toNat : Int) ≠ 4 := fun e => h4 (UInt8.toNat_inj.1 (by simp only [UInt8.reduceToNat]; omega))
                  have k5 : (t.toNat : Int) ≠ 5 := fun e => h5 (UInt8.toNat_inj.1 (by simp only [UInt8.reduceToNat]; omega))
                  unfold right
                  rw [if_neg k0, if_neg k1, if_neg k2, if_neg k3, if_neg k4, if_neg k5]
                have hB : rightB (t.toNat : Int) 0 0 [] = false := (right_B ⟨t.toNat, 0, 0, []⟩).trans hr
                rw [hB, decide_eq_false (show ¬ ((t :: r).length : Int) < 1 by omega)]
                exact rnV_noneS hn
def p_RNext : PFn := ⟨fun xs k => match xs with | [.str l] => bif decide (l.length ≤ 100000) then k (rnV l) else none | _ => none, false⟩
theorem ok_RNext : FOK NGk Tabs 19 p_RNext := by
  refine fok wokk (allOK_cons ok_rightR (allOK_cons ok_One allOK_nil)) (h := hRn) Tryd.func19 rfl (by decide) ?_ ?_
  · intro R xs k
    simp only [p_RNext]
    split
    · exact cond_nat
    · rfl
  · intro xs r h
    simp only [p_RNext] at h
    split at h
    · rename_i l
      rcases hb : decide (l.length ≤ 100000) with _ | _ <;> rw [hb] at h
      · cases h
      · simp only [decide_eq_true_eq] at hb
        exact ⟨l.length + 20, (rn_any l hb).trans h⟩
    · cases h
end Go.Proofs.YtclhnfalebiieaaDoor
