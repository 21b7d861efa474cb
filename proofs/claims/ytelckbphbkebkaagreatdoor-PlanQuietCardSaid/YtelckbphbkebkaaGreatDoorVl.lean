/-
  Nodes: the reference's comparison and reckoning.
-/
import Derived.Test.YtelckbphbkebkaaGreatDoorVk
set_option linter.unusedVariables false
set_option linter.unusedSimpArgs false
set_option maxRecDepth 100000
namespace Go.Proofs.YtelckbphbkebkaaGreatDoor
open Go.RowKit

def numI (a b : Int) : Int := bif decide (a < b) then -1 else bif decide (b < a) then 1 else 0
theorem numI_lt {a b : Int} (h : a < b) : numI a b = -1 := by unfold numI; rw [decide_eq_true h]; rfl
theorem numI_gt {a b : Int} (h : b < a) : numI a b = 1 := by unfold numI; rw [decide_eq_false (by omega), decide_eq_true h]; rfl
theorem numI_self (a : Int) : numI a a = 0 := by unfold numI; rw [decide_eq_false (by omega)]; rfl
theorem num_raw (l : List (FuncId × PFn)) (a b : Int) (fuel : Nat) : prun (en l) ⟨[], []⟩ fuel false Tryz.f103 [.int .i64 a, .int .i64 b] =
    bif decide (a < b) then some (.int .i64 (-1)) else bif decide (b < a) then some (.int .i64 1) else some (.int .i64 0) := by kernel_rfl
def p_numbers : PFn := ⟨fun xs k => match xs with | [.int .i64 a, .int .i64 b] => k (.int .i64 (numI a b)) | _ => none, false⟩
theorem ok_numbers : FOK NGk Tabs 103 p_numbers := by
  refine fok wokk allOK_nil (h := ⟨[], []⟩) Tryz.func103 rfl (by decide) ?_ ?_
  · intro R xs k
    simp only [p_numbers]
    split <;> rfl
  · intro xs r h
    simp only [p_numbers] at h
    split at h
    · rename_i a b
      refine ⟨0, (num_raw [] a b 0).trans ?_⟩
      rw [← h]
      unfold numI
      cases decide (a < b) <;> cases decide (b < a) <;> rfl
    · cases h
/-- how texts compare -/
def txtL : List UInt8 → List UInt8 → Int
  | [], [] => 0
  | [], _ :: _ => -1
  | _ :: _, [] => 1
  | a :: x, b :: y => bif a == b then txtL x y else numI (a.toNat : Int) (b.toNat : Int)
theorem txt_nil : ∀ (x : List UInt8), txtL x [] = numI (x.length : Int) 0
  | [] => rfl
  | c :: x => by rw [numI_gt (by simp only [List.length_cons]; omega)]; rfl
theorem nil_txt : ∀ (x : List UInt8), txtL [] x = numI 0 (x.length : Int)
  | [] => rfl
  | c :: x => by rw [numI_lt (by simp only [List.length_cons]; omega)]; rfl
def ixS {R : Type} (s : List UInt8) (i : Int) (K : UInt8 → Option R) : Option R := bif decide (0 ≤ i) && decide (i < (s.length : Int)) then s[i.toNat]?.bind K else none
theorem ixS_eq {R : Type} {s : List UInt8} {i : Nat} {c : UInt8} {K : UInt8 → Option R} (h : s[i]? = some c) : ixS s (i : Int) K = K c := by
  have := (List.getElem?_eq_some_iff.1 h).1
  unfold ixS
  rw [cond_t (by rw [decide_eq_true (by omega), decide_eq_true (by omega)]; rfl), Int.toNat_natCast, h]
  rfl
def hTx : Hints := ⟨[], [(0, ⟨[(0, false), (1, false), (5, false)], []⟩)]⟩
def frTx (x y : List UInt8) (i : Int) : St := frame 39 [(0, (.str x, 0)), (1, (.str y, 0)), (5, (.int .i64 i, 0))] []
noncomputable def lTx : List (FuncId × PFn) := [(103, p_numbers)]
noncomputable def txLoop (fu n : Nat) (st : St) : Option PV := loopF (en lTx) hTx fu false Tryz.f104 [1, 0, 1, 0] 0 n st
theorem tx_raw (fu : Nat) (x y : List UInt8) : prun (en lTx) hTx fu false Tryz.f104 [.str x, .str y] = txLoop fu fu (frTx x y 0) := by kernel_rfl
theorem tx_step (fu : Nat) (x y : List UInt8) (i : Int) (K : St → Option PV) : stepF (en lTx) hTx fu false Tryz.f104 [1, 0, 1, 0] (frTx x y i) (fun st => pnorm (hTx.loop.lookup 0) st K) =
    bif decide (i < (x.length : Int)) && decide (i < (y.length : Int)) then ixS x i fun a => ixS y i fun b => bif !((a.toNat : Int) == (b.toNat : Int)) then
        ixS x i fun a => ixS y i fun b => some (.int .i64 (numI (IntKind.i64.wrap (a.toNat : Int)) (IntKind.i64.wrap (b.toNat : Int)))) else K (frTx x y (IntKind.i64.wrap (i + 1)))
    else some (.int .i64 (numI (x.length : Int) (y.length : Int))) := by kernel_rfl
theorem tx_loop (fu : Nat) (x y : List UInt8) (hx : x.length ≤ 1000000) : ∀ (k i n : Nat), i + k = x.length → k < n → i ≤ y.length → txLoop fu n (frTx x y (i : Int)) = some (.int .i64 (txtL (x.drop i) (y.drop i)))
  | k, i, 0, _, h, _ => by omega
  | k, i, n + 1, hi, hn, hy => by
    unfold txLoop
    rw [loopF_succ, tx_step]
    by_cases h1 : i < x.length
    · by_cases h2 : i < y.length
      · have c1 := List.getElem?_eq_getElem h1
        have c2 := List.getElem?_eq_getElem h2
        rw [cond_t (by rw [decide_eq_true (by omega), decide_eq_true (by omega)]; rfl), ixS_eq c1, ixS_eq c2, ixS_eq c1, ixS_eq c2, List.drop_eq_getElem_cons h1, List.drop_eq_getElem_cons h2, txtL]
        have b1 := x[i].toNat_lt
        have b2 := y[i].toNat_lt
        have e : ((x[i].toNat : Int) == (y[i].toNat : Int)) = (x[i] == y[i]) := by
          rw [Bool.eq_iff_iff]
          simp only [beq_iff_eq]
          constructor
          · intro e; apply UInt8.toNat_inj.1; omega
          · intro e; rw [e]
        rw [e, wrapI_of (x := (x[i].toNat : Int)) (by omega) (by omega), wrapI_of (x := (y[i].toNat : Int)) (by omega) (by omega), wrapI_of (by omega) (by omega)]
        cases x[i] == y[i]
        · rfl
        · simp only [Bool.not_true, cond_false, cond_true]
          have ih := tx_loop fu x y hx (k - 1) (i + 1) n (by omega) (by omega) (by omega)
          unfold txLoop at ih
          exact ih
      · have hyl : y.length = i := by omega
        rw [cond_f (by rw [decide_eq_false (show ¬ (i : Int) < (y.length : Int) by omega), Bool.and_false]), show y.drop i = [] from List.drop_of_length_le (by omega), txt_nil, List.length_drop, numI_gt (by omega), numI_gt (by omega)]
    · rw [cond_f (by rw [decide_eq_false (show ¬ (i : Int) < (x.length : Int) by omega), Bool.false_and]), show x.drop i = [] from List.drop_of_length_le (by omega), nil_txt, List.length_drop]
      by_cases h2 : i < y.length
      · rw [numI_lt (by omega), numI_lt (by omega)]
      · rw [show y.length = x.length by omega, show x.length - i = 0 by omega, numI_self]; rfl
def p_Texts : PFn := ⟨fun xs k => match xs with | [.str x, .str y] => bif decide (x.length ≤ 1000000) then k (.int .i64 (txtL x y)) else none | _ => none, false⟩
theorem ok_Texts : FOK NGk Tabs 104 p_Texts := by
  refine fok wokk (allOK_cons ok_numbers allOK_nil) (h := hTx) Tryz.func104 rfl (by decide) ?_ ?_
  · intro R xs k
    simp only [p_Texts]
    split
    · exact cond_nat
    · rfl
  · intro xs r h
    simp only [p_Texts] at h
    split at h
    · rename_i x y
      rcases hb : decide (x.length ≤ 1000000) with _ | _ <;> rw [hb] at h
      · cases h
      · simp only [cond_true, Option.some.injEq] at h
        subst h
        simp only [decide_eq_true_eq] at hb
        exact ⟨x.length + 1, (tx_raw _ x y).trans (tx_loop _ x y hb x.length 0 _ (by omega) (by omega) (by omega))⟩
    · cases h

theorem txtL_eq : ∀ (x y : List UInt8), txtL x y = Lib.compareBytes x y
  | [], [] => rfl
  | [], _ :: _ => rfl
  | _ :: _, [] => rfl
  | a :: x, b :: y => by
    rw [txtL, Lib.compareBytes]
    by_cases h : a = b
    · subst h
      have hn : ¬ a < a := fun h => absurd (UInt8.lt_iff_toNat_lt.1 h) (by omega)
      rw [if_neg hn, if_neg hn, show (a == a) = true by simp]
      exact txtL_eq x y
    · have hne : a.toNat ≠ b.toNat := fun e => h (UInt8.toNat_inj.1 e)
      rw [show (a == b) = false by simpa using h]
      by_cases h1 : a < b
      · rw [if_pos h1]
        exact numI_lt (by have := UInt8.lt_iff_toNat_lt.1 h1; omega)
      · rw [if_neg h1]
        have h2 : b < a := UInt8.lt_iff_toNat_lt.2 (by
          have : ¬ a.toNat < b.toNat := fun e => h1 (UInt8.lt_iff_toNat_lt.2 e)
          omega)
        rw [if_pos h2]
        exact numI_gt (by have := UInt8.lt_iff_toNat_lt.1 h2; omega)
theorem numI_cmp (a b : Int) : numI a b = cmpI a b := rfl
/-! ## the reference's Compare -/
noncomputable def lC3 : List (FuncId × PFn) := [(61, p_plV), (102, p_RCompare), (103, p_numbers), (104, p_Texts)]
theorem ok_lC3 : AllOK NGc Wc lC3 := allOK_cons ok_plV (allOK_cons (fok_d ok_RCompare) (allOK_cons (fok_k ok_numbers) (allOK_cons (fok_k ok_Texts) allOK_nil)))
def plvO {R : Type} (v : Val) (K : Val → Option R) : Option R := bif decide (v.s.length ≤ 1000000) then K (Go.Proofs.YtelckbphbkebkaaGreatDoor.plain v) else none
def txtO {R : Type} (s t : List UInt8) (K : Int → Option R) : Option R := bif decide (s.length ≤ 1000000) then K (txtL s t) else none
def c3Body (x y : Val) : Option PV :=
  bif (x.kind == 2 || x.kind == 3) && (y.kind == 2 || y.kind == 3) then bif inI x.n && inI y.n then some (resCmp (dcmp x.n x.scale y.n y.scale, true)) else none
  else bif x.kind == 0 || !(x.kind == y.kind) then some (resCmp (0, false))
  else bif x.kind == 1 then some (resCmp (numI x.n y.n, true))
  else txtO x.s y.s fun z => some (resCmp (z, true))
theorem c3_raw (a n c : Int) (s : List UInt8) (a' n' c' : Int) (s' : List UInt8) : prun (en lC3) ⟨[], []⟩ 0 false Tryz.f64 [.agg [.int .i64 a, .int .i64 n, .int .i64 c, .str s], .agg [.int .i64 a', .int .i64 n', .int .i64 c', .str s']] =
    plvO ⟨a, n, c, s⟩ fun x => plvO ⟨a', n', c', s'⟩ fun y => c3Body x y := by kernel_rfl
theorem c3_body {x y : Val} (hx : gd x = true) (hy : gd y = true) : c3Body x y = some (resCmp (cmpS x y)) := by
  have lx := right_len (v := x) (by simp only [gd, Bool.and_eq_true] at hx; exact hx.1)
  simp only [gd, Bool.and_eq_true] at hx hy
  unfold c3Body cmpS rtV insS txtO
  rw [hx.1, hy.1, hx.2, hy.2, decide_eq_true (show x.s.length ≤ 1000000 by omega), numI_cmp, txtL_eq]
  simp only [cond_true, Bool.and_self]
  have rx := hx.1
  have ry := hy.1
  by_cases k2 : (x.kind = 2 ∨ x.kind = 3) ∧ (y.kind = 2 ∨ y.kind = 3)
  · have e1 : ((x.kind == 2 || x.kind == 3) && (y.kind == 2 || y.kind == 3)) = true := by simpa using k2
    have e2 : clsI x.kind = 2 := by unfold clsI; rcases k2.1 with h | h <;> rw [h] <;> rfl
    have e3 : clsI y.kind = 2 := by unfold clsI; rcases k2.2 with h | h <;> rw [h] <;> rfl
    have e4 : (x.kind == 0) = false := by
      have : x.kind ≠ 0 := by omega
      simpa using this
    rw [e1, e2, e3, e4]; rfl
  · have e1 : ((x.kind == 2 || x.kind == 3) && (y.kind == 2 || y.kind == 3)) = false := by
      rw [Bool.eq_false_iff]
      intro h
      exact k2 (by simpa using h)
    rw [e1]
    by_cases h0 : x.kind = 0
    · rw [h0]; rfl
    · rw [show (x.kind == 0) = false by simpa using h0]
      by_cases hk : x.kind = y.kind
      · have hn : x.kind ≠ 2 ∧ x.kind ≠ 3 := ⟨fun h => k2 ⟨.inl h, .inl (by omega)⟩, fun h => k2 ⟨.inr h, .inr (by omega)⟩⟩
        have c1 : clsI x.kind = x.kind := by unfold clsI; rw [show (x.kind == 3) = false by simpa using hn.2]; rfl
        rw [← hk, c1, show (x.kind == x.kind) = true by simp, show (x.kind == 2) = false by simpa using hn.1]
        by_cases h1 : x.kind = 1
        · have sx : x.s = [] := by
            unfold right at rx
            rw [if_neg h0, if_pos h1] at rx
            simp only [decide_eq_true_eq] at rx
            exact rx.2.2
          have sy : y.s = [] := by
            unfold right at ry
            rw [if_neg (by omega), if_pos (by omega)] at ry
            simp only [decide_eq_true_eq] at ry
            exact ry.2.2
          rw [sx, sy, h1]
          show some (resCmp (cmpI x.n y.n, true)) = some (resCmp (orC (cmpI x.n y.n) 0, true))
          unfold orC
          rcases hc : (cmpI x.n y.n != 0) with _ | _
          · rw [show cmpI x.n y.n = 0 by simpa using hc]; rfl
          · rfl
        · have h4 : x.n = 0 ∧ y.n = 0 := by
            unfold right at rx ry
            rw [if_neg h0, if_neg h1, if_neg hn.1, if_neg hn.2] at rx
            rw [← hk, if_neg h0, if_neg h1, if_neg hn.1, if_neg hn.2] at ry
            constructor
            · split at rx
              · simp at rx; exact rx.1.1
              · split at rx
                · simp at rx; exact rx.1
                · cases rx
            · split at ry
              · simp at ry; exact ry.1.1
              · split at ry
                · simp at ry; exact ry.1
                · cases ry
          rw [h4.1, h4.2, show (x.kind == 1) = false by simpa using h1]; rfl
      · rw [show (x.kind == y.kind) = false by simpa using hk]
        have : clsI x.kind ≠ clsI y.kind := by
          unfold clsI
          rcases hx3 : (x.kind == 3) with _ | _ <;> rcases hy3 : (y.kind == 3) with _ | _ <;> simp only [cond_true, cond_false]
          · exact hk
          · have : y.kind = 3 := by simpa using hy3
            intro h
            exact k2 ⟨.inl h, .inr this⟩
          · have : x.kind = 3 := by simpa using hx3
            intro h
            exact k2 ⟨.inr this, .inl h.symm⟩
          · have a1 : x.kind = 3 := by simpa using hx3
            have a2 : y.kind = 3 := by simpa using hy3
            exact absurd (a1.trans a2.symm) hk
        rw [show (clsI x.kind == clsI y.kind) = false by simpa using this]; rfl
def p_rC3 : PFn := ⟨fun xs k => match xs with | [.agg [.int .i64 a, .int .i64 n, .int .i64 c, .str s], .agg [.int .i64 a', .int .i64 n', .int .i64 c', .str s']] => bif gd ⟨a, n, c, s⟩ && gd ⟨a', n', c', s'⟩ then k (resCmp (cmpS ⟨a, n, c, s⟩ ⟨a', n', c', s'⟩)) else none | _ => none, false⟩
theorem ok_rC3 : FOK NGc Wc 64 p_rC3 := by
  refine fok wokc ok_lC3 (h := ⟨[], []⟩) Tryz.func64 rfl (by decide) ?_ ?_
  · intro R xs k
    simp only [p_rC3]
    split
    · exact cond_nat
    · rfl
  · intro xs r h
    simp only [p_rC3] at h
    split at h
    · rename_i a n c s a' n' c' s'
      rcases hb : (gd ⟨a, n, c, s⟩ && gd ⟨a', n', c', s'⟩) with _ | _ <;> rw [hb] at h
      · cases h
      · exact ⟨0, ((c3_raw a n c s a' n' c' s').trans (by simp only [Bool.and_eq_true] at hb; have l1 := gd_ok hb.1; have l2 := gd_ok hb.2; have r1 := hb.1; have r2 := hb.2; simp only [okV, gd, Bool.and_eq_true] at l1 l2 r1 r2; unfold plvO; rw [l1.2, l2.2, plain_right r1.1, plain_right r2.1]; exact c3_body hb.1 hb.2)).trans h⟩
    · cases h

end Go.Proofs.YtelckbphbkebkaaGreatDoor
