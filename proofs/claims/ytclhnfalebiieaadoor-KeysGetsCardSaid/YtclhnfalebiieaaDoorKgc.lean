/-
  Keys by the evaluator: the reference's Get; the law KeysGets.
-/
import Derived.Test.YtclhnfalebiieaaDoorKgb
set_option linter.unusedVariables false
set_option linter.unusedSimpArgs false
set_option maxRecDepth 100000
namespace Go.Proofs.YtclhnfalebiieaaDoor
open Go.RowKit

def hRg : Hints := ⟨[], [(0, ⟨[(0, false), (4, true)], []⟩)]⟩
def frRg (l : List UInt8) (n4 : Option Bool) (l4 : Nat) (c4 : List PV) : St := frame 24 [(0, (.str l, 0)), (4, (.sl n4 4 l4 c4, 30))] []
noncomputable def lRg : List (FuncId × PFn) := [(19, p_RNext)]
noncomputable def rgLoop (fu n : Nat) (st : St) : Option PV := loopF (en lRg) hRg fu false Tryd.f17 [1, 1, 0, 0] 0 n st
def rnO {R : Type} (l : List UInt8) (K : Option R) : Option R := bif decide (l.length ≤ 100000) then K else none
theorem rnO_eq {R : Type} {l : List UInt8} {K : Option R} (h : l.length ≤ 100000) : rnO l K = K := cond_t (decide_eq_true h)
theorem rg_raw (fu : Nat) (l : List UInt8) : prun (en lRg) hRg fu false Tryd.f17 [.str l] = rgLoop fu fu (frRg l (some true) 0 []) := prunN_eq.trans (by kernel_rfl)
theorem rg_step (fu : Nat) (l : List UInt8) (n4 : Option Bool) (l4 : Nat) (c4 : List PV) (K : St → Option PV) :
    stepF (en lRg) hRg fu false Tryd.f17 [1, 1, 0, 0] (frRg l n4 l4 c4) (fun st => pnorm (hRg.loop.lookup 0) st K) =
    bif !(l == []) then rnO l (bif (((rnN l : Nat) : Int) == 0) then some (.tuple [.sl (some true) 4 0 [], .bool false]) else
      roomV l4 1 (bif decide (0 ≤ ((rnN l : Nat) : Int)) && decide (((rnN l : Nat) : Int) ≤ (l.length : Int)) then K (frRg ((l.take l.length).drop ((rnN l : Nat) : Int).toNat) (n4.map (· && false)) (l4 + 1) (c4 ++ [.int .i64 (nxA (nextV l)).kind, .int .i64 (nxA (nextV l)).n, .int .i64 (nxA (nextV l)).scale, .str (nxA (nextV l)).s])) else none))
    else some (.tuple [.sl n4 4 l4 c4, .bool true]) := by kernel_rfl
theorem nextV_inv {l : List UInt8} {x : Val} {r : List UInt8} (h : nextV l = some (x, r)) : l = enc x ++ r := by
  unfold nextV at h
  obtain ⟨p, h1, h2⟩ := Option.bind_eq_some_iff.1 h
  split at h2
  · rename_i hr
    injection h2 with h2
    subst h2
    exact nextS_inv h1 hr
  · cases h2
theorem rnN_some {l : List UInt8} {x : Val} {r : List UInt8} (h : nextV l = some (x, r)) : rnN l = l.length - r.length ∧ 0 < rnN l ∧ l.drop (rnN l) = r := by
  have hl := nextV_len h
  have e : rnN l = l.length - r.length := by unfold rnN; rw [h]; rfl
  refine ⟨e, by omega, ?_⟩
  have he := nextV_inv h
  have h1 := congrArg List.length he
  rw [List.length_append] at h1
  rw [e, show l.length - r.length = (enc x).length by omega, he, List.drop_left]
theorem rg_loop (fu : Nat) : ∀ (k : Nat) (l : List UInt8) (n : Nat) (acc : List Val), l.length ≤ k → k < n → k ≤ 100000 → acc.length + k ≤ 1000000 →
    rgLoop fu n (frRg l (some acc.isEmpty) acc.length (valsC acc)) = some (match getV l with | none => gtV [] false | some vs => gtV (acc ++ vs) true)
  | k, l, 0, _, _, h, _, _ => by omega
  | k, [], n + 1, acc, hl, hn, hk, ha => by
    unfold rgLoop
    rw [loopF_succ, rg_step, cond_f (by rfl)]
    simp only [getV_nil, List.append_nil]
    rfl
  | 0, b :: l, n + 1, acc, hl, hn, hk, ha => by simp at hl
  | k + 1, b :: l, n + 1, acc, hl, hn, hk, ha => by
    unfold rgLoop
    rw [loopF_succ, rg_step, cond_t (by rfl), rnO_eq (by omega), getV_step (by simp)]
    rcases hv : nextV (b :: l) with _ | ⟨x, r⟩
    · have e : rnN (b :: l) = 0 := by unfold rnN; rw [hv]; rfl
      rw [e]; rfl
    · have hr := nextV_len hv
      obtain ⟨e1, e2, e3⟩ := rnN_some hv
      simp only [nxA, Option.elim_some]
      have e := valsC_snoc acc x
      unfold V4.cs at e
      rw [cond_f (show (((rnN (b :: l) : Nat) : Int) == 0) = false by rw [beq_eq_false_iff_ne]; omega), roomV_eq (by omega), cond_t (by rw [decide_eq_true (by omega), decide_eq_true (by omega)]; rfl), e, Int.toNat_natCast, List.take_length, e3]
      have ih := rg_loop fu k r n (acc ++ [x]) (by simp only [List.length_cons] at hl hr; omega) (by omega) (by omega) (by simp; omega)
      unfold rgLoop at ih
      rw [List.length_append, show (acc ++ [x]).isEmpty = false by cases acc <;> rfl] at ih
      simp only [Option.map_some, Bool.and_false]
      refine ih.trans ?_
      rcases getV r with _ | vs
      · rfl
      · simp only [Option.map_some, List.append_assoc, List.singleton_append]
def p_RGet : PFn := ⟨fun xs k => match xs with | [.str l] => bif decide (l.length ≤ 100000) then k (gtV ((getV l).getD []) (getV l).isSome) else none | _ => none, false⟩
theorem ok_RGet : FOK NGk Tabs 17 p_RGet := by
  refine fok wokk (allOK_cons ok_RNext allOK_nil) (h := hRg) Tryd.func17 rfl (by decide) ?_ ?_
  · intro R xs k
    simp only [p_RGet]
    split
    · exact cond_nat
    · rfl
  · intro xs r h
    simp only [p_RGet] at h
    split at h
    · rename_i l
      rcases hb : decide (l.length ≤ 100000) with _ | _ <;> rw [hb] at h
      · cases h
      · simp only [cond_true, Option.some.injEq] at h
        subst h
        simp only [decide_eq_true_eq] at hb
        refine ⟨l.length + 1, (rg_raw _ l).trans ((rg_loop _ l.length l _ [] (Nat.le_refl _) (by omega) hb (by simp; omega)).trans ?_)⟩
        rcases getV l with _ | vs <;> rfl
    · cases h
/-! ## KeysGets -/
noncomputable def lKg : List (FuncId × PFn) := [(10, p_first), (14, p_KeysGet), (17, p_RGet), (16, p_Same), (18, p_KeysNext), (19, p_RNext)]
theorem ok_lKg : AllOK NGk Tabs lKg := allOK_cons ok_first (allOK_cons ok_KeysGet (allOK_cons ok_RGet (allOK_cons ok_Same (allOK_cons ok_KeysNext (allOK_cons ok_RNext allOK_nil)))))
def noneIf : Nat → Bool → Option PV → Option PV
  | 0, _, x => x
  | n + 1, b, x => bif b then none else noneIf n b x
theorem noneIf_f : ∀ (n : Nat) {b : Bool} {x : Option PV}, b = false → noneIf n b x = x
  | 0, _, _, _ => rfl
  | n + 1, b, x, h => by rw [noneIf, cond_f h, noneIf_f n h]
def kgTail (A may lz : Bool) (X : Option PV) : Option PV :=
  bif A && !may then bif !lz && may then X else noneIf 6 (!lz && may) (some (.bool (lz || may && false)))
  else noneIf 2 (A && !may) (bif A && !(!may && false) && may then X else noneIf 6 (A && !(!may && false) && may) (some (.bool (A && (!may && false || may && false)))))
def getRO {R : Type} (l : List UInt8) (K : Option (List Val) → Option R) : Option R := bif decide (l.length ≤ 100000) then K (getV l) else none
theorem kg_raw (n0 : Option Bool) (l0 : Nat) (c0 : List PV) : prun (en lKg) ⟨[], []⟩ 0 false Tryd.f4 [.sl n0 1 l0 c0] =
    bif decide (1000 < (l0 : Int)) then some (.bool true) else getO l0 c0 fun g => (pbytes c0).bind fun v => getRO v fun w =>
      bif !!(g.isSome == w.isSome) then sameO (g.getD []).length (valsC (g.getD [])) (w.getD []).length (valsC (w.getD [])) fun s => bif !s then some (.bool false) else
        nextO l0 c0 fun l => (pbytes c0).bind fun v => rnO v (kgTail (eq4 (nxA (nextV l)).kind (nxA (nextV v)).kind (nxA (nextV l)).n (nxA (nextV v)).n (nxA (nextV l)).scale (nxA (nextV v)).scale (nxA (nextV l)).s (nxA (nextV v)).s && ((nextV l).isSome == decide (0 < ((rnN v : Nat) : Int)))) (nextV l).isSome (((nxR (nextV l)).length : Int) == 0)
          ((pbytes (bC (nxR (nextV l)))).bind fun v1 => bif decide (0 ≤ ((rnN v : Nat) : Int)) && decide (((rnN v : Nat) : Int) ≤ (l0 : Int)) then (pbytes ((c0.take (l0 * 1)).drop (((rnN v : Nat) : Int).toNat * 1))).bind fun v => some (.bool (v1 == v)) else none))
      else some (.bool false) := by kernel_rfl
theorem keysGetsLaw (W : World) (A : Option Addr) (n c : Nat) (l : List UInt8) (hs : Sl W 1 A n c (bvs l)) (h0 : A = none → c = 0) (hT : Tabs W) :
    Calls Tryd.prog 4 #[.slice A n c] W fun e W' => e = .returned (.bool true) ∧ Below W.heap.size W W' := by
  obtain ⟨B, hB⟩ := sl_rel hs h0 (fun M => rel_bvs M l)
  obtain rfl := sl_len1 hs
  refine law_run (vs := [.slice A l.length c]) (xs := [.sl none 1 l.length (bC l)]) (U := fun _ => B) (fuel := 0) (h := ⟨[], []⟩) wokk ok_lKg Tryd.func4 hT (tabs_size hT) ⟨_, _, rfl, hB _ (fun _ => Nat.le_refl _), rfl⟩ ?_
  rw [kg_raw]
  by_cases h1 : 1000 < l.length
  · rw [cond_t (decide_eq_true (by omega))]
  · rw [cond_f (decide_eq_false (by omega)), getO_eq (by omega), pbytes_bC]
    simp only [Option.bind_some]
    rw [getRO, cond_t (decide_eq_true (by omega)), cond_t (by simp)]
    have hgl : ((getV l).getD []).length ≤ 2000000 := by
      have : ∀ (k : Nat) (l : List UInt8) (vs : List Val), l.length ≤ k → getV l = some vs → vs.length ≤ k := by
        intro k
        induction k with
        | zero => intro l vs hl h; obtain rfl : l = [] := List.length_eq_zero_iff.1 (by omega); rw [getV_nil] at h; injection h with h; subst h; exact Nat.le_refl _
        | succ k ih =>
          intro l vs hl h
          by_cases hne : l = []
          · subst hne; rw [getV_nil] at h; injection h with h; subst h; exact Nat.zero_le _
          · rw [getV_step hne] at h
            rcases hv : nextV l with _ | ⟨x, r⟩ <;> rw [hv] at h
            · cases h
            · have hr := nextV_len hv
              dsimp only at h
              obtain ⟨us, hu, rfl⟩ := Option.map_eq_some_iff.1 h
              have := ih r us (by omega) hu
              simp only [List.length_cons]
              omega
      rcases hg : getV l with _ | vs
      · simp
      · have := this l.length l vs (Nat.le_refl _) hg
        simp only [Option.getD_some]
        omega
    rw [sameO_eq hgl, decide_eq_true rfl]
    simp only [Bool.not_true, cond_false]
    rw [nextO_eq (by omega), rnO_eq (by omega), eq4_val, decide_eq_true rfl]
    unfold kgTail
    rcases hv : nextV l with _ | ⟨x, r⟩
    · have e : rnN l = 0 := by unfold rnN; rw [hv]; rfl
      rw [e]; rfl
    · obtain ⟨e1, e2, e3⟩ := rnN_some hv
      rw [decide_eq_true (show (0 : Int) < ((rnN l : Nat) : Int) by omega)]
      simp only [Option.isSome_some, beq_self_eq_true, Bool.and_self, Bool.not_true, Bool.and_false, cond_false, Bool.false_and, Bool.not_false, Bool.true_and, cond_true]
      rw [noneIf_f 2 rfl, pbytes_bC]
      simp only [Option.bind_some]
      rw [cond_t (by rw [decide_eq_true (by omega), decide_eq_true (by omega)]; rfl), Int.toNat_natCast, Nat.mul_one, Nat.mul_one, List.take_of_length_le (by simp [bC]), show (bC l).drop (rnN l) = bC (l.drop (rnN l)) by rw [bC, bC, List.map_drop], pbytes_bC, e3]
      simp [nxR]
end Go.Proofs.YtclhnfalebiieaaDoor
