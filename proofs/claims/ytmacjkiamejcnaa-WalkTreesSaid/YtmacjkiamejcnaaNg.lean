/-
  WalkDiffs: its run, and what it computes.
-/
import Derived.Test.YtmacjkiamejcnaaNf
set_option linter.unusedVariables false
set_option linter.unusedSimpArgs false
set_option maxRecDepth 100000
namespace Go.Proofs.Ytmacjkiamejcnaa
open Go.RowKit
/-- a run up to a place in the code, and what follows -/
theorem prun_U {en : Env} {h : Hints} {fu : Nat} {own : Bool} {fn : Func} {args : List PV} {c : Code} (hb : fn.body = some c) (p : List Nat) :
    prun en h fu own fn args = pcodeU en h fu (pfin en own fn) (fun p cur st => loopF en h fu own fn p cur fu st) (restAt en h fu (pfin en own fn) (fun p cur st => loopF en h fu own fn p cur fu st) p c [] 0 (pfin en own fn) []) p c [] 0 (st0 fn.ntmps args) (pfin en own fn) [] := by
  rw [prunN_eq]
  unfold prunN
  rw [hb]
  exact pcodeU_rest ..
noncomputable def lD : List (FuncId × PFn) := [(10, p_first9), (20, p_rdiff), (21, p_texts)]
noncomputable def lhD : List (FuncId × HFn) := [(11, hPairs), (18, hDiff)]
noncomputable def enD : Env := enTx lD lhD
theorem ok_enD : EnvOK enD NGt Wt := env_okR (env_okA wokt (allOK_cons ok_first9 (allOK_cons ok_rdiff (allOK_cons ok_texts allOK_nil))) (allH_cons ok_pairs (allH_cons ok_diff allH_nil)) allI_nil allN_nil allC_nil) _
noncomputable def fWd : Func := Try.f4
noncomputable def wdC : Code := fWd.body.getD .skip
def frWd (s1 s2 : PV) (x y l m : PV) : St := ⟨(List.range 81).map fun t => (([(0, (s1, 0)), (1, (s2, 0)), (4, (.bool false, 0)), (18, (.bool true, 0)), (19, (.bool false, 0)), (21, (s1, 0)), (22, (.tupp [.ptr 22 0, l], 0)), (20, (.tupp [.ptr 22 0, l], 0)), (23, (.ptr 22 0, 0)), (24, (l, 0)), (5, (.ptr 22 0, 0)), (6, (l, 0)),
  (26, (s2, 0)), (27, (.tupp [.ptr 27 0, m], 0)), (25, (.tupp [.ptr 27 0, m], 0)), (28, (.ptr 27 0, 0)), (29, (m, 0)), (7, (.ptr 27 0, 0)), (8, (m, 0))] : List (Nat × TV)).lookup t).getD (.tuple [], 0), (List.range 81).map fun t => ([(22, [(x, 0)]), (27, [(y, 0)])] : List (Nat × List TV)).lookup t, .nil⟩
theorem wd_head (fu : Nat) (nm : List Nat → Nat → St → Option PV) (KM : St → Option PV) (na : Option Bool) (la : Nat) (ca : List PV) (nb : Option Bool) (lb : Nat) (cb : List PV) :
    pcodeU enD h0 fu (pfin enD false fWd) nm KM [1, 1, 1, 1] wdC [] 0 (st0 fWd.ntmps [.sl na 1 la ca, .sl nb 1 lb cb]) (pfin enD false fWd) [] =
      (gStrs la ca).bind fun ks => rootK (prGo ks 0 .nilptr []).1 fun x => (gStrs lb cb).bind fun js => rootK (prGo js 0 .nilptr []).1 fun y => KM (frWd (.sl na 1 la ca) (.sl nb 1 lb cb) x y (pSl (prGo ks 0 .nilptr []).2) (pSl (prGo js 0 .nilptr []).2)) := by kernel_rfl
def on3 {S : Type} (v : PV) (k : PV → Nat → PV → Nat → PV → Nat → Option S) : Option S := match v with | .tuple [.sl a 1 n c, .sl a' 1 n' c', .sl a'' 1 n'' c''] => k (.sl a 1 n c) n (.sl a' 1 n' c') n' (.sl a'' 1 n'' c'') n'' | _ => none
noncomputable def wdRest (fu : Nat) : St → Option PV := restAt enD h0 fu (pfin enD false fWd) (fun p cur st => loopF enD h0 fu false fWd p cur fu st) [1, 1, 1, 1] wdC [] 0 (pfin enD false fWd) []
theorem wd_rest (fu : Nat) {x y : PV} (hx : IsR x) (hy : IsR y) (s1 s2 : PV) (lf : Option Bool) (ln : Nat) (lc : List PV) (mf : Option Bool) (mn : Nat) (mc : List PV) :
    wdRest fu (frWd s1 s2 x y (.sl lf 2 ln lc) (.sl mf 2 mn mc)) =
      hDiff.F [[x], [y]] [.ptr 0 0, .ptr 1 0, cEq] fun _ v => on3 v fun g _ f _ c _ => p_rdiff.F [.sl lf 2 ln lc, .sl mf 2 mn mc] fun w => on3 w fun g' _ f' _ c' _ =>
        p_texts.F [g, g'] fun u => onB u fun b1 => bif !(!b1) then p_texts.F [f, f'] fun u => onB u fun b2 => bif !(!b2) then p_texts.F [c, c'] fun u => onB u fun b3 => bif !b3 then some (.bool false) else
          hDiff.F [[x]] [.ptr 0 0, .nilptr, .nilFunc] fun _ v => on3 v fun _ n1 _ n2 _ n3 => bif (n1 : Int) == (ln : Int) then (bif (n2 : Int) == 0 then some (.bool ((n3 : Int) == 0)) else some (.bool false)) else some (.bool false)
          else some (.bool false) else some (.bool false) := by
  rcases hx with rfl | ⟨cx, rfl⟩ <;> rcases hy with rfl | ⟨cy, rfl⟩ <;> kernel_rfl
theorem wd_true (ks js : List Ky) (na nb : Option Bool) : prun enD h0 0 false fWd [.sl na 1 ks.length (ks.map PV.str), .sl nb 1 js.length (js.map PV.str)] = some (.bool true) := by
  refine (prun_U (c := wdC) rfl [1, 1, 1, 1]).trans ?_
  refine (wd_head 0 _ _ na _ _ nb _ _).trans ?_
  obtain ⟨hx, hl⟩ := prGo_root ks 0 .nilptr [] (by omega) (.inl ⟨rfl, rfl⟩) (by simp)
  obtain ⟨hy, hm⟩ := prGo_root js 0 .nilptr [] (by omega) (.inl ⟨rfl, rfl⟩) (by simp)
  rw [gStrs_map, Option.bind_some, rootK_eq hx.isR, gStrs_map, Option.bind_some, rootK_eq hy.isR]
  generalize (prGo ks 0 .nilptr []).1 = x at hx ⊢
  generalize (prGo ks 0 .nilptr []).2 = l at hx hl ⊢
  generalize (prGo js 0 .nilptr []).1 = y at hy ⊢
  generalize (prGo js 0 .nilptr []).2 = m at hy hm ⊢
  refine (wd_rest 0 hx.isR hy.isR _ _ _ _ _ _ _ _).trans ?_
  have e1 : ∀ {R : Type} (K : List (List PV) → PV → Option R), hDiff.F [[x], [y]] [.ptr 0 0, .ptr 1 0, cEq] K = K [[x], [y]] (.tuple [ssl (goneK l m), ssl (goneK m l), ssl (chgK l m)]) := fun K => by
    show ((gRt x).bind _) = _
    rw [gRt_of hx (by omega), Option.bind_some, gRt_of hy (by omega), Option.bind_some, cond_t (by rfl)]
  have e2 : ∀ {R : Type} (K : List (List PV) → PV → Option R), hDiff.F [[x]] [.ptr 0 0, .nilptr, .nilFunc] K = K [[x]] (.tuple [ssl (l.map (·.1)), nilS, nilS]) := fun K => by
    show ((gRt x).bind _) = _
    rw [gRt_of hx (by omega), Option.bind_some]
  have e3 : ∀ {R : Type} (K : PV → Option R), p_rdiff.F [.sl (some l.isEmpty) 2 l.length (pcs l), .sl (some m.isEmpty) 2 m.length (pcs m)] K = K (.tuple [ssl (goneK l m), ssl (goneK m l), ssl (chgK l m)]) := fun K => by
    simp only [p_rdiff]
    rw [gP_of (by omega) hx.vok, Option.bind_some, gP_of (by omega) hy.vok, Option.bind_some]
  have g1 := goneK_len l m
  have g2 := goneK_len m l
  have g3 := chgK_len l m
  rw [e1]
  simp only [on3, ssl]
  rw [e3]
  simp only [on3, ssl]
  have t1 := fun {R : Type} (K : PV → Option R) => texts_law (R := R) (a := goneK l m) (by omega) K
  have t2 := fun {R : Type} (K : PV → Option R) => texts_law (R := R) (a := goneK m l) (by omega) K
  have t3 := fun {R : Type} (K : PV → Option R) => texts_law (R := R) (a := chgK l m) (by omega) K
  unfold ssl at t1 t2 t3
  rw [t1]
  simp only [onB]
  rw [cond_t (by rfl), t2]
  simp only
  rw [cond_t (by rfl), t3]
  simp only
  rw [cond_f (by rfl), e2]
  simp only [on3, ssl, nilS]
  rw [List.length_map, cond_t (by simp)]
  rfl
end Go.Proofs.Ytmacjkiamejcnaa
