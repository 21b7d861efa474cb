/-
  List over Take over Map over Values over Filter over From; List over Keys over Filter over From: contracts.
-/
import Derived.Test.YtmacjkiamejcnaaNk
import Derived.Test.YtmacjkiamejcnaaNl
import Derived.Test.YtmacjkiamejcnaaNi
set_option linter.unusedVariables false
set_option linter.unusedSimpArgs false
set_option maxRecDepth 100000
namespace Go.Proofs.Ytmacjkiamejcnaa
open Go.RowKit
/-- a slice of numbers -/
def isl (l : List Int) : PV := .sl (some l.isEmpty) 1 l.length (l.map (PV.int .i64))
theorem ap_int : bytesOf Try.prog 3 = 8 := by kernel_rfl
theorem apI_t {S : Type} {n m : Nat} (h : n + m ≤ 1000000) (k : Option S) : Wf.apI n m k = k := by
  unfold Wf.apI
  rw [ap_int, cond_t]
  rw [decide_eq_true (by omega), decide_eq_true (by unfold roomB; omega)]
  rfl
theorem apT_t {S : Type} {n m : Nat} (h : n + m ≤ 1000000) (k : Option S) : Wk.apT n m k = k := apS_t h k
theorem flag_int {l : List Int} {p : Int} : (some l.isEmpty).map (· && ((1 : Nat) == 0)) = some (l ++ [p]).isEmpty := by simp
theorem int_one (v : Int) (l : List Int) : l.map (PV.int .i64) ++ [.int .i64 v] = (l ++ [v]).map (PV.int .i64) := by simp
/-- what the walk leaves: asked, turned, the list; 'b': asked so far, 'k': how many may come -/
def wfGo (m : Int) : List (Ky × PV) → Int → Int → Int → List Int → Int × Int × List Int
  | [], b, u, _, out => (b, u, out)
  | p :: L, b, u, k, out => bif (valP p.2).tmod m == 0 then
      bif k - 1 == 0 then (b + 1, u + 1, out ++ [IntKind.i64.wrap (2 * valP p.2)]) else wfGo m L (b + 1) (u + 1) (k - 1) (out ++ [IntKind.i64.wrap (2 * valP p.2)])
    else wfGo m L (b + 1) u k out
section
variable {R : Type} (kk : List (List PV) → PV → Option R)
theorem wf_walk (nn m : Int) (hm : m ≠ 0) {x : PV} {l : List (Ky × PV)} (hx : RfOK x [] l) : ∀ (L : List (Ky × PV)) (b a u k : Int) (out : List Int), (∀ p ∈ L, vok p.2 = true) → out.length + L.length ≤ 900 → 0 ≤ b → b + L.length ≤ 1000 → 0 ≤ u → u + L.length ≤ 1000 → 1 ≤ k → k ≤ 1000 →
    walkY (Wf.yFl gFoA nn) L [[.ptr 2 0], [.str []], [x]] (Wf.outW nn b a u m x k (isl out) none) (fun bs o b => Wf.kF gFoA nn kk bs o (.tuple [])) = kk (Wf.bsL nn (wfGo m L b u k out).1 (wfGo m L b u k out).2.1 m x) (.tuple [isl (wfGo m L b u k out).2.2, .bool true])
  | [], b, a, u, k, out, hv, h1, h2, h3, h4, h5, h6, h7 => Wf.wf_end gFoA kk nn b a u m hx.isR k _ _ _
  | p :: L, b, a, u, k, out, hv, h1, h2, h3, h4, h5, h6, h7 => by
    have hvp := hv p List.mem_cons_self
    have hlen : (p :: L).length = L.length + 1 := rfl
    have hst := Wf.wf_step (R := List (List PV) × Out × Bool) gFoA nn b a u m hx.isR k (some out.isEmpty) out.length (out.map (PV.int .i64)) p.1 (valP p.2) (fun b o v => some (b, o, v))
    rw [valP_eq hvp, cond_f (b := m == 0) (beq_eq_false_iff_ne.2 hm), cond_f (b := decide ((1000 : Int) ≤ _)) (decide_eq_false (by omega)), apI_t (by omega), flag_int (p := IntKind.i64.wrap (2 * valP p.2)), int_one, show out.length + 1 = (out ++ [IntKind.i64.wrap (2 * valP p.2)]).length by simp,
      wrapI_of (x := b + 1) (by omega) (by omega), wrapI_of (x := u + 1) (by omega) (by omega), wrapI_of (x := k - 1) (by omega) (by omega)] at hst
    simp only [walkY, wfGo]
    unfold yF
    refine (congrArg (fun o => Option.bind o _) hst).trans ?_
    cases hq : (valP p.2).tmod m == 0 with
    | true =>
      rw [cond_true, cond_true]
      cases hk : k - 1 == 0 with
      | true =>
        rw [cond_true, cond_true, Option.bind_some]
        show (bif shpB [[.ptr 2 0], [.str []], [x]] then (bif false then _ else _) else none) = _
        rw [shp_of hx.isR, cond_true, cond_false]
        exact Wf.wf_endR gFoA kk nn (b + 1) (b + 1) (u + 1) m hx.isR (k - 1) _ _ _
      | false =>
        have hk' : k - 1 ≠ 0 := beq_eq_false_iff_ne.1 hk
        rw [cond_false, cond_false, Option.bind_some]
        show (bif shpB [[.ptr 2 0], [.str []], [x]] then (bif true then _ else _) else none) = _
        rw [shp_of hx.isR, cond_true, cond_true]
        exact wf_walk nn m hm hx L (b + 1) (b + 1) (u + 1) (k - 1) _ (fun q hq => hv q (List.mem_cons_of_mem _ hq)) (by simp; omega) (by omega) (by omega) (by omega) (by omega) (by omega) (by omega)
    | false =>
      rw [cond_false, cond_false, Option.bind_some]
      show (bif shpB [[.ptr 2 0], [.str []], [x]] then (bif true then _ else _) else none) = _
      rw [shp_of hx.isR, cond_true, cond_true]
      exact wf_walk nn m hm hx L (b + 1) a u k out (fun q hq => hv q (List.mem_cons_of_mem _ hq)) (by omega) (by omega) (by omega) h4 (by omega) h6 h7
theorem wk_walk2 {x : PV} {l : List (Ky × PV)} (hx : RfOK x [] l) : ∀ (L : List (Ky × PV)) (out : List Ky), (∀ p ∈ L, vok p.2 = true) → out.length + L.length ≤ 900 →
    walkY (Wk.yFl gFoA) L [[.ptr 2 0], [.str []], [x]] (Wk.outK x (ssl out)) (fun bs o b => Wk.kF gFoA kk bs o (.tuple [])) = kk (Wk.bsL x) (.tuple [ssl (out ++ L.map (·.1)), .bool true])
  | [], out, hv, h1 => by
    rw [List.map_nil, List.append_nil]
    exact Wk.wk_end gFoA kk hx.isR _ _ _
  | p :: L, out, hv, h1 => by
    have hvp := hv p List.mem_cons_self
    have hlen : (p :: L).length = L.length + 1 := rfl
    have hst := Wk.wk_step (R := List (List PV) × Out × Bool) gFoA hx.isR (some out.isEmpty) out.length (out.map PV.str) p.1 (valP p.2) (fun b o v => some (b, o, v))
    rw [valP_eq hvp, cond_f (b := decide ((1000 : Int) ≤ _)) (decide_eq_false (by omega)), apT_t (by omega), flag_str (p := p.1), str_one, show out.length + 1 = (out ++ [p.1]).length by simp] at hst
    simp only [walkY]
    unfold yF
    refine (congrArg (fun o => Option.bind o _) hst).trans ?_
    rw [Option.bind_some]
    show (bif shpB [[.ptr 2 0], [.str []], [x]] then (bif true then _ else _) else none) = _
    rw [shp_of hx.isR, cond_true, cond_true]
    refine (wk_walk2 hx L (out ++ [p.1]) (fun q hq => hv q (List.mem_cons_of_mem _ hq)) (by simp; omega)).trans ?_
    rw [List.append_assoc, List.singleton_append, List.map_cons]
end
end Go.Proofs.Ytmacjkiamejcnaa
