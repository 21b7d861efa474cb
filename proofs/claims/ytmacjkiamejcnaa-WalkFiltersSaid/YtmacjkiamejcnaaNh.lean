/-
  list of a walk between two keys, and of one over a prefix: raw runs.
-/
import Derived.Test.YtmacjkiamejcnaaNf
set_option linter.unusedVariables false
set_option linter.unusedSimpArgs false
set_option maxRecDepth 100000
namespace Go.Proofs.Ytmacjkiamejcnaa
open Go.RowKit
/-- a text begins with another -/
def preB (q s : Ky) : Bool := bif decide (((q.length : Nat) : Int) ≤ ((s.length : Nat) : Int)) then s.take q.length == q else false
def p_hpre : PFn := ⟨fun xs k => match xs with | [.str s, .str q] => k (.bool (preB q s)) | _ => none, false⟩
theorem hp_raw1 (s q : Ky) : prun (en []) h0 0 false Try.f79 [.str s, .str q] = bif decide (((q.length : Nat) : Int) ≤ ((s.length : Nat) : Int)) then (bif decide ((0 : Int) ≤ ((q.length : Nat) : Int)) && decide (((q.length : Nat) : Int) ≤ ((s.length : Nat) : Int)) then some (.bool (((s.take ((q.length : Nat) : Int).toNat).drop 0) == q)) else none) else some (.bool false) := by kernel_rfl
theorem ok_hpre0 : FOK NGt Wt 79 p_hpre := by
  refine fok wokt allOK_nil (h := h0) Try.func79 rfl (by decide) ?_ ?_
  · intro R xs k
    simp only [p_hpre]
    split <;> rfl
  · intro xs r h
    simp only [p_hpre] at h
    split at h
    · rename_i s q
      refine ⟨0, (hp_raw1 s q).trans ?_⟩
      rw [← h]
      unfold preB
      by_cases hl : q.length ≤ s.length
      · rw [show decide (((q.length : Nat) : Int) ≤ ((s.length : Nat) : Int)) = true from decide_eq_true (by omega), cond_true, cond_true, show decide ((0 : Int) ≤ ((q.length : Nat) : Int)) = true from decide_eq_true (by omega), cond_t (by rfl)]
        rfl
      · rw [show decide (((q.length : Nat) : Int) ≤ ((s.length : Nat) : Int)) = false from decide_eq_false (by omega), cond_false, cond_false]
    · cases h
theorem ok_hpre : FOK NGt Wt 58 p_hpre := by
  refine fok wokt (allOK_cons ok_hpre0 allOK_nil) (h := h0) Try.func58 rfl (by decide) ?_ ?_
  · intro R xs k
    simp only [p_hpre]
    split <;> rfl
  · intro xs r h
    simp only [p_hpre] at h
    split at h
    · rename_i s q
      have e : prun (en [(79, p_hpre)]) h0 0 false Try.f58 [.str s, .str q] = some (.bool (preB q s)) := by kernel_rfl
      exact ⟨0, e.trans h⟩
    · cases h
open Classical in
/-- as evalI; of a 'yield' that is not natural nothing is said -/
noncomputable def evalJ (l : List (FuncId × PFn)) (lh : List (FuncId × HFn)) (li : List (FuncId × IFn)) (h : Hints) (fuel : Nat) (fn : Func) : IFn := ⟨fun bs o xs y k => if y.nat then prunI (enH l lh li) h fuel fn bs o xs y k else none⟩
theorem evalJ_eq {l : List (FuncId × PFn)} {lh : List (FuncId × HFn)} {li : List (FuncId × IFn)} {h : Hints} {fuel : Nat} {fn : Func} {R : Type} {bs : List (List PV)} {o : Out} {xs : List PV} {y : YFn} (hy : y.nat) {k : List (List PV) → Out → PV → Option R} : (evalJ l lh li h fuel fn).F bs o xs y k = prunI (enH l lh li) h fuel fn bs o xs y k := if_pos hy
open Classical in
theorem evalJ_ok {l : List (FuncId × PFn)} (hl : AllOK NGt Wt l) {lh : List (FuncId × HFn)} (hh : AllH NGt Wt lh) {li : List (FuncId × IFn)} (hi : AllI NGt Wt li) {h : Hints} {fuel : Nat} {f : FuncId} {fn : Func} (hf : Try.prog.funcs[f]? = some fn) (hb : fn.body.isSome = true) (hname : fn.name ≠ "runtime.NumGoroutine") : IOK NGt Wt f (evalJ l lh li h fuel fn) := by
  refine iok wokt hl hh hi (h := h) hf hb hname ?_ ?_
  · intro R bs o xs y k
    show (if y.nat then _ else none) = Option.bind (if y.nat then _ else none) _
    by_cases hy : y.nat
    · rw [if_pos hy, if_pos hy]
      exact prunI_nat (env_okH wokt hl hh hi).nat hy (kk := fun b o v => some (b, o, v)) (k := fun r => k r.1 r.2.1 r.2.2)
    · rw [if_neg hy, if_neg hy]
      rfl
  · intro bs o xs y r hy h
    exact ⟨fuel, (evalJ_eq hy).symm.trans h⟩
/-- what follows a loop over a function -/
def rangeEnd {R : Type} (n : Nat) (ids : List Nat) (ρ : List TV) (kj : Option Jump → St → Option R) (bs : List (List PV)) (o : Out) : Option R :=
  match o with
  | .fr bx j o' =>
    if bs.length = ids.length then
      match mapO (mapO (renP (fun j => ids[j]?) false 4)) bs with
      | some bs => kj j ⟨ρ, setBoxes (zipN ids bs) (bxOf n bx), o'⟩
      | none => none
    else none
  | .nil => none
def jumpK {R : Type} (id : Nat) (kn kr : St → Option R) (j : Option Jump) (st : St) : Option R :=
  match j with
  | none => kn st
  | some .ret => kr st
  | some (.exit i) => match ([(id, kn)] : List (Nat × (St → Option R))).lookup i with
    | some k => k st
    | none => none
section
variable {R : Type} (gf : List PV → Ky → Option (List (Ky × PV)))
noncomputable def fBt : Func := Try.f56
noncomputable def fPx : Func := Try.f57
noncomputable def fLi : Func := Try.f13
noncomputable def lhFr : List (FuncId × HFn) := [(23, hFrom 60)]
noncomputable def liFr : List (FuncId × IFn) := [(60, iWalk gf)]
noncomputable def lHp : List (FuncId × PFn) := [(58, p_hpre)]
noncomputable def iBtw : IFn := evalJ [] lhFr (liFr gf) h0 0 fBt
noncomputable def iPre : IFn := evalJ lHp lhFr (liFr gf) h0 0 fPx
noncomputable def enLi : Env := enH [] [] [(56, iBtw gf), (57, iPre gf)]
def nil2 : PV := .sl (some true) 2 0 []
/-! ### between -/
def cBt : PV := .clo 56 [.ptr 21 0, .ptr 22 0, .ptr 23 0]
def liρ : List TV := [(cBt, 0), (.tuple [], 0), (nil2, 1), (.ptr 25 0, 0), (.tuple [], 0), (.tuple [], 0), (cBt, 0), (.bool false, 0), (cBt, 0)] ++ List.replicate 12 (.tuple [], 0)
def liBx (f t : Ky) (x out : PV) : List (Option (List TV)) := [some [(.ptr 24 0, 0)], some [(.str f, 0)], some [(.str t, 0)], some [(x, 0)], some [(out, 48)]]
noncomputable def liY : YFn := rangeY [21, 22, 23, 24] #[9, 10] liρ (fun {S} st k => rfRun (S := S) (enLi gf) h0 0 (subC [1, 1, 1, 0, 1, 0] (fLi.body.getD .skip)) [0] st k)
noncomputable def enBt : Env := { enH [] lhFr (liFr gf) with Y := some (4, liY gf) }
def btρ (f : Ky) : List TV := [(.yld, 0), (.ptr 26 0, 0), (.ptr 27 0, 0), (.ptr 28 0, 0), (.ptr 31 0, 0), (.tuple [], 0), (.tuple [], 0), (.ptr 29 0, 0), (.str f, 0), (.clo 60 [.ptr 32 0, .ptr 30 0], 0)] ++ List.replicate 16 (.tuple [], 0)
def btBx (f t : Ky) (x : PV) : List (Option (List TV)) := [some [(.ptr 29 0, 0)], some [(.str f, 0)], some [(.str t, 0)], some [(x, 0)], some [(.str f, 0)], some [(.yld, 0)], some [(.ptr 29 0, 0)]]
noncomputable def btY (f : Ky) : YFn := rangeY [32, 30, 29] #[10, 11] (btρ f) (fun {S} st k => rfRun (S := S) (enBt gf) h0 0 (subC [1, 1, 0] (fBt.body.getD .skip)) [0] st k)
noncomputable def liKr (nl : Nat) (kk : List (List PV) → PV → Option R) (st : St) : Option R := pfinH (enLi gf) nl fLi st fun bs _ v => kk bs v
noncomputable def liK (nl : Nat) (kk : List (List PV) → PV → Option R) (st : St) : Option R := pcode (enLi gf) h0 0 (subC [1, 1, 1, 1] (fLi.body.getD .skip)) (liKr gf nl kk) 0 st (liKr gf nl kk) []
noncomputable def btKr (kk : List (List PV) → PV → Option R) (st : St) : Option R := pfinH (enH [] lhFr (liFr gf)) 4 fBt st fun bs o v => if bs.length = 4 then rangeEnd 21 [21, 22, 23, 24] liρ (jumpK 0 (liK gf 4 kk) (liKr gf 4 kk)) bs o else none
noncomputable def li1 (kk : List (List PV) → PV → Option R) : List (List PV) → Out → PV → Option R := fun bs o _ => rangeEnd 21 [21, 22, 23, 24] liρ (jumpK 0 (liK gf 4 kk) (liKr gf 4 kk)) bs o
theorem bt_raw0 (kk : List (List PV) → PV → Option R) (f t : Ky) {x : PV} (hx : IsR x) :
    prunH (enLi gf) h0 0 fLi [[.ptr 3 0], [.str f], [.str t], [x]] [.clo 56 [.ptr 0 0, .ptr 1 0, .ptr 2 0]] kk =
      (iBtw gf).F [[.ptr 3 0], [.str f], [.str t], [x]] (.fr (liBx f t x nil2) none .nil) [.yld, .ptr 0 0, .ptr 1 0, .ptr 2 0] (liY gf) (li1 gf kk) := by
  rcases hx with rfl | ⟨cx, rfl⟩ <;> kernel_rfl
theorem bt_raw1 (kk : List (List PV) → PV → Option R) (f t : Ky) {x : PV} (hx : IsR x) :
    prunI (enH [] lhFr (liFr gf)) h0 0 fBt [[.ptr 3 0], [.str f], [.str t], [x]] (.fr (liBx f t x nil2) none .nil) [.yld, .ptr 0 0, .ptr 1 0, .ptr 2 0] (liY gf) (li1 gf kk) =
      (iWalk gf).F [[.ptr 2 0], [.str f], [x]] (.fr (btBx f t x) none (.fr (liBx f t x nil2) none .nil)) [.yld, .ptr 0 0, .ptr 1 0] (btY gf f) fun bs o _ => rangeEnd 26 [32, 30, 29] (btρ f) (jumpK 0 (btKr gf kk) (btKr gf kk)) bs o := by
  rcases hx with rfl | ⟨cx, rfl⟩ <;> kernel_rfl
theorem bt_step (f t : Ky) {x : PV} (hx : IsR x) (no : Option Bool) (lo : Nat) (co : List PV) (k : Ky) (v : Int) (G : List (List PV) → Out → Bool → Option R) :
    (btY gf f).F [[.ptr 2 0], [.str f], [x]] (.fr (btBx f t x) none (.fr (liBx f t x (.sl no 2 lo co)) none .nil)) [.str k, .int .i64 v] G =
      bif !(bif t != [] then !Op.bytesLess k t else false) then
        apR lo 1 (bif decide (1000 < ((lo + 1 : Nat) : Int)) then G [[.ptr 2 0], [.str f], [x]] (.fr (btBx f t x) (some .ret) (.fr (liBx f t x (.sl (no.map (· && (1 == 0))) 2 (lo + 1) (co ++ [.str k, .int .i64 v]))) (some (.exit 0)) .nil)) false
          else G [[.ptr 2 0], [.str f], [x]] (.fr (btBx f t x) none (.fr (liBx f t x (.sl (no.map (· && (1 == 0))) 2 (lo + 1) (co ++ [.str k, .int .i64 v]))) none .nil)) true)
      else G [[.ptr 2 0], [.str f], [x]] (.fr (btBx f t x) (some .ret) (.fr (liBx f t x (.sl no 2 lo co)) none .nil)) false := by
  rcases hx with rfl | ⟨cx, rfl⟩ <;> kernel_rfl
theorem bt_end (kk : List (List PV) → PV → Option R) (f t : Ky) {x : PV} (hx : IsR x) (no : Option Bool) (lo : Nat) (co : List PV) :
    rangeEnd 26 [32, 30, 29] (btρ f) (jumpK 0 (btKr gf kk) (btKr gf kk)) [[.ptr 2 0], [.str f], [x]] (.fr (btBx f t x) none (.fr (liBx f t x (.sl no 2 lo co)) none .nil)) = kk [[.ptr 3 0], [.str f], [.str t], [x]] (.sl no 2 lo co) := by
  rcases hx with rfl | ⟨cx, rfl⟩ <;> kernel_rfl
theorem bt_endR (kk : List (List PV) → PV → Option R) (f t : Ky) {x : PV} (hx : IsR x) (no : Option Bool) (lo : Nat) (co : List PV) :
    rangeEnd 26 [32, 30, 29] (btρ f) (jumpK 0 (btKr gf kk) (btKr gf kk)) [[.ptr 2 0], [.str f], [x]] (.fr (btBx f t x) (some .ret) (.fr (liBx f t x (.sl no 2 lo co)) none .nil)) = kk [[.ptr 3 0], [.str f], [.str t], [x]] (.sl no 2 lo co) := by
  rcases hx with rfl | ⟨cx, rfl⟩ <;> kernel_rfl
/-! ### between, of no tree -/
def cBn : PV := .clo 56 [.ptr 21 0, .ptr 22 0, .ptr 23 0]
def lnρ : List TV := [(cBn, 0), (.tuple [], 0), (nil2, 1), (.ptr 24 0, 0), (.tuple [], 0), (.tuple [], 0), (cBn, 0), (.bool false, 0), (cBn, 0)] ++ List.replicate 12 (.tuple [], 0)
def lnBx (f t : Ky) (out : PV) : List (Option (List TV)) := [some [(.nilptr, 0)], some [(.str f, 0)], some [(.str t, 0)], some [(out, 47)]]
noncomputable def lnY : YFn := rangeY [21, 22, 23] #[9, 10] lnρ (fun {S} st k => rfRun (S := S) (enLi gf) h0 0 (subC [1, 1, 1, 0, 1, 0] (fLi.body.getD .skip)) [0] st k)
noncomputable def ln1 (kk : List (List PV) → PV → Option R) : List (List PV) → Out → PV → Option R := fun bs o _ => rangeEnd 21 [21, 22, 23] lnρ (jumpK 0 (liK gf 3 kk) (liKr gf 3 kk)) bs o
theorem bn_raw0 (kk : List (List PV) → PV → Option R) (f t : Ky) :
    prunH (enLi gf) h0 0 fLi [[.nilptr], [.str f], [.str t]] [.clo 56 [.ptr 0 0, .ptr 1 0, .ptr 2 0]] kk =
      (iBtw gf).F [[.nilptr], [.str f], [.str t]] (.fr (lnBx f t nil2) none .nil) [.yld, .ptr 0 0, .ptr 1 0, .ptr 2 0] (lnY gf) (ln1 gf kk) := by kernel_rfl
theorem bn_raw1 (kk : List (List PV) → PV → Option R) (f t : Ky) :
    prunI (enH [] lhFr (liFr gf)) h0 0 fBt [[.nilptr], [.str f], [.str t]] (.fr (lnBx f t nil2) none .nil) [.yld, .ptr 0 0, .ptr 1 0, .ptr 2 0] (lnY gf) (ln1 gf kk) = kk [[.nilptr], [.str f], [.str t]] nil2 := by kernel_rfl
/-! ### with a prefix -/
def cPx : PV := .clo 57 [.ptr 21 0, .ptr 22 0]
def lpρ : List TV := [(cPx, 0), (.tuple [], 0), (nil2, 1), (.ptr 24 0, 0), (.tuple [], 0), (.tuple [], 0), (cPx, 0), (.bool false, 0), (cPx, 0)] ++ List.replicate 12 (.tuple [], 0)
def lpBx (f : Ky) (x out : PV) : List (Option (List TV)) := [some [(.ptr 23 0, 0)], some [(.str f, 0)], some [(x, 0)], some [(out, 47)]]
noncomputable def lpY : YFn := rangeY [21, 22, 23] #[9, 10] lpρ (fun {S} st k => rfRun (S := S) (enLi gf) h0 0 (subC [1, 1, 1, 0, 1, 0] (fLi.body.getD .skip)) [0] st k)
noncomputable def enPx : Env := { enH lHp lhFr (liFr gf) with Y := some (3, lpY gf) }
def pxρ (f : Ky) : List TV := [(.yld, 0), (.ptr 22 0, 0), (.ptr 23 0, 0), (.ptr 26 0, 0), (.tuple [], 0), (.tuple [], 0), (.ptr 24 0, 0), (.str f, 0), (.clo 60 [.ptr 27 0, .ptr 25 0], 0)] ++ List.replicate 13 (.tuple [], 0)
def pxBx (f : Ky) (x : PV) : List (Option (List TV)) := [some [(.ptr 24 0, 0)], some [(.str f, 0)], some [(x, 0)], some [(.str f, 0)], some [(.yld, 0)], some [(.ptr 24 0, 0)]]
noncomputable def pxY (f : Ky) : YFn := rangeY [27, 25, 24] #[9, 10] (pxρ f) (fun {S} st k => rfRun (S := S) (enPx gf) h0 0 (subC [1, 1, 0] (fPx.body.getD .skip)) [0] st k)
noncomputable def pxKr (kk : List (List PV) → PV → Option R) (st : St) : Option R := pfinH (enH lHp lhFr (liFr gf)) 3 fPx st fun bs o v => if bs.length = 3 then rangeEnd 21 [21, 22, 23] lpρ (jumpK 0 (liK gf 3 kk) (liKr gf 3 kk)) bs o else none
noncomputable def lp1 (kk : List (List PV) → PV → Option R) : List (List PV) → Out → PV → Option R := fun bs o _ => rangeEnd 21 [21, 22, 23] lpρ (jumpK 0 (liK gf 3 kk) (liKr gf 3 kk)) bs o
theorem px_raw0 (kk : List (List PV) → PV → Option R) (f : Ky) {x : PV} (hx : IsR x) :
    prunH (enLi gf) h0 0 fLi [[.ptr 2 0], [.str f], [x]] [.clo 57 [.ptr 0 0, .ptr 1 0]] kk =
      (iPre gf).F [[.ptr 2 0], [.str f], [x]] (.fr (lpBx f x nil2) none .nil) [.yld, .ptr 0 0, .ptr 1 0] (lpY gf) (lp1 gf kk) := by
  rcases hx with rfl | ⟨cx, rfl⟩ <;> kernel_rfl
theorem px_raw1 (kk : List (List PV) → PV → Option R) (f : Ky) {x : PV} (hx : IsR x) :
    prunI (enH lHp lhFr (liFr gf)) h0 0 fPx [[.ptr 2 0], [.str f], [x]] (.fr (lpBx f x nil2) none .nil) [.yld, .ptr 0 0, .ptr 1 0] (lpY gf) (lp1 gf kk) =
      (iWalk gf).F [[.ptr 2 0], [.str f], [x]] (.fr (pxBx f x) none (.fr (lpBx f x nil2) none .nil)) [.yld, .ptr 0 0, .ptr 1 0] (pxY gf f) fun bs o _ => rangeEnd 22 [27, 25, 24] (pxρ f) (jumpK 0 (pxKr gf kk) (pxKr gf kk)) bs o := by
  rcases hx with rfl | ⟨cx, rfl⟩ <;> kernel_rfl
theorem px_step (f : Ky) {x : PV} (hx : IsR x) (no : Option Bool) (lo : Nat) (co : List PV) (k : Ky) (v : Int) (G : List (List PV) → Out → Bool → Option R) :
    (pxY gf f).F [[.ptr 2 0], [.str f], [x]] (.fr (pxBx f x) none (.fr (lpBx f x (.sl no 2 lo co)) none .nil)) [.str k, .int .i64 v] G =
      bif !(!preB f k) then
        apR lo 1 (bif decide (1000 < ((lo + 1 : Nat) : Int)) then G [[.ptr 2 0], [.str f], [x]] (.fr (pxBx f x) (some .ret) (.fr (lpBx f x (.sl (no.map (· && (1 == 0))) 2 (lo + 1) (co ++ [.str k, .int .i64 v]))) (some (.exit 0)) .nil)) false
          else G [[.ptr 2 0], [.str f], [x]] (.fr (pxBx f x) none (.fr (lpBx f x (.sl (no.map (· && (1 == 0))) 2 (lo + 1) (co ++ [.str k, .int .i64 v]))) none .nil)) true)
      else G [[.ptr 2 0], [.str f], [x]] (.fr (pxBx f x) (some .ret) (.fr (lpBx f x (.sl no 2 lo co)) none .nil)) false := by
  rcases hx with rfl | ⟨cx, rfl⟩ <;> kernel_rfl
theorem px_end (kk : List (List PV) → PV → Option R) (f : Ky) {x : PV} (hx : IsR x) (no : Option Bool) (lo : Nat) (co : List PV) :
    rangeEnd 22 [27, 25, 24] (pxρ f) (jumpK 0 (pxKr gf kk) (pxKr gf kk)) [[.ptr 2 0], [.str f], [x]] (.fr (pxBx f x) none (.fr (lpBx f x (.sl no 2 lo co)) none .nil)) = kk [[.ptr 2 0], [.str f], [x]] (.sl no 2 lo co) := by
  rcases hx with rfl | ⟨cx, rfl⟩ <;> kernel_rfl
theorem px_endR (kk : List (List PV) → PV → Option R) (f : Ky) {x : PV} (hx : IsR x) (no : Option Bool) (lo : Nat) (co : List PV) :
    rangeEnd 22 [27, 25, 24] (pxρ f) (jumpK 0 (pxKr gf kk) (pxKr gf kk)) [[.ptr 2 0], [.str f], [x]] (.fr (pxBx f x) (some .ret) (.fr (lpBx f x (.sl no 2 lo co)) none .nil)) = kk [[.ptr 2 0], [.str f], [x]] (.sl no 2 lo co) := by
  rcases hx with rfl | ⟨cx, rfl⟩ <;> kernel_rfl
end
end Go.Proofs.Ytmacjkiamejcnaa
