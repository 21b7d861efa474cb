/-
  TreeWalks: raw runs.
-/
import Derived.Test.YtmacjkiamejcnaaUp
set_option linter.unusedVariables false
set_option linter.unusedSimpArgs false
set_option maxRecDepth 100000
namespace Go.Proofs.Ytmacjkiamejcnaa
open Go.RowKit
noncomputable def enW : Env := enR (enA lL lH [(60, iWalk gFoA), (75, iWalk gBaA)] [] []) [93]
theorem ok_enW : EnvOK enW NGt Wt := env_okR (env_okA wokt ok_lL ok_lH (allI_cons okFrom1 (allI_cons okBack1 allI_nil)) allN_nil allC_nil) _
noncomputable def fWk : Func := Try.f9
def hWk : Hints := ⟨[(0, ⟨[(3, false), (4, false), (5, false)], [3, 4, 5, 26]⟩)], [(0, ⟨[(3, false), (4, false), (5, false), (27, false), (28, false), (29, false)], [3, 4, 5, 26]⟩)]⟩
def frWk0 (s : Int) (x : PV) (nl : Option Bool) (n : Nat) (c : List PV) (L i : Int) : St := frame 155 [(3, (.ptr 3 0, 0)), (4, (.ptr 4 0, 0)), (5, (.ptr 5 0, 0)), (27, (.sl nl 1 n c, 0)), (28, (.int .i64 L, 0)), (29, (.int .i64 i, 0))] [(3, [(.int .u8 s, 0)]), (4, [(.bool false, 0)]), (5, [(.ptr 26 0, 0)]), (26, [(x, 0)])]
def frWk1 (s : Int) (x : PV) : St := frame 155 [(3, (.ptr 3 0, 0)), (4, (.ptr 4 0, 0)), (5, (.ptr 5 0, 0))] [(3, [(.int .u8 s, 0)]), (4, [(.bool false, 0)]), (5, [(.ptr 26 0, 0)]), (26, [(x, 0)])]
noncomputable def wkLoop (fu n : Nat) (st : St) : Option PV := loopF enW hWk fu false fWk [1, 1, 1, 1, 0, 1, 0] 0 n st
noncomputable def wkTail (fu : Nat) (st : St) : Option PV := pcodeN enW hWk fu (pfin enW false fWk) (fun p cur st => loopF enW hWk fu false fWk p cur fu st) (subC [1, 1, 1, 1, 1] (fWk.body.getD .skip)) [1, 1, 1, 1, 1] 0 st (pfin enW false fWk) []
theorem wk_raw (fu : Nat) (nl : Option Bool) (n : Nat) (c : List PV) (s : Int) : prun enW hWk fu false fWk [.sl nl 1 n c, .int .u8 s] = bif decide (200 < (n : Int)) then some (.bool true) else wkLoop fu fu (frWk0 s .nilptr nl n c (n : Int) 0) := prunN_eq.trans (by kernel_rfl)
def wkR0 (n : Nat) (c : List PV) (L i : Int) (x : PV) (T : Option PV) (K : PV → Int → Option PV) : Option PV :=
  bif decide (i < L) then u8At n c i fun k => (hTPut gPuA).F [[x]] [.ptr 0 0, .str [UInt8.ofNat k.toNat], .int .i64 i] fun bs _ => on1 bs fun x' => K x' (IntKind.i64.wrap (i + 1))
  else T
theorem wk_step0 (fu : Nat) (s : Int) {x : PV} (hx : IsR x) (nl : Option Bool) (n : Nat) (c : List PV) (L i : Int) (K : St → Option PV) :
    stepF enW hWk fu false fWk [1, 1, 1, 1, 0, 1, 0] (frWk0 s x nl n c L i) (fun st => pnorm (hWk.loop.lookup 0) st K) = wkR0 n c L i x (wkTail fu (frWk1 s x)) (fun x i => K (frWk0 s x nl n c L i)) := by
  have g : ∀ KN nm, stepG enW hWk fu (pfin enW false fWk) fWk [1, 1, 1, 1, 0, 1, 0] nm 0 [(0, KN)] (frWk0 s x nl n c L i) (fun st => pnorm (hWk.loop.lookup 0) st K) = wkR0 n c L i x (KN (frWk1 s x)) (fun x i => K (frWk0 s x nl n c L i)) := by
    intro KN nm
    rcases hx with rfl | ⟨cx, rfl⟩ <;> kernel_rfl
  exact (stepF_eq (by decide)).trans (g (wkTail fu) (nmF enW hWk fu fWk fun st => pnorm (hWk.loop.lookup 0) st K))
def onG {S : Type} (u : PV) (k : Int → Bool → Option S) : Option S := match u with | .tuple [.int .i64 v, .bool b] => k v b | _ => none
/-! ## the walk -/
/-- all boxes: the key's; stop, result, tree's variable, copy's variable, n, last, tree, copy, From's tree -/
def wkBx (s : Int) (q : Ky) (m : Int) (last : Ky) (r w : PV) : List (Option (List TV)) :=
  [some [(.str q, 0)], some [(.int .u8 s, 0)], some [(.bool false, 0)], some [(.ptr 162 0, 0)], some [(.ptr 163 0, 0)], some [(.int .i64 m, 0)], some [(.str last, 0)], some [(r, 0)], some [(w, 0)], some [(.ptr 162 0, 0)]]
def wkρ : List TV := (List.range 155).map fun t => (([(3, (.ptr 156 0, 0)), (4, (.ptr 157 0, 0)), (5, (.ptr 158 0, 0)), (8, (.ptr 159 0, 0)), (9, (.ptr 160 0, 0)), (10, (.ptr 161 0, 0)), (41, (.ptr 162 0, 0)), (42, (.ptr 163 0, 0)), (43, (.ptr 162 0, 0)), (44, (.clo 60 [.ptr 164 0, .ptr 155 0], 0))] : List (Nat × TV)).lookup t).getD (.undef, 0)
noncomputable def wkBody : Code := fWk.body.getD .skip
noncomputable def wkY (fu : Nat) : YFn := rangeY [164, 155, 162] #[45, 46] wkρ (fun {S} st k => rfRun (S := S) enW hWk fu (subC [1, 1, 1, 1, 1, 1, 1, 1, 0, 1, 0] wkBody) [2] st k)
/-- what follows the walk -/
noncomputable def wkK (fu : Nat) (st : St) : Option PV := pcodeN enW hWk fu (pfin enW false fWk) (fun p cur st => loopF enW hWk fu false fWk p cur fu st) (subC [1, 1, 1, 1, 1, 1, 1, 1, 1] wkBody) [1, 1, 1, 1, 1, 1, 1, 1, 1] 0 st (pfin enW false fWk) []
def wkSt (bs : List (List PV)) (bx : List (Option (List TV))) (o : Out) : St := ⟨wkρ, setBoxes (zipN [164, 155, 162] bs) (bxOf 155 bx), o⟩
noncomputable def wkEnd (KN : St → Option PV) (bs : List (List PV)) (o : Out) : Option PV :=
  match o with
  | .fr bx j o' =>
    if bs.length = [164, 155, 162].length then
      match mapO (mapO (renP (fun j => [164, 155, 162][j]?) false 4)) bs with
      | some bs =>
        match j with
        | none => pnorm (hWk.block.lookup 2) (wkSt bs bx o') KN
        | some .ret => pfin enW false fWk (wkSt bs bx o')
        | some (.exit id) => match ([(2, fun st => pnorm (hWk.block.lookup 2) st KN)] : List (Nat × (St → Option PV))).lookup id with
          | some k => k (wkSt bs bx o')
          | none => none
      | none => none
    else none
  | .nil => none
theorem wk_tail (fu : Nat) (s : Int) {x : PV} (hx : IsR x) : wkTail fu (frWk1 s x) = (iWalk gFoA).F [[.ptr 2 0], [.str []], [x]] (.fr (wkBx s [] 0 [] x x) none .nil) [.yld, .ptr 0 0, .ptr 1 0] (wkY fu) fun bs o _ => wkEnd (wkK fu) bs o := by
  rcases hx with rfl | ⟨cx, rfl⟩ <;> kernel_rfl
def wkR {R : Type} (s : Int) (q : Ky) (m : Int) (last : Ky) (r w : PV) (k : Ky) (v : Int) (G : List (List PV) → Out → Bool → Option R) : Option R :=
  (hGet gGe).F [[w]] [.ptr 0 0, .str k] fun _ u => onG u fun v' ok =>
    bif bif bif !ok then true else !(v' == v) then true else bif decide (0 < m) then (Op.bytesLess k last || k == last) else false then G [[.ptr 2 0], [.str q], [r]] (.fr (wkBx s q m last r w) (some .ret) .nil) false
    else (hDel gDe).F [[r]] [.ptr 0 0, .str k] fun bs _ => on1 bs fun r1 => bif decide ([120].length + k.length ≤ 9223372036854775807) then (hTPut gPuA).F [[r1]] [.ptr 0 0, .str ([120] ++ k), .int .i64 0] fun bs _ => on1 bs fun r2 =>
      bif IntKind.i64.wrap (m + 1) == IntKind.i64.wrap (1 + IntKind.i64.wrap s) then G [[.ptr 2 0], [.str q], [r2]] (.fr (wkBx s q (IntKind.i64.wrap (m + 1)) k r2 w) (some (.exit 2)) .nil) false
      else G [[.ptr 2 0], [.str q], [r2]] (.fr (wkBx s q (IntKind.i64.wrap (m + 1)) k r2 w) none .nil) true
    else none
theorem wk_step {R : Type} (fu : Nat) (s : Int) (q q0 : Ky) (m : Int) (last : Ky) {r r0 w : PV} (hr : IsR r) (hw : IsR w) (k : Ky) (v : Int) (G : List (List PV) → Out → Bool → Option R) :
    (wkY fu).F [[.ptr 2 0], [.str q], [r]] (.fr (wkBx s q0 m last r0 w) none .nil) [.str k, .int .i64 v] G = wkR s q m last r w k v G := by
  rcases hr with rfl | ⟨cr, rfl⟩ <;> rcases hw with rfl | ⟨cw, rfl⟩ <;> kernel_rfl
theorem wk_end0 (KN : St → Option PV) (s : Int) (q : Ky) (m : Int) (last : Ky) {r w : PV} (hr : IsR r) : wkEnd KN [[.ptr 2 0], [.str q], [r]] (.fr (wkBx s q m last r w) none .nil) = KN (wkSt [[.ptr 162 0], [.str q], [r]] (wkBx s q m last r w) .nil) := by
  rcases hr with rfl | ⟨cr, rfl⟩ <;> kernel_rfl
theorem wk_end2 (KN : St → Option PV) (s : Int) (q : Ky) (m : Int) (last : Ky) {r w : PV} (hr : IsR r) : wkEnd KN [[.ptr 2 0], [.str q], [r]] (.fr (wkBx s q m last r w) (some (.exit 2)) .nil) = KN (wkSt [[.ptr 162 0], [.str q], [r]] (wkBx s q m last r w) .nil) := by
  rcases hr with rfl | ⟨cr, rfl⟩ <;> kernel_rfl
theorem wk_over (fu : Nat) (s : Int) (q : Ky) (m : Int) (last : Ky) {r w : PV} (hr : IsR r) (hw : IsR w) : wkK fu (wkSt [[.ptr 162 0], [.str q], [r]] (wkBx s q m last r w) .nil) =
    hLen.F [[w]] [.ptr 0 0] fun _ u => onI u fun z => bif m == (if IntKind.i64.wrap (1 + IntKind.i64.wrap s) < z then IntKind.i64.wrap (1 + IntKind.i64.wrap s) else z) then some (.bool true) else some (.bool false) := by
  rcases hr with rfl | ⟨cr, rfl⟩ <;> rcases hw with rfl | ⟨cw, rfl⟩ <;> kernel_rfl
end Go.Proofs.Ytmacjkiamejcnaa
