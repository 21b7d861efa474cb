/-
  forth and back of a tree's nodes, which are handed 'yield': raw runs.
-/
import Derived.Test.YtmacjkiamejcnaaTx
set_option linter.unusedVariables false
set_option linter.unusedSimpArgs false
set_option maxRecDepth 100000
namespace Go.Proofs.Ytmacjkiamejcnaa
open Go.RowKit
/-- 'yield', whatever follows it -/
def yF {R : Type} (y : YFn) (bs : List (List PV)) (o : Out) (xs : List PV) (k : List (List PV) → Out → Bool → Option R) : Option R :=
  (y.F bs o xs (R := List (List PV) × Out × Bool) fun b o v => some (b, o, v)).bind fun r => k r.1 r.2.1 r.2.2
/-- the boxes that a walk over a tree has been lent: the tree's variable, the key's, the tree -/
def shpB : List (List PV) → Bool
  | [[.ptr 2 0], [.str _], [.nilptr]] => true
  | [[.ptr 2 0], [.str _], [.eptr _]] => true
  | _ => false
/-- 'yield' for one element after the other, as long as it goes on -/
def walkY {R : Type} (y : YFn) : List (Ky × PV) → List (List PV) → Out → (List (List PV) → Out → Bool → Option R) → Option R
  | [], bs, o, k => k bs o true
  | p :: r, bs, o, k => yF y bs o [.str p.1, p.2] fun bs' o' b => bif shpB bs' then (bif b then walkY y r bs' o' k else k bs' o' false) else none
/-- a call that the lent boxes pass through (two values at a time, as the evaluator looks at them) -/
def viaB {R : Type} (ob : Bool) (n nl : Nat) (bx : List (Option (List TV))) (o : Out) (xs : List PV) (call : List (List PV) → Out → List PV → (List (List PV) → Out → Bool → Option R) → Option R) (G : List (Option (List TV)) → Out → Bool → Option R) : Option R :=
  match lentBs bx (lentIds n nl), mapO (renP (posOf (lentIds n nl) 0) ob 4) xs with
  | some bs, some xs => call bs o xs fun bs o b => if bs.length = (lentIds n nl).length then
      match mapO (mapO (renP (fun j => (lentIds n nl)[j]?) false 4)) bs, renP (fun j => (lentIds n nl)[j]?) false 4 (.bool b) with
      | some bs, some _ => G (setBoxes (zipN (lentIds n nl) bs) bx) o b
      | _, _ => none
    else none
  | _, _ => none
/-- a state by its slots, all boxes as they are -/
def frF (n : Nat) (l : List (Nat × PV)) (bx : List (Option (List TV))) (o : Out) : St := ⟨(List.range n).map fun t => ((l.lookup t).getD .undef, 0), bx, o⟩
def slAt {S : Type} (cs : List PV) (f : Nat) (k : Option Bool → Nat → List PV → Option S) : Option S := (cs.drop f).head?.bind fun x => (x.asSl 1).bind fun p => k p.1 p.2.1 p.2.2
def strsAt {S : Type} (n : Nat) (c : List PV) (i : Int) (k : Ky → Option S) : Option S := bif decide (0 ≤ i) && decide (i < (n : Int)) then ((c.drop (i.toNat * 1)).take 1).head?.bind fun v => v.asStr.bind k else none
def valsAt {S : Type} (n : Nat) (c : List PV) (i : Int) (k : Int → Option S) : Option S := bif decide (0 ≤ i) && decide (i < (n : Int)) then ((c.drop (i.toNat * 1)).take 1).head?.bind fun v => (v.asInt .i64).bind k else none
def callW {R : Type} (g : List PV → Ky → Option (List (Ky × PV))) (cs : List PV) (s : Ky) (y : YFn) (bs : List (List PV)) (o : Out) (k : List (List PV) → Out → Bool → Option R) : Option R := bif shpB bs then (g cs s).bind fun l => walkY y l bs o k else none
def tWalk (g : List PV → Ky → Option (List (Ky × PV))) : IFn := ⟨fun bs o xs y k => match xs with | [.eptr cs, .str s, .yld] => callW g cs s y bs o fun bs o b => k bs o (.bool b) | _ => none⟩
noncomputable def lFo (gl : List PV → Option Bool) (gp : List PV → Ky → Option (Int × Bool)) (gk : List PV → Ky → Option Int) : List (FuncId × PFn) := [(71, tLeaf gl), (73, tPlace gp), (74, tKid gk)]
noncomputable def enFo (gl : List PV → Option Bool) (gp : List PV → Ky → Option (Int × Bool)) (gk : List PV → Ky → Option Int) (gf gb : List PV → Ky → Option (List (Ky × PV))) : Env := enR (enA (lFo gl gp gk) [] [(61, tWalk gf), (76, tWalk gb)] [] []) [93]
def hFo : Hints := ⟨[(4000000, ⟨[(6, false)], [2097152]⟩)], [(2, ⟨[(1, false), (2, false), (52, false), (53, false), (54, false)], [2097152]⟩), (0, ⟨[(0, false), (2, false), (7, false)], [2097152]⟩)]⟩
def hBa : Hints := ⟨[(4000000, ⟨[(6, false)], [2097152]⟩)], [(2, ⟨[(0, false), (1, false), (2, false), (9, false)], [2097152]⟩), (0, ⟨[(0, false), (2, false), (7, false)], [2097152]⟩)]⟩
section
variable {R : Type} (gl : List PV → Option Bool) (gp : List PV → Ky → Option (Int × Bool)) (gk : List PV → Ky → Option Int) (gf gb : List PV → Ky → Option (List (Ky × PV))) (nl : Nat) (y : YFn) (fu : Nat) (kr : St → Option R)
noncomputable def enY : Env := { enFo gl gp gk gf gb with Y := some (nl, y) }
noncomputable def foLoop0 (n : Nat) (st : St) : Option R := loopK (enY gl gp gk gf gb nl y) hFo fu kr Try.f61 (fun _ => none) [1, 0, 1, 0, 1, 0, 0] 0 n st
noncomputable def foLoop2 (n : Nat) (st : St) : Option R := loopK (enY gl gp gk gf gb nl y) hFo fu kr Try.f61 (fun _ => none) [1, 1, 0, 1, 0] 2 n st
def frFo0 (cs : List PV) (i : Int) (bx : List (Option (List TV))) (o : Out) : St := frF 64 [(0, .eptr cs), (2, .yld), (7, .int .i64 i)] bx o
def frFo2 (s : Ky) (nlk : Option Bool) (n : Nat) (c : List PV) (L i : Int) (bx : List (Option (List TV))) (o : Out) : St := frF 64 [(1, .str s), (2, .yld), (52, .sl nlk 1 n c), (53, .int .i64 L), (54, .int .i64 i)] bx o
def frFoR (b : Bool) (bx : List (Option (List TV))) (o : Out) : St := frF 64 [(6, .bool b)] bx o
def bxS (n : Nat) (q : Ky) (r : PV) : List (Option (List TV)) := List.replicate n none ++ [some [(.ptr (n + 2) 0, 0)], some [(.str q, 0)], some [(r, 0)]]
noncomputable def foKr (kk : List (List PV) → Out → PV → Option R) (st : St) : Option R := pfinH (enFo gl gp gk gf gb) 3 Try.f61 st fun bs' o v => if bs'.length = 3 then kk bs' o v else none
noncomputable def foRun (kk : List (List PV) → Out → PV → Option R) (cs : List PV) (s q : Ky) (r : PV) (o : Out) : Option R :=
  (gl cs).bind fun b => bif b then (gp cs s).bind fun p => foLoop0 gl gp gk gf gb 3 y fu (foKr gl gp gk gf gb kk) fu (frFo0 cs p.1 (bxS 64 q r) o)
    else slAt cs 2 fun nk n c => (gk cs s).bind fun i => bif decide (0 ≤ i) && decide (i ≤ (n : Int)) then foLoop2 gl gp gk gf gb 3 y fu (foKr gl gp gk gf gb kk) fu (frFo2 s nk (n - i.toNat) ((c.take (n * 1)).drop (i.toNat * 1)) ((n - i.toNat : Nat) : Int) 0 (bxS 64 q r) o) else none
theorem fo_run0 (kk : List (List PV) → Out → PV → Option R) (cs : List PV) (s q : Ky) (o : Out) :
    prunI (enFo gl gp gk gf gb) hFo fu Try.f61 [[.ptr 2 0], [.str q], [.nilptr]] o [.eptr cs, .str s, .yld] y kk = foRun gl gp gk gf gb y fu kk cs s q .nilptr o := prunIN_eq.trans (by kernel_rfl)
theorem fo_run1 (kk : List (List PV) → Out → PV → Option R) (cs : List PV) (s q : Ky) (r : List PV) (o : Out) :
    prunI (enFo gl gp gk gf gb) hFo fu Try.f61 [[.ptr 2 0], [.str q], [.eptr r]] o [.eptr cs, .str s, .yld] y kk = foRun gl gp gk gf gb y fu kk cs s q (.eptr r) o := prunIN_eq.trans (by kernel_rfl)
theorem fo_kr0 (kk : List (List PV) → Out → PV → Option R) (b : Bool) (q : Ky) (o : Out) : foKr gl gp gk gf gb kk (frFoR b (bxS 64 q .nilptr) o) = kk [[.ptr 2 0], [.str q], [.nilptr]] o (.bool b) := by kernel_rfl
theorem fo_kr1 (kk : List (List PV) → Out → PV → Option R) (b : Bool) (q : Ky) (r : List PV) (o : Out) : foKr gl gp gk gf gb kk (frFoR b (bxS 64 q (.eptr r)) o) = kk [[.ptr 2 0], [.str q], [.eptr r]] o (.bool b) := by kernel_rfl
theorem fo_step0 (cs : List PV) (i : Int) (bx : List (Option (List TV))) (o : Out) (K : St → Option R) :
    stepK (enY gl gp gk gf gb nl y) hFo fu kr Try.f61 [1, 0, 1, 0, 1, 0, 0] (fun _ => none) (frFo0 cs i bx o) (fun st => pnorm (hFo.loop.lookup 0) st K) =
      slAt cs 0 fun _ n c => bif decide (i < (n : Int)) then slAt cs 0 fun _ n c => strsAt n c i fun k => slAt cs 1 fun _ m e => valsAt m e i fun v =>
          viaB false 64 nl bx o [.str k, .int .i64 v] (fun bs o xs G => y.F bs o xs G) fun bx o b => bif !b then kr (frFoR false bx o) else K (frFo0 cs (IntKind.i64.wrap (i + 1)) bx o)
        else kr (frFoR true bx o) := by kernel_rfl
theorem fo_step2 (s : Ky) (nlk : Option Bool) (n : Nat) (c : List PV) (L i : Int) (bx : List (Option (List TV))) (o : Out) (K : St → Option R) :
    stepK (enY gl gp gk gf gb nl y) hFo fu kr Try.f61 [1, 1, 0, 1, 0] (fun _ => none) (frFo2 s nlk n c L i bx o) (fun st => pnorm (hFo.loop.lookup 2) st K) =
      bif decide (i < L) then kidAt n c i fun es => viaB true 64 nl bx o [.eptr es, .str s, .yld] (fun bs o _ G => callW gf es s y bs o G) fun bx o b => bif !b then kr (frFoR false bx o) else K (frFo2 s nlk n c L (IntKind.i64.wrap (i + 1)) bx o)
      else kr (frFoR true bx o) := by kernel_rfl
noncomputable def baLoop0 (n : Nat) (st : St) : Option R := loopK (enY gl gp gk gf gb nl y) hBa fu kr Try.f76 (fun _ => none) [1, 0, 1, 0, 1, 1, 0, 0] 0 n st
noncomputable def baLoop2 (n : Nat) (st : St) : Option R := loopK (enY gl gp gk gf gb nl y) hBa fu kr Try.f76 (fun _ => none) [1, 1, 0, 1, 0] 2 n st
def frBa0 (cs : List PV) (i : Int) (bx : List (Option (List TV))) (o : Out) : St := frF 61 [(0, .eptr cs), (2, .yld), (7, .int .i64 i)] bx o
def frBa2 (cs : List PV) (s : Ky) (i : Int) (bx : List (Option (List TV))) (o : Out) : St := frF 61 [(0, .eptr cs), (1, .str s), (2, .yld), (9, .int .i64 i)] bx o
def frBaR (b : Bool) (bx : List (Option (List TV))) (o : Out) : St := frF 61 [(6, .bool b)] bx o
noncomputable def baKr (kk : List (List PV) → Out → PV → Option R) (st : St) : Option R := pfinH (enFo gl gp gk gf gb) 3 Try.f76 st fun bs' o v => if bs'.length = 3 then kk bs' o v else none
noncomputable def baRun (kk : List (List PV) → Out → PV → Option R) (cs : List PV) (s q : Ky) (r : PV) (o : Out) : Option R :=
  (gl cs).bind fun b => bif b then (gp cs s).bind fun p => bif !p.2 then baLoop0 gl gp gk gf gb 3 y fu (baKr gl gp gk gf gb kk) fu (frBa0 cs (IntKind.i64.wrap (p.1 - 1)) (bxS 61 q r) o) else baLoop0 gl gp gk gf gb 3 y fu (baKr gl gp gk gf gb kk) fu (frBa0 cs p.1 (bxS 61 q r) o)
    else (gk cs s).bind fun i => baLoop2 gl gp gk gf gb 3 y fu (baKr gl gp gk gf gb kk) fu (frBa2 cs s i (bxS 61 q r) o)
theorem ba_run0 (kk : List (List PV) → Out → PV → Option R) (cs : List PV) (s q : Ky) (o : Out) :
    prunI (enFo gl gp gk gf gb) hBa fu Try.f76 [[.ptr 2 0], [.str q], [.nilptr]] o [.eptr cs, .str s, .yld] y kk = baRun gl gp gk gf gb y fu kk cs s q .nilptr o := prunIN_eq.trans (by kernel_rfl)
theorem ba_run1 (kk : List (List PV) → Out → PV → Option R) (cs : List PV) (s q : Ky) (r : List PV) (o : Out) :
    prunI (enFo gl gp gk gf gb) hBa fu Try.f76 [[.ptr 2 0], [.str q], [.eptr r]] o [.eptr cs, .str s, .yld] y kk = baRun gl gp gk gf gb y fu kk cs s q (.eptr r) o := prunIN_eq.trans (by kernel_rfl)
theorem ba_kr0 (kk : List (List PV) → Out → PV → Option R) (b : Bool) (q : Ky) (o : Out) : baKr gl gp gk gf gb kk (frBaR b (bxS 61 q .nilptr) o) = kk [[.ptr 2 0], [.str q], [.nilptr]] o (.bool b) := by kernel_rfl
theorem ba_kr1 (kk : List (List PV) → Out → PV → Option R) (b : Bool) (q : Ky) (r : List PV) (o : Out) : baKr gl gp gk gf gb kk (frBaR b (bxS 61 q (.eptr r)) o) = kk [[.ptr 2 0], [.str q], [.eptr r]] o (.bool b) := by kernel_rfl
theorem ba_step0 (cs : List PV) (i : Int) (bx : List (Option (List TV))) (o : Out) (K : St → Option R) :
    stepK (enY gl gp gk gf gb nl y) hBa fu kr Try.f76 [1, 0, 1, 0, 1, 1, 0, 0] (fun _ => none) (frBa0 cs i bx o) (fun st => pnorm (hBa.loop.lookup 0) st K) =
      bif decide (0 ≤ i) then slAt cs 0 fun _ n c => strsAt n c i fun k => slAt cs 1 fun _ m e => valsAt m e i fun v =>
          viaB false 61 nl bx o [.str k, .int .i64 v] (fun bs o xs G => y.F bs o xs G) fun bx o b => bif !b then kr (frBaR false bx o) else K (frBa0 cs (IntKind.i64.wrap (i - 1)) bx o)
        else kr (frBaR true bx o) := by kernel_rfl
theorem ba_step2 (cs : List PV) (s : Ky) (i : Int) (bx : List (Option (List TV))) (o : Out) (K : St → Option R) :
    stepK (enY gl gp gk gf gb nl y) hBa fu kr Try.f76 [1, 1, 0, 1, 0] (fun _ => none) (frBa2 cs s i bx o) (fun st => pnorm (hBa.loop.lookup 2) st K) =
      bif decide (0 ≤ i) then slAt cs 2 fun _ n c => kidAt n c i fun es => viaB true 61 nl bx o [.eptr es, .str s, .yld] (fun bs o _ G => callW gb es s y bs o G) fun bx o b => bif !b then kr (frBaR false bx o) else K (frBa2 cs s (IntKind.i64.wrap (i - 1)) bx o)
      else kr (frBaR true bx o) := by kernel_rfl
end
end Go.Proofs.Ytmacjkiamejcnaa
