/-
  forth and back of a tree's nodes, which are handed 'yield': raw runs.
  forth and back of a tree's nodes: their contracts.
  forth, back and the functions that From and Back return: their contracts.
  The functions that From and Back return; find, Get, Delete, Levels: their contracts.
-/
import Derived.Test.YtmacjkiamejcnaaTx
import Derived.Test.YtmacjkiamejcnaaTy
set_option linter.unusedVariables false
set_option linter.unusedSimpArgs false
set_option maxRecDepth 100000
namespace Go.Proofs.Ytmacjkiamejcnaa
open Go.RowKit
/-- 'yield', whatever follows it -/
def yF {R : Type} (y : YFn) (bs : List (List PV)) (o : Out) (xs : List PV) (k : List (List PV) → Out → Bool → Option R) : Option R :=
  (y.F bs o xs (R := List (List PV) × Out × Bool) fun b o v => some (b, o, v)).bind fun r => k r.1 r.2.1 r.2.2
/-- the boxes that a walk over a tree has been lent: the tree's variable, the key's, the tree -/
def shpB : List (List PV) → Bool
  | [[.ptr 2 0], [.str _], [.nilptr]] => true
  | [[.ptr 2 0], [.str _], [.eptr _]] => true
  | _ => false
/-- 'yield' for one element after the other, as long as it goes on -/
def walkY {R : Type} (y : YFn) : List (Ky × PV) → List (List PV) → Out → (List (List PV) → Out → Bool → Option R) → Option R
  | [], bs, o, k => k bs o true
  | p :: r, bs, o, k => yF y bs o [.str p.1, p.2] fun bs' o' b => bif shpB bs' then (bif b then walkY y r bs' o' k else k bs' o' false) else none
/-- a call that the lent boxes pass through (two values at a time, as the evaluator looks at them) -/
def viaB {R : Type} (ob : Bool) (n nl : Nat) (bx : List (Option (List TV))) (o : Out) (xs : List PV) (call : List (List PV) → Out → List PV → (List (List PV) → Out → Bool → Option R) → Option R) (G : List (Option (List TV)) → Out → Bool → Option R) : Option R :=
  match lentBs bx (lentIds n nl), mapO (renP (posOf (lentIds n nl) 0) ob 4) xs with
  | some bs, some xs => call bs o xs fun bs o b => if bs.length = (lentIds n nl).length then
      match mapO (mapO (renP (fun j => (lentIds n nl)[j]?) false 4)) bs, renP (fun j => (lentIds n nl)[j]?) false 4 (.bool b) with
      | some bs, some _ => G (setBoxes (zipN (lentIds n nl) bs) bx) o b
      | _, _ => none
    else none
  | _, _ => none
/-- a state by its slots, all boxes as they are -/
def frF (n : Nat) (l : List (Nat × PV)) (bx : List (Option (List TV))) (o : Out) : St := ⟨(List.range n).map fun t => ((l.lookup t).getD .undef, 0), bx, o⟩
def slAt {S : Type} (cs : List PV) (f : Nat) (k : Option Bool → Nat → List PV → Option S) : Option S := (cs.drop f).head?.bind fun x => (x.asSl 1).bind fun p => k p.1 p.2.1 p.2.2
def strsAt {S : Type} (n : Nat) (c : List PV) (i : Int) (k : Ky → Option S) : Option S := bif decide (0 ≤ i) && decide (i < (n : Int)) then ((c.drop (i.toNat * 1)).take 1).head?.bind fun v => v.asStr.bind k else none
def valsAt {S : Type} (n : Nat) (c : List PV) (i : Int) (k : Int → Option S) : Option S := bif decide (0 ≤ i) && decide (i < (n : Int)) then ((c.drop (i.toNat * 1)).take 1).head?.bind fun v => (v.asInt .i64).bind k else none
def callW {R : Type} (g : List PV → Ky → Option (List (Ky × PV))) (cs : List PV) (s : Ky) (y : YFn) (bs : List (List PV)) (o : Out) (k : List (List PV) → Out → Bool → Option R) : Option R := bif shpB bs then (g cs s).bind fun l => walkY y l bs o k else none
def tWalk (g : List PV → Ky → Option (List (Ky × PV))) : IFn := ⟨fun bs o xs y k => match xs with | [.eptr cs, .str s, .yld] => callW g cs s y bs o fun bs o b => k bs o (.bool b) | _ => none⟩
noncomputable def lFo (gl : List PV → Option Bool) (gp : List PV → Ky → Option (Int × Bool)) (gk : List PV → Ky → Option Int) : List (FuncId × PFn) := [(71, tLeaf gl), (73, tPlace gp), (74, tKid gk)]
noncomputable def enFo (gl : List PV → Option Bool) (gp : List PV → Ky → Option (Int × Bool)) (gk : List PV → Ky → Option Int) (gf gb : List PV → Ky → Option (List (Ky × PV))) : Env := enR (enA (lFo gl gp gk) [] [(61, tWalk gf), (76, tWalk gb)] [] []) [93]
def hFo : Hints := ⟨[(4000000, ⟨[(6, false)], [2097152]⟩)], [(2, ⟨[(1, false), (2, false), (52, false), (53, false), (54, false)], [2097152]⟩), (0, ⟨[(0, false), (2, false), (7, false)], [2097152]⟩)]⟩
def hBa : Hints := ⟨[(4000000, ⟨[(6, false)], [2097152]⟩)], [(2, ⟨[(0, false), (1, false), (2, false), (9, false)], [2097152]⟩), (0, ⟨[(0, false), (2, false), (7, false)], [2097152]⟩)]⟩
section
variable {R : Type} (gl : List PV → Option Bool) (gp : List PV → Ky → Option (Int × Bool)) (gk : List PV → Ky → Option Int) (gf gb : List PV → Ky → Option (List (Ky × PV))) (nl : Nat) (y : YFn) (fu : Nat) (kr : St → Option R)
noncomputable def enY : Env := { enFo gl gp gk gf gb with Y := some (nl, y) }
noncomputable def foLoop0 (n : Nat) (st : St) : Option R := loopK (enY gl gp gk gf gb nl y) hFo fu kr Try.f61 (fun _ => none) [1, 0, 1, 0, 1, 0, 0] 0 n st
noncomputable def foLoop2 (n : Nat) (st : St) : Option R := loopK (enY gl gp gk gf gb nl y) hFo fu kr Try.f61 (fun _ => none) [1, 1, 0, 1, 0] 2 n st
def frFo0 (cs : List PV) (i : Int) (bx : List (Option (List TV))) (o : Out) : St := frF 64 [(0, .eptr cs), (2, .yld), (7, .int .i64 i)] bx o
def frFo2 (s : Ky) (nlk : Option Bool) (n : Nat) (c : List PV) (L i : Int) (bx : List (Option (List TV))) (o : Out) : St := frF 64 [(1, .str s), (2, .yld), (52, .sl nlk 1 n c), (53, .int .i64 L), (54, .int .i64 i)] bx o
def frFoR (b : Bool) (bx : List (Option (List TV))) (o : Out) : St := frF 64 [(6, .bool b)] bx o
def bxS (n : Nat) (q : Ky) (r : PV) : List (Option (List TV)) := List.replicate n none ++ [some [(.ptr (n + 2) 0, 0)], some [(.str q, 0)], some [(r, 0)]]
noncomputable def foKr (kk : List (List PV) → Out → PV → Option R) (st : St) : Option R := pfinH (enFo gl gp gk gf gb) 3 Try.f61 st fun bs' o v => if bs'.length = 3 then kk bs' o v else none
noncomputable def foRun (kk : List (List PV) → Out → PV → Option R) (cs : List PV) (s q : Ky) (r : PV) (o : Out) : Option R :=
  (gl cs).bind fun b => bif b then (gp cs s).bind fun p => foLoop0 gl gp gk gf gb 3 y fu (foKr gl gp gk gf gb kk) fu (frFo0 cs p.1 (bxS 64 q r) o)
    else slAt cs 2 fun nk n c => (gk cs s).bind fun i => bif decide (0 ≤ i) && decide (i ≤ (n : Int)) then foLoop2 gl gp gk gf gb 3 y fu (foKr gl gp gk gf gb kk) fu (frFo2 s nk (n - i.toNat) ((c.take (n * 1)).drop (i.toNat * 1)) ((n - i.toNat : Nat) : Int) 0 (bxS 64 q r) o) else none
theorem fo_run0 (kk : List (List PV) → Out → PV → Option R) (cs : List PV) (s q : Ky) (o : Out) :
    prunI (enFo gl gp gk gf gb) hFo fu Try.f61 [[.ptr 2 0], [.str q], [.nilptr]] o [.eptr cs, .str s, .yld] y kk = foRun gl gp gk gf gb y fu kk cs s q .nilptr o := prunIN_eq.trans (by kernel_rfl)
theorem fo_run1 (kk : List (List PV) → Out → PV → Option R) (cs : List PV) (s q : Ky) (r : List PV) (o : Out) :
    prunI (enFo gl gp gk gf gb) hFo fu Try.f61 [[.ptr 2 0], [.str q], [.eptr r]] o [.eptr cs, .str s, .yld] y kk = foRun gl gp gk gf gb y fu kk cs s q (.eptr r) o := prunIN_eq.trans (by kernel_rfl)
theorem fo_kr0 (kk : List (List PV) → Out → PV → Option R) (b : Bool) (q : Ky) (o : Out) : foKr gl gp gk gf gb kk (frFoR b (bxS 64 q .nilptr) o) = kk [[.ptr 2 0], [.str q], [.nilptr]] o (.bool b) := by kernel_rfl
theorem fo_kr1 (kk : List (List PV) → Out → PV → Option R) (b : Bool) (q : Ky) (r : List PV) (o : Out) : foKr gl gp gk gf gb kk (frFoR b (bxS 64 q (.eptr r)) o) = kk [[.ptr 2 0], [.str q], [.eptr r]] o (.bool b) := by kernel_rfl
theorem fo_step0 (cs : List PV) (i : Int) (bx : List (Option (List TV))) (o : Out) (K : St → Option R) :
    stepK (enY gl gp gk gf gb nl y) hFo fu kr Try.f61 [1, 0, 1, 0, 1, 0, 0] (fun _ => none) (frFo0 cs i bx o) (fun st => pnorm (hFo.loop.lookup 0) st K) =
      slAt cs 0 fun _ n c => bif decide (i < (n : Int)) then slAt cs 0 fun _ n c => strsAt n c i fun k => slAt cs 1 fun _ m e => valsAt m e i fun v =>
          viaB false 64 nl bx o [.str k, .int .i64 v] (fun bs o xs G => y.F bs o xs G) fun bx o b => bif !b then kr (frFoR false bx o) else K (frFo0 cs (IntKind.i64.wrap (i + 1)) bx o)
        else kr (frFoR true bx o) := by kernel_rfl
theorem fo_step2 (s : Ky) (nlk : Option Bool) (n : Nat) (c : List PV) (L i : Int) (bx : List (Option (List TV))) (o : Out) (K : St → Option R) :
    stepK (enY gl gp gk gf gb nl y) hFo fu kr Try.f61 [1, 1, 0, 1, 0] (fun _ => none) (frFo2 s nlk n c L i bx o) (fun st => pnorm (hFo.loop.lookup 2) st K) =
      bif decide (i < L) then kidAt n c i fun es => viaB true 64 nl bx o [.eptr es, .str s, .yld] (fun bs o _ G => callW gf es s y bs o G) fun bx o b => bif !b then kr (frFoR false bx o) else K (frFo2 s nlk n c L (IntKind.i64.wrap (i + 1)) bx o)
      else kr (frFoR true bx o) := by kernel_rfl
noncomputable def baLoop0 (n : Nat) (st : St) : Option R := loopK (enY gl gp gk gf gb nl y) hBa fu kr Try.f76 (fun _ => none) [1, 0, 1, 0, 1, 1, 0, 0] 0 n st
noncomputable def baLoop2 (n : Nat) (st : St) : Option R := loopK (enY gl gp gk gf gb nl y) hBa fu kr Try.f76 (fun _ => none) [1, 1, 0, 1, 0] 2 n st
def frBa0 (cs : List PV) (i : Int) (bx : List (Option (List TV))) (o : Out) : St := frF 61 [(0, .eptr cs), (2, .yld), (7, .int .i64 i)] bx o
def frBa2 (cs : List PV) (s : Ky) (i : Int) (bx : List (Option (List TV))) (o : Out) : St := frF 61 [(0, .eptr cs), (1, .str s), (2, .yld), (9, .int .i64 i)] bx o
def frBaR (b : Bool) (bx : List (Option (List TV))) (o : Out) : St := frF 61 [(6, .bool b)] bx o
noncomputable def baKr (kk : List (List PV) → Out → PV → Option R) (st : St) : Option R := pfinH (enFo gl gp gk gf gb) 3 Try.f76 st fun bs' o v => if bs'.length = 3 then kk bs' o v else none
noncomputable def baRun (kk : List (List PV) → Out → PV → Option R) (cs : List PV) (s q : Ky) (r : PV) (o : Out) : Option R :=
  (gl cs).bind fun b => bif b then (gp cs s).bind fun p => bif !p.2 then baLoop0 gl gp gk gf gb 3 y fu (baKr gl gp gk gf gb kk) fu (frBa0 cs (IntKind.i64.wrap (p.1 - 1)) (bxS 61 q r) o) else baLoop0 gl gp gk gf gb 3 y fu (baKr gl gp gk gf gb kk) fu (frBa0 cs p.1 (bxS 61 q r) o)
    else (gk cs s).bind fun i => baLoop2 gl gp gk gf gb 3 y fu (baKr gl gp gk gf gb kk) fu (frBa2 cs s i (bxS 61 q r) o)
theorem ba_run0 (kk : List (List PV) → Out → PV → Option R) (cs : List PV) (s q : Ky) (o : Out) :
    prunI (enFo gl gp gk gf gb) hBa fu Try.f76 [[.ptr 2 0], [.str q], [.nilptr]] o [.eptr cs, .str s, .yld] y kk = baRun gl gp gk gf gb y fu kk cs s q .nilptr o := prunIN_eq.trans (by kernel_rfl)
theorem ba_run1 (kk : List (List PV) → Out → PV → Option R) (cs : List PV) (s q : Ky) (r : List PV) (o : Out) :
    prunI (enFo gl gp gk gf gb) hBa fu Try.f76 [[.ptr 2 0], [.str q], [.eptr r]] o [.eptr cs, .str s, .yld] y kk = baRun gl gp gk gf gb y fu kk cs s q (.eptr r) o := prunIN_eq.trans (by kernel_rfl)
theorem ba_kr0 (kk : List (List PV) → Out → PV → Option R) (b : Bool) (q : Ky) (o : Out) : baKr gl gp gk gf gb kk (frBaR b (bxS 61 q .nilptr) o) = kk [[.ptr 2 0], [.str q], [.nilptr]] o (.bool b) := by kernel_rfl
theorem ba_kr1 (kk : List (List PV) → Out → PV → Option R) (b : Bool) (q : Ky) (r : List PV) (o : Out) : baKr gl gp gk gf gb kk (frBaR b (bxS 61 q (.eptr r)) o) = kk [[.ptr 2 0], [.str q], [.eptr r]] o (.bool b) := by kernel_rfl
theorem ba_step0 (cs : List PV) (i : Int) (bx : List (Option (List TV))) (o : Out) (K : St → Option R) :
    stepK (enY gl gp gk gf gb nl y) hBa fu kr Try.f76 [1, 0, 1, 0, 1, 1, 0, 0] (fun _ => none) (frBa0 cs i bx o) (fun st => pnorm (hBa.loop.lookup 0) st K) =
      bif decide (0 ≤ i) then slAt cs 0 fun _ n c => strsAt n c i fun k => slAt cs 1 fun _ m e => valsAt m e i fun v =>
          viaB false 61 nl bx o [.str k, .int .i64 v] (fun bs o xs G => y.F bs o xs G) fun bx o b => bif !b then kr (frBaR false bx o) else K (frBa0 cs (IntKind.i64.wrap (i - 1)) bx o)
        else kr (frBaR true bx o) := by kernel_rfl
theorem ba_step2 (cs : List PV) (s : Ky) (i : Int) (bx : List (Option (List TV))) (o : Out) (K : St → Option R) :
    stepK (enY gl gp gk gf gb nl y) hBa fu kr Try.f76 [1, 1, 0, 1, 0] (fun _ => none) (frBa2 cs s i bx o) (fun st => pnorm (hBa.loop.lookup 2) st K) =
      bif decide (0 ≤ i) then slAt cs 2 fun _ n c => kidAt n c i fun es => viaB true 61 nl bx o [.eptr es, .str s, .yld] (fun bs o _ G => callW gb es s y bs o G) fun bx o b => bif !b then kr (frBaR false bx o) else K (frBa2 cs s (IntKind.i64.wrap (i - 1)) bx o)
      else kr (frBaR true bx o) := by kernel_rfl
end
end Go.Proofs.Ytmacjkiamejcnaa
set_option linter.unusedVariables false
set_option linter.unusedSimpArgs false
set_option maxRecDepth 100000
namespace Go.Proofs.Ytmacjkiamejcnaa
open Go.RowKit
theorem yF_eq {R : Type} {y : YFn} (hy : y.nat) (bs : List (List PV)) (o : Out) (xs : List PV) (k : List (List PV) → Out → Bool → Option R) : yF y bs o xs k = y.F bs o xs k := (hy R bs o xs k).symm
theorem yF_nat {R S : Type} (y : YFn) (bs : List (List PV)) (o : Out) (xs : List PV) (f : List (List PV) → Out → Bool → Option R) (k : R → Option S) : yF y bs o xs (fun b o v => (f b o v).bind k) = (yF y bs o xs f).bind k := by
  unfold yF
  rw [obind_assoc]
theorem walkY_nat {R S : Type} (y : YFn) : ∀ (l : List (Ky × PV)) (bs : List (List PV)) (o : Out) (f : List (List PV) → Out → Bool → Option R) (k : R → Option S), walkY y l bs o (fun b o v => (f b o v).bind k) = (walkY y l bs o f).bind k
  | [], bs, o, f, k => rfl
  | p :: l, bs, o, f, k => by
    simp only [walkY]
    rw [← yF_nat]
    congr 1
    funext bs' o' b
    cases shpB bs' with
    | false => rfl
    | true => cases b with
      | false => rfl
      | true => exact walkY_nat y l bs' o' f k
theorem walkY_app {R : Type} (y : YFn) : ∀ (A B : List (Ky × PV)) (bs : List (List PV)) (o : Out) (k : List (List PV) → Out → Bool → Option R), walkY y (A ++ B) bs o k = walkY y A bs o fun bs o b => bif b then walkY y B bs o k else k bs o false
  | [], B, bs, o, k => rfl
  | p :: A, B, bs, o, k => by
    simp only [List.cons_append, walkY]
    congr 1
    funext bs' o' b
    cases shpB bs' with
    | false => rfl
    | true => cases b with
      | false => rfl
      | true => exact walkY_app y A B bs' o' k
theorem walkY_inv {R : Type} {y : YFn} {l : List (Ky × PV)} {bs : List (List PV)} {o : Out} {k : List (List PV) → Out → Bool → Option R} {r : R} (hs : shpB bs = true) (h : walkY y l bs o k = some r) :
    ∃ bs' o' b, shpB bs' = true ∧ (∀ (S : Type) (G : List (List PV) → Out → Bool → Option S), walkY y l bs o G = G bs' o' b) ∧ k bs' o' b = some r := by
  have e : ∀ (S : Type) (G : List (List PV) → Out → Bool → Option S), walkY y l bs o G = (walkY y l bs o (fun b o v => some (b, o, v))).bind fun r => G r.1 r.2.1 r.2.2 := fun S G => walkY_nat y l bs o (fun b o v => some (b, o, v)) (fun r => G r.1 r.2.1 r.2.2)
  rw [e] at h
  obtain ⟨⟨bs', o', b⟩, h1, h2⟩ := bind_some_inv h
  refine ⟨bs', o', b, ?_, fun S G => by rw [e, h1]; rfl, h2⟩
  clear h h2 e
  induction l generalizing bs o with
  | nil => simp only [walkY] at h1; injection h1 with h1; injection h1 with h1; subst h1; exact hs
  | cons p l ih =>
    simp only [walkY] at h1
    unfold yF at h1
    obtain ⟨⟨b1, o1, c1⟩, _, h1⟩ := bind_some_inv h1
    obtain ⟨g1, h1⟩ := bif_inv h1
    cases c1 with
    | true => exact ih g1 h1
    | false =>
      simp only [cond_false] at h1
      injection h1 with h1
      injection h1 with h1
      subst h1
      exact g1
theorem tWalk_nat (g : List PV → Ky → Option (List (Ky × PV))) : (tWalk g).nat := by
  intro R bs o xs y k
  simp only [tWalk]
  split
  · unfold callW
    rw [bif_bind, obind_assoc]
    congr 2
    funext l
    exact walkY_nat y l bs o (fun bs o b => some (bs, o, PV.bool b)) (fun r => k r.1 r.2.1 r.2.2)
  · rfl
/-- what is in a tree's box -/
def IsR (r : PV) : Prop := r = .nilptr ∨ ∃ cs, r = .eptr cs
theorem shp_inv {bs : List (List PV)} (h : shpB bs = true) : ∃ q r, bs = [[.ptr 2 0], [.str q], [r]] ∧ IsR r := by
  unfold shpB at h
  split at h
  · exact ⟨_, _, rfl, .inl rfl⟩
  · exact ⟨_, _, rfl, .inr ⟨_, rfl⟩⟩
  · cases h
theorem shp_of {q : Ky} {r : PV} (h : IsR r) : shpB [[.ptr 2 0], [.str q], [r]] = true := by
  rcases h with rfl | ⟨cs, rfl⟩ <;> rfl
theorem lent_shp {n : Nat} (hn : n = 64 ∨ n = 61 ∨ n = 20) {q : Ky} {r : PV} (h : IsR r) : lentBs (bxS n q r) (lentIds n 3) = some [[.ptr 2 0], [.str q], [r]] := by
  rcases hn with rfl | rfl | rfl <;> rcases h with rfl | ⟨cs, rfl⟩ <;> rfl
theorem back_shp {n : Nat} (hn : n = 64 ∨ n = 61 ∨ n = 20) {q q' : Ky} {r r' : PV} (h : IsR r') : mapO (mapO (renP (fun j => (lentIds n 3)[j]?) false 4)) [[.ptr 2 0], [.str q'], [r']] = some [[.ptr (n + 2) 0], [.str q'], [r']] ∧ setBoxes (zipN (lentIds n 3) [[.ptr (n + 2) 0], [.str q'], [r']]) (bxS n q r) = bxS n q' r' := by
  rcases hn with rfl | rfl | rfl <;> rcases h with rfl | ⟨cs, rfl⟩ <;> exact ⟨rfl, rfl⟩
/-- a call that the boxes of a walk pass through -/
theorem via_ok {R : Type} {ob : Bool} {n : Nat} (hn : n = 64 ∨ n = 61 ∨ n = 20) {q : Ky} {r : PV} (hr : IsR r) {o : Out} {xs xs' : List PV} (hx : mapO (renP (posOf (lentIds n 3) 0) ob 4) xs = some xs')
    {call : List (List PV) → Out → List PV → (List (List PV) → Out → Bool → Option R) → Option R} {bs' : List (List PV)} {o' : Out} {b' : Bool} (hs : shpB bs' = true) (hc : ∀ G, call [[.ptr 2 0], [.str q], [r]] o xs' G = G bs' o' b') : ∃ q' r', bs' = [[.ptr 2 0], [.str q'], [r']] ∧ IsR r' ∧ ∀ (G : List (Option (List TV)) → Out → Bool → Option R), viaB ob n 3 (bxS n q r) o xs call G = G (bxS n q' r') o' b' := by
  obtain ⟨q', r', rfl, hr'⟩ := shp_inv hs
  refine ⟨q', r', rfl, hr', fun G => ?_⟩
  obtain ⟨h1, h2⟩ := back_shp (q := q) (r := r) (q' := q') hn hr'
  unfold viaB
  simp only [lent_shp hn hr, hx]
  rw [hc]
  have hl : (lentIds n 3).length = 3 := by simp [lentIds]
  have hb : renP (fun j => (lentIds n 3)[j]?) false 4 (.bool b') = some (.bool b') := rfl
  simp only [h1, hb, h2, hl, List.length_cons, List.length_nil, if_true]
theorem fo_kr {R : Type} (gl : List PV → Option Bool) (gp : List PV → Ky → Option (Int × Bool)) (gk : List PV → Ky → Option Int) (gf gb : List PV → Ky → Option (List (Ky × PV))) (kk : List (List PV) → Out → PV → Option R) (b : Bool) (q : Ky) {r : PV} (hr : IsR r) (o : Out) : foKr gl gp gk gf gb kk (frFoR b (bxS 64 q r) o) = kk [[.ptr 2 0], [.str q], [r]] o (.bool b) := by
  rcases hr with rfl | ⟨cs, rfl⟩
  · exact fo_kr0 gl gp gk gf gb kk b q o
  · exact fo_kr1 gl gp gk gf gb kk b q cs o
theorem ba_kr {R : Type} (gl : List PV → Option Bool) (gp : List PV → Ky → Option (Int × Bool)) (gk : List PV → Ky → Option Int) (gf gb : List PV → Ky → Option (List (Ky × PV))) (kk : List (List PV) → Out → PV → Option R) (b : Bool) (q : Ky) {r : PV} (hr : IsR r) (o : Out) : baKr gl gp gk gf gb kk (frBaR b (bxS 61 q r) o) = kk [[.ptr 2 0], [.str q], [r]] o (.bool b) := by
  rcases hr with rfl | ⟨cs, rfl⟩
  · exact ba_kr0 gl gp gk gf gb kk b q o
  · exact ba_kr1 gl gp gk gf gb kk b q cs o
/-! ## leaves -/
theorem slAt0 {S : Type} {l : List (Ky × PV)} {cs : List PV} (h : enc 0 (ofL0 l) = .eptr cs) (k : Option Bool → Nat → List PV → Option S) : slAt cs 0 k = k none l.length (l.map fun p => .str p.1) := by
  rw [enc_zero] at h; injection h with h; subst h; rfl
theorem slAt1 {S : Type} {l : List (Ky × PV)} {cs : List PV} (h : enc 0 (ofL0 l) = .eptr cs) (k : Option Bool → Nat → List PV → Option S) : slAt cs 1 k = k none l.length (l.map (·.2)) := by
  rw [enc_zero] at h; injection h with h; subst h; rfl
theorem slAt2 {S : Type} {d : Nat} {ks : List (TrD PV d)} {cs : List PV} (h : enc (d + 1) (ofL ks) = .eptr cs) (k : Option Bool → Nat → List PV → Option S) : slAt cs 2 k = k (some false) ks.length (ks.map (enc d)) := by
  rw [enc_succ] at h; injection h with h; subst h; rfl
theorem strsAt_eq {S : Type} {l : List (Ky × PV)} {i : Nat} {p : Ky × PV} (h : l[i]? = some p) (k : Ky → Option S) : strsAt l.length (l.map fun p => .str p.1) (i : Int) k = k p.1 := by
  have hi := (List.getElem?_eq_some_iff.1 h).1
  unfold strsAt
  rw [cond_t (by rw [decide_eq_true (by omega), decide_eq_true (by omega)]; rfl), Int.toNat_natCast, Nat.mul_one, List.head?_take, if_neg (by decide), List.head?_drop, List.getElem?_map, h]
  rfl
def valP : PV → Int
  | .int .i64 n => n
  | _ => default
theorem valP_eq {v : PV} (h : vok v = true) : .int .i64 (valP v) = v := by
  unfold vok at h
  split at h
  · rfl
  · cases h
theorem valsAt_eq {S : Type} {l : List (Ky × PV)} {i : Nat} {p : Ky × PV} (h : l[i]? = some p) (hv : vok p.2 = true) (k : Int → Option S) : valsAt l.length (l.map (·.2)) (i : Int) k = k (valP p.2) := by
  have hi := (List.getElem?_eq_some_iff.1 h).1
  have he := valP_eq hv
  unfold valsAt
  rw [cond_t (by rw [decide_eq_true (by omega), decide_eq_true (by omega)]; rfl), Int.toNat_natCast, Nat.mul_one, List.head?_take, if_neg (by decide), List.head?_drop, List.getElem?_map, h]
  simp only [Option.map_some, Option.bind_some]
  rw [← he]
  rfl
section
variable {R : Type} {gf gb : List PV → Ky → Option (List (Ky × PV))} {y : YFn} {kk : List (List PV) → Out → PV → Option R} {res : R}
theorem yF_inv (hy : y.nat) {bs : List (List PV)} {o : Out} {xs : List PV} {k : List (List PV) → Out → Bool → Option R} (h : yF y bs o xs k = some res) : ∃ bs' o' b, (∀ (S : Type) (G : List (List PV) → Out → Bool → Option S), y.F bs o xs G = G bs' o' b) ∧ k bs' o' b = some res := by
  unfold yF at h
  obtain ⟨⟨bs', o', b⟩, h1, h2⟩ := bind_some_inv h
  exact ⟨bs', o', b, fun S G => by rw [hy S, h1]; rfl, h2⟩
theorem fo_leaf (hy : y.nat) {L : List (Ky × PV)} {cs : List PV} (hc : enc 0 (ofL0 L) = .eptr cs) (hv : ∀ p ∈ L, vok p.2 = true) (hl : L.length ≤ 1000) (fu : Nat) : ∀ (k i n : Nat) (q : Ky) (r : PV) (o : Out), i + k = L.length → k < n → IsR r →
    walkY y (L.drop i) [[.ptr 2 0], [.str q], [r]] o (fun bs o b => kk bs o (.bool b)) = some res → foLoop0 gLf gPl gKd gf gb 3 y fu (foKr gLf gPl gKd gf gb kk) n (frFo0 cs (i : Int) (bxS 64 q r) o) = some res
  | k, i, 0, q, r, o, hi, hn, hr, h => by omega
  | 0, i, n + 1, q, r, o, hi, hn, hr, h => by
    rw [List.drop_eq_nil_of_le (by omega)] at h
    unfold foLoop0
    rw [loopK_succ, fo_step0, slAt0 hc, cond_f (decide_eq_false (by omega)), fo_kr _ _ _ _ _ _ _ _ hr]
    exact h
  | k + 1, i, n + 1, q, r, o, hi, hn, hr, h => by
    have hp : L[i]? = some L[i] := List.getElem?_eq_getElem (by omega)
    rw [List.drop_eq_getElem_cons (by omega)] at h
    simp only [walkY] at h
    obtain ⟨bs', o', b, h1, h2⟩ := yF_inv hy h
    obtain ⟨hs, h2⟩ := bif_inv h2
    have hvp := hv _ (List.getElem_mem (show i < L.length by omega))
    unfold foLoop0
    rw [loopK_succ, fo_step0, slAt0 hc, cond_t (decide_eq_true (by omega)), slAt0 hc, strsAt_eq hp, slAt1 hc, valsAt_eq hp hvp, valP_eq hvp]
    have hx : mapO (renP (posOf (lentIds 64 3) 0) false 4) [PV.str L[i].1, L[i].2] = some [PV.str L[i].1, L[i].2] := by
      rw [← valP_eq hvp]; rfl
    obtain ⟨q', r', rfl, hr', e⟩ := via_ok (.inl rfl) hr hx (call := fun bs o xs G => y.F bs o xs G) hs (fun G => h1 R G)
    rw [e]
    cases b with
    | false =>
      rw [cond_t (b := !false) rfl, fo_kr _ _ _ _ _ _ _ _ hr']
      exact h2
    | true =>
      rw [cond_f (b := !true) rfl, wrapI_of (by omega) (by omega)]
      exact fo_leaf hy hc hv hl fu k (i + 1) n q' r' o' (by omega) (by omega) hr' h2
theorem fo_node {d : Nat} {KS : List (TrD PV d)} {s : Ky} {f : TrD PV d → List (Ky × PV)} (hf : ∀ k ∈ KS, ∀ es, enc d k = .eptr es → gf es s = some (f k)) (hl : KS.length ≤ 1000) (nk : Option Bool) (fu : Nat) : ∀ (k i n : Nat) (q : Ky) (r : PV) (o : Out), i + k = KS.length → k < n → IsR r →
    walkY y ((KS.drop i).flatMap f) [[.ptr 2 0], [.str q], [r]] o (fun bs o b => kk bs o (.bool b)) = some res → foLoop2 gLf gPl gKd gf gb 3 y fu (foKr gLf gPl gKd gf gb kk) n (frFo2 s nk KS.length (KS.map (enc d)) (KS.length : Int) (i : Int) (bxS 64 q r) o) = some res
  | k, i, 0, q, r, o, hi, hn, hr, h => by omega
  | 0, i, n + 1, q, r, o, hi, hn, hr, h => by
    rw [List.drop_eq_nil_of_le (by omega)] at h
    unfold foLoop2
    rw [loopK_succ, fo_step2, cond_f (decide_eq_false (by omega)), fo_kr _ _ _ _ _ _ _ _ hr]
    exact h
  | k + 1, i, n + 1, q, r, o, hi, hn, hr, h => by
    have hp : KS[i]? = some KS[i] := List.getElem?_eq_getElem (by omega)
    rw [List.drop_eq_getElem_cons (by omega), List.flatMap_cons, walkY_app] at h
    obtain ⟨bs', o', b, hs, h1, h2⟩ := walkY_inv (shp_of hr) h
    obtain ⟨es, ee, qk⟩ := kidAt_enc (R := R) hp
    have hg := hf _ (List.getElem_mem (show i < KS.length by omega)) es ee
    have hx : mapO (renP (posOf (lentIds 64 3) 0) true 4) [PV.eptr es, .str s, .yld] = some [PV.eptr es, .str s, .yld] := rfl
    obtain ⟨q', r', rfl, hr', e⟩ := via_ok (.inl rfl) hr hx (call := fun bs o _ G => callW gf es s y bs o G) hs (fun G => by
      show callW gf es s y _ o G = _
      unfold callW
      rw [shp_of hr, cond_true, hg, Option.bind_some, h1])
    unfold foLoop2
    rw [loopK_succ, fo_step2, cond_t (decide_eq_true (by omega)), qk, e]
    cases b with
    | false =>
      rw [cond_t (b := !false) rfl, fo_kr _ _ _ _ _ _ _ _ hr']
      exact h2
    | true =>
      rw [cond_f (b := !true) rfl, wrapI_of (by omega) (by omega)]
      exact fo_node hf hl nk fu k (i + 1) n q' r' o' (by omega) (by omega) hr' h2
theorem ba_leaf (hy : y.nat) {L : List (Ky × PV)} {cs : List PV} (hc : enc 0 (ofL0 L) = .eptr cs) (hv : ∀ p ∈ L, vok p.2 = true) (hl : L.length ≤ 1000) (fu : Nat) : ∀ (k n : Nat) (q : Ky) (r : PV) (o : Out), k ≤ L.length → k < n → IsR r →
    walkY y (L.take k).reverse [[.ptr 2 0], [.str q], [r]] o (fun bs o b => kk bs o (.bool b)) = some res → baLoop0 gLf gPl gKd gf gb 3 y fu (baKr gLf gPl gKd gf gb kk) n (frBa0 cs ((k : Int) - 1) (bxS 61 q r) o) = some res
  | k, 0, q, r, o, hi, hn, hr, h => by omega
  | 0, n + 1, q, r, o, hi, hn, hr, h => by
    unfold baLoop0
    rw [loopK_succ, ba_step0, cond_f (decide_eq_false (by omega)), ba_kr _ _ _ _ _ _ _ _ hr]
    exact h
  | k + 1, n + 1, q, r, o, hi, hn, hr, h => by
    have hp : L[k]? = some L[k] := List.getElem?_eq_getElem (by omega)
    rw [List.take_add_one, hp] at h
    simp only [Option.toList_some, List.reverse_append, List.reverse_cons, List.reverse_nil, List.nil_append, List.cons_append, walkY] at h
    obtain ⟨bs', o', b, h1, h2⟩ := yF_inv hy h
    obtain ⟨hs, h2⟩ := bif_inv h2
    have hvp := hv _ (List.getElem_mem (show k < L.length by omega))
    unfold baLoop0
    rw [show ((k + 1 : Nat) : Int) - 1 = (k : Int) by omega, loopK_succ, ba_step0, cond_t (decide_eq_true (by omega)), slAt0 hc, strsAt_eq hp, slAt1 hc, valsAt_eq hp hvp, valP_eq hvp]
    have hx : mapO (renP (posOf (lentIds 61 3) 0) false 4) [PV.str L[k].1, L[k].2] = some [PV.str L[k].1, L[k].2] := by
      rw [← valP_eq hvp]; rfl
    obtain ⟨q', r', rfl, hr', e⟩ := via_ok (.inr (.inl rfl)) hr hx (call := fun bs o xs G => y.F bs o xs G) hs (fun G => h1 R G)
    rw [e]
    cases b with
    | false =>
      rw [cond_t (b := !false) rfl, ba_kr _ _ _ _ _ _ _ _ hr']
      exact h2
    | true =>
      rw [cond_f (b := !true) rfl, wrapI_of (by omega) (by omega)]
      exact ba_leaf hy hc hv hl fu k n q' r' o' (by omega) (by omega) hr' h2
theorem ba_node {d : Nat} {KS : List (TrD PV d)} {cs : List PV} (hc : enc (d + 1) (ofL KS) = .eptr cs) {s : Ky} {f : TrD PV d → List (Ky × PV)} (hf : ∀ k ∈ KS, ∀ es, enc d k = .eptr es → gb es s = some (f k)) (hl : KS.length ≤ 1000) (fu : Nat) : ∀ (k n : Nat) (q : Ky) (r : PV) (o : Out), k ≤ KS.length → k < n → IsR r →
    walkY y ((KS.take k).reverse.flatMap f) [[.ptr 2 0], [.str q], [r]] o (fun bs o b => kk bs o (.bool b)) = some res → baLoop2 gLf gPl gKd gf gb 3 y fu (baKr gLf gPl gKd gf gb kk) n (frBa2 cs s ((k : Int) - 1) (bxS 61 q r) o) = some res
  | k, 0, q, r, o, hi, hn, hr, h => by omega
  | 0, n + 1, q, r, o, hi, hn, hr, h => by
    unfold baLoop2
    rw [loopK_succ, ba_step2, cond_f (decide_eq_false (by omega)), ba_kr _ _ _ _ _ _ _ _ hr]
    exact h
  | k + 1, n + 1, q, r, o, hi, hn, hr, h => by
    have hp : KS[k]? = some KS[k] := List.getElem?_eq_getElem (by omega)
    rw [List.take_add_one, hp] at h
    simp only [Option.toList_some, List.reverse_append, List.reverse_cons, List.reverse_nil, List.nil_append, List.cons_append, List.flatMap_cons] at h
    rw [walkY_app] at h
    obtain ⟨bs', o', b, hs, h1, h2⟩ := walkY_inv (shp_of hr) h
    obtain ⟨es, ee, qk⟩ := kidAt_enc (R := R) hp
    have hg := hf _ (List.getElem_mem (show k < KS.length by omega)) es ee
    have hx : mapO (renP (posOf (lentIds 61 3) 0) true 4) [PV.eptr es, .str s, .yld] = some [PV.eptr es, .str s, .yld] := rfl
    obtain ⟨q', r', rfl, hr', e⟩ := via_ok (.inr (.inl rfl)) hr hx (call := fun bs o _ G => callW gb es s y bs o G) hs (fun G => by
      show callW gb es s y _ o G = _
      unfold callW
      rw [shp_of hr, cond_true, hg, Option.bind_some, h1])
    unfold baLoop2
    rw [show ((k + 1 : Nat) : Int) - 1 = (k : Int) by omega, loopK_succ, ba_step2, cond_t (decide_eq_true (by omega)), slAt2 hc, qk, e]
    cases b with
    | false =>
      rw [cond_t (b := !false) rfl, ba_kr _ _ _ _ _ _ _ _ hr']
      exact h2
    | true =>
      rw [cond_f (b := !true) rfl, wrapI_of (by omega) (by omega)]
      exact ba_node hc hf hl fu k n q' r' o' (by omega) (by omega) hr' h2
end
end Go.Proofs.Ytmacjkiamejcnaa
set_option linter.unusedVariables false
set_option linter.unusedSimpArgs false
set_option maxRecDepth 100000
namespace Go.Proofs.Ytmacjkiamejcnaa
open Go.RowKit
theorem iok_none {NG : Nat} {W : World → Prop} {f : FuncId} {p : IFn} (hn : p.nat) (h : ∀ bs o xs y r, p.F bs o xs y (R := List (List PV) × Out × PV) (fun b o v => some (b, o, v)) ≠ some r) : IOK NG W f p where
  nat := hn
  call := by
    intro X y bs o xs vs bs' o' r f0 _ _ _ _ _ _ _ _ _ _ _ hF
    exact absurd hF (h bs o xs y (bs', o', r))
theorem walk_none (f : FuncId) : IOK NGt Wt f (tWalk fun _ _ => none) := iok_none (tWalk_nat _) (by
  intro bs o xs y r h
  simp only [tWalk] at h
  split at h
  · unfold callW at h
    obtain ⟨_, h⟩ := bif_inv h
    cases h
  · cases h)
def gFo (d : Nat) (cs : List PV) (s : Ky) : Option (List (Ky × PV)) := (dec d (.eptr cs)).bind fun t => bif gdP d t then some (fromK s (cD d t)) else none
def gBa (d : Nat) (cs : List PV) (s : Ky) : Option (List (Ky × PV)) := (dec d (.eptr cs)).bind fun t => bif gdP d t then some (backK s (cD d t)) else none
theorem okl_fo : AllOK NGt Wt (lFo gLf gPl gKd) := allOK_cons ok_leafT (allOK_cons ok_placeT (allOK_cons ok_kidT allOK_nil))
theorem ok_enFo {gf gb : List PV → Ky → Option (List (Ky × PV))} (hf : IOK NGt Wt 61 (tWalk gf)) (hb : IOK NGt Wt 76 (tWalk gb)) : EnvOK (enFo gLf gPl gKd gf gb) NGt Wt :=
  env_okR (env_okA wokt okl_fo allH_nil (allI_cons hf (allI_cons hb allI_nil)) allN_nil allC_nil) _
theorem flatMap_congr' {α γ : Type} {f g : α → List γ} : ∀ {l : List α}, (∀ x ∈ l, f x = g x) → l.flatMap f = l.flatMap g
  | [], _ => rfl
  | x :: l, h => by rw [List.flatMap_cons, List.flatMap_cons, h x List.mem_cons_self, flatMap_congr' fun y hy => h y (List.mem_cons_of_mem _ hy)]
theorem from_high {β : Type} {s : Ky} {l : List (Ky × β)} (h : High s l) : fromK s l = l := List.filter_eq_self.2 fun p hp => by simp [kl_asym (h p hp)]
theorem back_low {β : Type} {s : Ky} {l : List (Ky × β)} (h : Low s l) : backK s l = l.reverse := by
  unfold backK
  rw [List.filter_eq_self.2 fun p hp => by simp [kl_asym (h p hp)]]
theorem from_kids {d : Nat} {ks : List (TrD PV d)} {s : Ky} (h4 : ∀ k ∈ ks, okD 4 d k) (h0 : 0 < ks.length) (hs : Srt (ks.flatMap (cD d))) : fromK s (ks.flatMap (cD d)) = (ks.drop (kidN ks s)).flatMap fun k => fromK s (cD d k) := by
  obtain ⟨k, hk, hA, hB⟩ := kid_split (x := s) h4 h0 hs
  have hi := (List.getElem?_eq_some_iff.1 hk)
  rw [flat_split hk, from_mid _ hA hB, List.drop_eq_getElem_cons hi.1, hi.2, List.flatMap_cons]
  congr 1
  refine (flatMap_congr' fun x hx => ?_).symm
  exact from_high fun p hp => hB p (List.mem_flatMap.2 ⟨x, hx, hp⟩)
theorem flat_rev {α γ : Type} {f : α → List γ} : ∀ (l : List α), (l.flatMap f).reverse = l.reverse.flatMap fun x => (f x).reverse
  | [] => rfl
  | x :: l => by rw [List.flatMap_cons, List.reverse_append, flat_rev l, List.reverse_cons, List.flatMap_append, List.flatMap_singleton]
theorem back_kids {d : Nat} {ks : List (TrD PV d)} {s : Ky} (h4 : ∀ k ∈ ks, okD 4 d k) (h0 : 0 < ks.length) (hs : Srt (ks.flatMap (cD d))) : backK s (ks.flatMap (cD d)) = (ks.take (kidN ks s + 1)).reverse.flatMap fun k => backK s (cD d k) := by
  obtain ⟨k, hk, hA, hB⟩ := kid_split (x := s) h4 h0 hs
  rw [flat_split hk, back_mid _ hA hB, List.take_add_one, hk]
  simp only [Option.toList_some, List.reverse_append, List.reverse_cons, List.reverse_nil, List.nil_append, List.cons_append, List.flatMap_cons]
  congr 1
  rw [flat_rev]
  refine (flatMap_congr' fun x hx => ?_).symm
  exact back_low fun p hp => hA p (List.mem_flatMap.2 ⟨x, List.mem_reverse.1 hx, hp⟩)
theorem from_leaf {l : List (Ky × PV)} (h : Srt l) (s : Ky) : fromK s l = l.drop (plN (l.map (·.1)) s) := by
  obtain ⟨p1, p2, p3, _⟩ := leaf_split h s
  rcases hh : hasK s l with _ | _
  · conv => lhs; rw [← List.take_append_drop (plN (l.map (·.1)) s) l, ← List.append_nil (l.take _)]
    rw [from_mid [] p1 (p3 hh)]
    rfl
  · obtain ⟨v, q1, q2⟩ := p2 hh
    have hi := List.getElem?_eq_some_iff.1 q1
    conv => lhs; rw [take_get_drop q1]
    rw [from_mid _ p1 q2, List.drop_eq_getElem_cons hi.1, hi.2]
    simp [fromK, kl_irr]
theorem back_leaf {l : List (Ky × PV)} (h : Srt l) (s : Ky) : backK s l = (l.take (if hasK s l then plN (l.map (·.1)) s + 1 else plN (l.map (·.1)) s)).reverse := by
  obtain ⟨p1, p2, p3, _⟩ := leaf_split h s
  rcases hh : hasK s l with _ | _
  · conv => lhs; rw [← List.take_append_drop (plN (l.map (·.1)) s) l, ← List.append_nil (l.take _)]
    rw [back_mid [] p1 (p3 hh)]
    rfl
  · obtain ⟨v, q1, q2⟩ := p2 hh
    conv => lhs; rw [take_get_drop q1]
    rw [back_mid _ p1 q2, if_pos rfl, List.take_add_one, q1]
    simp [backK, kl_irr]
section
variable {R : Type} {y : YFn} {kk : List (List PV) → Out → PV → Option R} {res : R}
theorem gdP_inv {d : Nat} {t : TrD PV d} (h : gdP d t = true) : okD 1 d t ∧ Srt (cD d t) ∧ (cD d t).length ≤ 50000 := by
  unfold gdP at h
  simp only [Bool.and_eq_true, decide_eq_true_eq] at h
  exact ⟨(okB_iff 1 d t).1 h.1, (srtB_iff _).1 h.2.1, h.2.2⟩
theorem gdP_kid {d : Nat} {ks : List (TrD PV d)} (h : gdP (d + 1) (ofL ks) = true) {k : TrD PV d} (hk : k ∈ ks) : gdP d k = true := by
  obtain ⟨h1, h2, h3⟩ := gdP_inv h
  have h4 := h1.2 k hk
  have h2 : Srt (ks.flatMap (cD d)) := h2
  have h3 : (ks.flatMap (cD d)).length ≤ 50000 := h3
  obtain ⟨i, hi, e⟩ := List.getElem_of_mem hk
  have hfl := flat_split (d := d) (List.getElem?_eq_getElem hi)
  rw [e] at hfl
  rw [hfl, List.append_assoc] at h2
  unfold gdP
  rw [(okB_iff 1 d k).2 (h4.weaken (by omega)), (srtB_iff _).2 h2.right.left, decide_eq_true (by have := len_mem_flat hk; omega)]
  rfl
theorem fo_eq0 {gf gb : List PV → Ky → Option (List (Ky × PV))} (hy : y.nat) (l : List (Ky × PV)) (hv : ∀ p ∈ l, vok p.2 = true) (hg : gdP 0 (ofL0 l) = true) (s q : Ky) {r : PV} (hr : IsR r) (o : Out) {cs : List PV} (hc : enc 0 (ofL0 l) = .eptr cs)
    (h : walkY y (fromK s l) [[.ptr 2 0], [.str q], [r]] o (fun bs o b => kk bs o (.bool b)) = some res) : foRun gLf gPl gKd gf gb y 2000 kk cs s q r o = some res := by
  obtain ⟨h1, h2, h3⟩ := gdP_inv hg
  have h0 : 1 ≤ l.length := h1.1
  have h8 : l.length ≤ 8 := h1.2
  have h2 : Srt l := h2
  have hpl := plN_le s (l.map (·.1))
  rw [List.length_map] at hpl
  rw [from_leaf h2] at h
  unfold foRun
  rw [gLf_enc hc, Option.bind_some, cond_t (b := decide (0 = 0)) (decide_eq_true rfl), gPl_enc h2 (by omega) (by omega) s hc, Option.bind_some]
  exact fo_leaf hy hc hv (by omega) 2000 (l.length - plN (l.map (·.1)) s) _ 2000 q r o (by omega) (by omega) hr h
theorem fo_eqS {d : Nat} {gb : List PV → Ky → Option (List (Ky × PV))} (hy : y.nat) (ks : List (TrD PV d)) (hv : ∀ p ∈ cD (d + 1) (ofL ks), vok p.2 = true) (hg : gdP (d + 1) (ofL ks) = true) (s q : Ky) {r : PV} (hr : IsR r) (o : Out) {cs : List PV} (hc : enc (d + 1) (ofL ks) = .eptr cs)
    (h : walkY y (fromK s (ks.flatMap (cD d))) [[.ptr 2 0], [.str q], [r]] o (fun bs o b => kk bs o (.bool b)) = some res) : foRun gLf gPl gKd (gFo d) gb y 2000 kk cs s q r o = some res := by
  obtain ⟨h1, h2, h3⟩ := gdP_inv hg
  have h4 : ∀ k ∈ ks, okD 4 d k := h1.2
  have h0 : 1 ≤ ks.length := h1.1.1
  have h8 : ks.length ≤ 8 := h1.1.2
  have h2 : Srt (ks.flatMap (cD d)) := h2
  obtain ⟨k, hk, _, _⟩ := kid_split (x := s) h4 (by omega) h2
  have hlt := (List.getElem?_eq_some_iff.1 hk).1
  rw [from_kids h4 (by omega) h2] at h
  unfold foRun
  rw [gLf_enc hc, Option.bind_some, cond_f (b := decide (d + 1 = 0)) (decide_eq_false (by omega)), slAt2 hc, gKd_enc h4 h2 (by omega) (by omega) s hc, Option.bind_some, cond_t (by rw [decide_eq_true (by omega), decide_eq_true (by omega)]; rfl), Int.toNat_natCast, Nat.mul_one, Nat.mul_one, List.take_of_length_le (by rw [List.length_map]; exact Nat.le_refl _), ← List.map_drop, ← List.length_drop]
  refine fo_node (gf := gFo d) (KS := ks.drop (kidN ks s)) (f := fun k => fromK s (cD d k)) ?_ (by rw [List.length_drop]; omega) (some false) 2000 (ks.drop (kidN ks s)).length 0 2000 q r o (by omega) (by rw [List.length_drop]; omega) hr (by rw [List.drop_zero]; exact h)
  intro x hx es ee
  have hm := List.mem_of_mem_drop hx
  unfold gFo
  rw [← ee, dec_enc (vok_mem hv hm), Option.bind_some, gdP_kid hg hm, cond_true]
theorem ba_eq0 {gf gb : List PV → Ky → Option (List (Ky × PV))} (hy : y.nat) (l : List (Ky × PV)) (hv : ∀ p ∈ l, vok p.2 = true) (hg : gdP 0 (ofL0 l) = true) (s q : Ky) {r : PV} (hr : IsR r) (o : Out) {cs : List PV} (hc : enc 0 (ofL0 l) = .eptr cs)
    (h : walkY y (backK s l) [[.ptr 2 0], [.str q], [r]] o (fun bs o b => kk bs o (.bool b)) = some res) : baRun gLf gPl gKd gf gb y 2000 kk cs s q r o = some res := by
  obtain ⟨h1, h2, h3⟩ := gdP_inv hg
  have h0 : 1 ≤ l.length := h1.1
  have h8 : l.length ≤ 8 := h1.2
  have h2 : Srt l := h2
  have hpl := plN_le s (l.map (·.1))
  rw [List.length_map] at hpl
  rw [back_leaf h2] at h
  unfold baRun
  rw [gLf_enc hc, Option.bind_some, cond_t (b := decide (0 = 0)) (decide_eq_true rfl), gPl_enc h2 (by omega) (by omega) s hc, Option.bind_some]
  rcases hh : hasK s l with _ | _
  · rw [hh, if_neg (by simp)] at h
    rw [cond_t (b := !false) rfl, wrapI_of (by omega) (by omega)]
    exact ba_leaf hy hc hv (by omega) 2000 _ 2000 q r o hpl (by omega) hr h
  · rw [hh, if_pos rfl] at h
    have hlt : plN (l.map (·.1)) s < l.length := by
      obtain ⟨v, q1, _⟩ := (leaf_split h2 s).2.1 hh
      exact (List.getElem?_eq_some_iff.1 q1).1
    rw [cond_f (b := !true) rfl]
    have := ba_leaf (gf := gf) (gb := gb) hy hc hv (by omega) 2000 (plN (l.map (·.1)) s + 1) 2000 q r o (by omega) (by omega) hr h
    rwa [show ((plN (l.map (·.1)) s + 1 : Nat) : Int) - 1 = (plN (l.map (·.1)) s : Int) by omega] at this
theorem ba_eqS {d : Nat} {gf : List PV → Ky → Option (List (Ky × PV))} (hy : y.nat) (ks : List (TrD PV d)) (hv : ∀ p ∈ cD (d + 1) (ofL ks), vok p.2 = true) (hg : gdP (d + 1) (ofL ks) = true) (s q : Ky) {r : PV} (hr : IsR r) (o : Out) {cs : List PV} (hc : enc (d + 1) (ofL ks) = .eptr cs)
    (h : walkY y (backK s (ks.flatMap (cD d))) [[.ptr 2 0], [.str q], [r]] o (fun bs o b => kk bs o (.bool b)) = some res) : baRun gLf gPl gKd gf (gBa d) y 2000 kk cs s q r o = some res := by
  obtain ⟨h1, h2, h3⟩ := gdP_inv hg
  have h4 : ∀ k ∈ ks, okD 4 d k := h1.2
  have h0 : 1 ≤ ks.length := h1.1.1
  have h8 : ks.length ≤ 8 := h1.1.2
  have h2 : Srt (ks.flatMap (cD d)) := h2
  obtain ⟨k, hk, _, _⟩ := kid_split (x := s) h4 (by omega) h2
  have hlt := (List.getElem?_eq_some_iff.1 hk).1
  rw [back_kids h4 (by omega) h2] at h
  unfold baRun
  rw [gLf_enc hc, Option.bind_some, cond_f (b := decide (d + 1 = 0)) (decide_eq_false (by omega)), gKd_enc h4 h2 (by omega) (by omega) s hc, Option.bind_some]
  have := ba_node (gf := gf) (gb := gBa d) hc (s := s) (f := fun k => backK s (cD d k)) (fun x hx es ee => by
    unfold gBa
    rw [← ee, dec_enc (vok_mem hv hx), Option.bind_some, gdP_kid hg hx, cond_true]) (by omega) 2000 (kidN ks s + 1) 2000 q r o (by omega) (by omega) hr h
  rwa [show ((kidN ks s + 1 : Nat) : Int) - 1 = (kidN ks s : Int) by omega] at this
end
theorem ok_forth : ∀ d, IOK NGt Wt 61 (tWalk (gFo d))
  | 0 => by
    refine InOK.of_run (en := enFo gLf gPl gKd (fun _ _ => none) (fun _ _ => none)) (en' := en []) (ok_enFo (walk_none _) (walk_none _)) rfl rfl Try.func61 rfl (by decide) (tWalk_nat _) (h := hFo) ?_
    intro bs o xs y r hy h
    simp only [tWalk] at h
    split at h
    · rename_i cs s
      unfold callW at h
      obtain ⟨hs, h⟩ := bif_inv h
      obtain ⟨l, hl, h⟩ := bind_some_inv h
      unfold gFo at hl
      obtain ⟨t, ht, hl⟩ := bind_some_inv hl
      obtain ⟨hg, hl⟩ := bif_inv hl
      injection hl with hl
      subst hl
      obtain ⟨e, hv⟩ := dec_inv ht
      obtain ⟨q, x, rfl, hr⟩ := shp_inv hs
      refine ⟨2000, ?_⟩
      have key := fo_eq0 (gf := fun _ _ => none) (gb := fun _ _ => none) (kk := fun b o v => some (b, o, v)) hy t hv hg s q hr o e.symm h
      rcases hr with rfl | ⟨rc, rfl⟩
      · exact (fo_run0 ..).trans key
      · exact (fo_run1 ..).trans key
    · cases h
  | d + 1 => by
    refine InOK.of_run (en := enFo gLf gPl gKd (gFo d) (fun _ _ => none)) (en' := en []) (ok_enFo (ok_forth d) (walk_none _)) rfl rfl Try.func61 rfl (by decide) (tWalk_nat _) (h := hFo) ?_
    intro bs o xs y r hy h
    simp only [tWalk] at h
    split at h
    · rename_i cs s
      unfold callW at h
      obtain ⟨hs, h⟩ := bif_inv h
      obtain ⟨l, hl, h⟩ := bind_some_inv h
      unfold gFo at hl
      obtain ⟨t, ht, hl⟩ := bind_some_inv hl
      obtain ⟨hg, hl⟩ := bif_inv hl
      injection hl with hl
      subst hl
      obtain ⟨e, hv⟩ := dec_inv ht
      obtain ⟨q, x, rfl, hr⟩ := shp_inv hs
      refine ⟨2000, ?_⟩
      have key := fo_eqS (gb := fun _ _ => none) (kk := fun b o v => some (b, o, v)) hy t hv hg s q hr o e.symm h
      rcases hr with rfl | ⟨rc, rfl⟩
      · exact (fo_run0 ..).trans key
      · exact (fo_run1 ..).trans key
    · cases h
theorem ok_backW : ∀ d, IOK NGt Wt 76 (tWalk (gBa d))
  | 0 => by
    refine InOK.of_run (en := enFo gLf gPl gKd (fun _ _ => none) (fun _ _ => none)) (en' := en []) (ok_enFo (walk_none _) (walk_none _)) rfl rfl Try.func76 rfl (by decide) (tWalk_nat _) (h := hBa) ?_
    intro bs o xs y r hy h
    simp only [tWalk] at h
    split at h
    · rename_i cs s
      unfold callW at h
      obtain ⟨hs, h⟩ := bif_inv h
      obtain ⟨l, hl, h⟩ := bind_some_inv h
      unfold gBa at hl
      obtain ⟨t, ht, hl⟩ := bind_some_inv hl
      obtain ⟨hg, hl⟩ := bif_inv hl
      injection hl with hl
      subst hl
      obtain ⟨e, hv⟩ := dec_inv ht
      obtain ⟨q, x, rfl, hr⟩ := shp_inv hs
      refine ⟨2000, ?_⟩
      have key := ba_eq0 (gf := fun _ _ => none) (gb := fun _ _ => none) (kk := fun b o v => some (b, o, v)) hy t hv hg s q hr o e.symm h
      rcases hr with rfl | ⟨rc, rfl⟩
      · exact (ba_run0 ..).trans key
      · exact (ba_run1 ..).trans key
    · cases h
  | d + 1 => by
    refine InOK.of_run (en := enFo gLf gPl gKd (fun _ _ => none) (gBa d)) (en' := en []) (ok_enFo (walk_none _) (ok_backW d)) rfl rfl Try.func76 rfl (by decide) (tWalk_nat _) (h := hBa) ?_
    intro bs o xs y r hy h
    simp only [tWalk] at h
    split at h
    · rename_i cs s
      unfold callW at h
      obtain ⟨hs, h⟩ := bif_inv h
      obtain ⟨l, hl, h⟩ := bind_some_inv h
      unfold gBa at hl
      obtain ⟨t, ht, hl⟩ := bind_some_inv hl
      obtain ⟨hg, hl⟩ := bif_inv hl
      injection hl with hl
      subst hl
      obtain ⟨e, hv⟩ := dec_inv ht
      obtain ⟨q, x, rfl, hr⟩ := shp_inv hs
      refine ⟨2000, ?_⟩
      have key := ba_eqS (gf := fun _ _ => none) (kk := fun b o v => some (b, o, v)) hy t hv hg s q hr o e.symm h
      rcases hr with rfl | ⟨rc, rfl⟩
      · exact (ba_run0 ..).trans key
      · exact (ba_run1 ..).trans key
    · cases h
end Go.Proofs.Ytmacjkiamejcnaa
set_option linter.unusedVariables false
set_option linter.unusedSimpArgs false
set_option maxRecDepth 100000
namespace Go.Proofs.Ytmacjkiamejcnaa
open Go.RowKit
/-! ## the functions that From and Back return -/
noncomputable def enFr (gf gb : List PV → Ky → Option (List (Ky × PV))) : Env := enR (enA [] [] [(61, tWalk gf), (76, tWalk gb)] [] []) [93]
section
variable {R : Type} (gf gb : List PV → Ky → Option (List (Ky × PV))) (y : YFn) (kk : List (List PV) → Out → PV → Option R)
noncomputable def frEnd (f : Func) (bx : List (Option (List TV))) (o : Out) : Option R := pfinH (enFr gf gb) 3 f (frF 20 [] bx o) fun bs' o v => if bs'.length = 3 then kk bs' o v else none
theorem from1_raw1 (cs : List PV) (q : Ky) (o : Out) :
    prunI (enFr gf gb) h0 0 Try.f60 [[.ptr 2 0], [.str q], [.eptr cs]] o [.yld, .ptr 0 0, .ptr 1 0] y kk =
      viaB true 20 3 (bxS 20 q (.eptr cs)) o [.eptr cs, .str q, .yld] (fun bs o _ G => callW gf cs q y bs o G) fun bx o b => frEnd gf gb kk Try.f60 bx o := by kernel_rfl
theorem from1_raw0 (q : Ky) (o : Out) :
    prunI (enFr gf gb) h0 0 Try.f60 [[.ptr 2 0], [.str q], [.nilptr]] o [.yld, .ptr 0 0, .ptr 1 0] y kk = kk [[.ptr 2 0], [.str q], [.nilptr]] o (.tuple []) := by kernel_rfl
theorem from1_rawN (q : Ky) (o : Out) :
    prunI (enFr gf gb) h0 0 Try.f60 [[.nilptr], [.str q]] o [.yld, .ptr 0 0, .ptr 1 0] y kk = kk [[.nilptr], [.str q]] o (.tuple []) := by kernel_rfl
theorem back1_raw1 (cs : List PV) (q : Ky) (o : Out) :
    prunI (enFr gf gb) h0 0 Try.f75 [[.ptr 2 0], [.str q], [.eptr cs]] o [.yld, .ptr 0 0, .ptr 1 0] y kk =
      viaB true 20 3 (bxS 20 q (.eptr cs)) o [.eptr cs, .str q, .yld] (fun bs o _ G => callW gb cs q y bs o G) fun bx o b => frEnd gf gb kk Try.f75 bx o := by kernel_rfl
theorem back1_raw0 (q : Ky) (o : Out) :
    prunI (enFr gf gb) h0 0 Try.f75 [[.ptr 2 0], [.str q], [.nilptr]] o [.yld, .ptr 0 0, .ptr 1 0] y kk = kk [[.ptr 2 0], [.str q], [.nilptr]] o (.tuple []) := by kernel_rfl
theorem back1_rawN (q : Ky) (o : Out) :
    prunI (enFr gf gb) h0 0 Try.f75 [[.nilptr], [.str q]] o [.yld, .ptr 0 0, .ptr 1 0] y kk = kk [[.nilptr], [.str q]] o (.tuple []) := by kernel_rfl
theorem frEnd_f0 (q : Ky) (o : Out) : frEnd gf gb kk Try.f60 (bxS 20 q .nilptr) o = kk [[.ptr 2 0], [.str q], [.nilptr]] o (.tuple []) := by kernel_rfl
theorem frEnd_f1 (q : Ky) (cs : List PV) (o : Out) : frEnd gf gb kk Try.f60 (bxS 20 q (.eptr cs)) o = kk [[.ptr 2 0], [.str q], [.eptr cs]] o (.tuple []) := by kernel_rfl
theorem frEnd_b0 (q : Ky) (o : Out) : frEnd gf gb kk Try.f75 (bxS 20 q .nilptr) o = kk [[.ptr 2 0], [.str q], [.nilptr]] o (.tuple []) := by kernel_rfl
theorem frEnd_b1 (q : Ky) (cs : List PV) (o : Out) : frEnd gf gb kk Try.f75 (bxS 20 q (.eptr cs)) o = kk [[.ptr 2 0], [.str q], [.eptr cs]] o (.tuple []) := by kernel_rfl
end
def iWalk (g : List PV → Ky → Option (List (Ky × PV))) : IFn := ⟨fun bs o xs y k => match bs, xs with
  | [[.ptr 2 0], [.str q], [.eptr cs]], [.yld, .ptr 0 0, .ptr 1 0] => callW g cs q y [[.ptr 2 0], [.str q], [.eptr cs]] o fun bs o b => k bs o (.tuple [])
  | [[.ptr 2 0], [.str q], [.nilptr]], [.yld, .ptr 0 0, .ptr 1 0] => k [[.ptr 2 0], [.str q], [.nilptr]] o (.tuple [])
  | [[.nilptr], [.str q]], [.yld, .ptr 0 0, .ptr 1 0] => k [[.nilptr], [.str q]] o (.tuple [])
  | _, _ => none⟩
theorem iWalk_nat (g : List PV → Ky → Option (List (Ky × PV))) : (iWalk g).nat := by
  intro R bs o xs y k
  simp only [iWalk]
  split
  · unfold callW
    rw [bif_bind, obind_assoc]
    congr 2
    funext l
    exact walkY_nat y l _ o (fun bs o b => some (bs, o, PV.tuple [])) (fun r => k r.1 r.2.1 r.2.2)
  all_goals rfl
theorem callW_inv {R : Type} {g : List PV → Ky → Option (List (Ky × PV))} {cs : List PV} {s : Ky} {y : YFn} {bs : List (List PV)} {o : Out} {k : List (List PV) → Out → Bool → Option R} {r : R} (h : callW g cs s y bs o k = some r) :
    ∃ bs' o' b, shpB bs' = true ∧ (∀ (S : Type) (G : List (List PV) → Out → Bool → Option S), callW g cs s y bs o G = G bs' o' b) ∧ k bs' o' b = some r := by
  unfold callW at h
  obtain ⟨hs, h⟩ := bif_inv h
  obtain ⟨l, hl, h⟩ := bind_some_inv h
  obtain ⟨bs', o', b, h1, h2, h3⟩ := walkY_inv hs h
  exact ⟨bs', o', b, h1, fun S G => by unfold callW; rw [hs, cond_true, hl, Option.bind_some, h2], h3⟩
theorem ok_enFr {gf gb : List PV → Ky → Option (List (Ky × PV))} (hf : IOK NGt Wt 61 (tWalk gf)) (hb : IOK NGt Wt 76 (tWalk gb)) : EnvOK (enFr gf gb) NGt Wt :=
  env_okR (env_okA wokt allOK_nil allH_nil (allI_cons hf (allI_cons hb allI_nil)) allN_nil allC_nil) _
theorem ok_from1 {gf gb : List PV → Ky → Option (List (Ky × PV))} (hf : IOK NGt Wt 61 (tWalk gf)) (hb : IOK NGt Wt 76 (tWalk gb)) : IOK NGt Wt 60 (iWalk gf) := by
  refine InOK.of_run (en := enFr gf gb) (en' := en []) (ok_enFr hf hb) rfl rfl Try.func60 rfl (by decide) (iWalk_nat _) (h := h0) ?_
  intro bs o xs y r hy h
  simp only [iWalk] at h
  split at h
  · rename_i q cs
    obtain ⟨bs', o', b, h1, h2, h3⟩ := callW_inv h
    obtain ⟨q', r', rfl, hr', e⟩ := via_ok (R := List (List PV) × Out × PV) (.inr (.inr rfl)) (.inr ⟨cs, rfl⟩) (q := q) (o := o) (ob := true) (xs := [.eptr cs, .str q, .yld]) (xs' := [.eptr cs, .str q, .yld]) rfl (call := fun bs o _ G => callW gf cs q y bs o G) h1 (fun G => h2 _ G)
    refine ⟨0, (from1_raw1 gf gb y _ cs q o).trans ?_⟩
    rw [e]
    rcases hr' with rfl | ⟨c', rfl⟩
    · exact (frEnd_f0 ..).trans h3
    · exact (frEnd_f1 ..).trans h3
  · exact ⟨0, (from1_raw0 gf gb y _ _ o).trans h⟩
  · exact ⟨0, (from1_rawN gf gb y _ _ o).trans h⟩
  · cases h
theorem ok_back1 {gf gb : List PV → Ky → Option (List (Ky × PV))} (hf : IOK NGt Wt 61 (tWalk gf)) (hb : IOK NGt Wt 76 (tWalk gb)) : IOK NGt Wt 75 (iWalk gb) := by
  refine InOK.of_run (en := enFr gf gb) (en' := en []) (ok_enFr hf hb) rfl rfl Try.func75 rfl (by decide) (iWalk_nat _) (h := h0) ?_
  intro bs o xs y r hy h
  simp only [iWalk] at h
  split at h
  · rename_i q cs
    obtain ⟨bs', o', b, h1, h2, h3⟩ := callW_inv h
    obtain ⟨q', r', rfl, hr', e⟩ := via_ok (R := List (List PV) × Out × PV) (.inr (.inr rfl)) (.inr ⟨cs, rfl⟩) (q := q) (o := o) (ob := true) (xs := [.eptr cs, .str q, .yld]) (xs' := [.eptr cs, .str q, .yld]) rfl (call := fun bs o _ G => callW gb cs q y bs o G) h1 (fun G => h2 _ G)
    refine ⟨0, (back1_raw1 gf gb y _ cs q o).trans ?_⟩
    rw [e]
    rcases hr' with rfl | ⟨c', rfl⟩
    · exact (frEnd_b0 ..).trans h3
    · exact (frEnd_b1 ..).trans h3
  · exact ⟨0, (back1_raw0 gf gb y _ _ o).trans h⟩
  · exact ⟨0, (back1_rawN gf gb y _ _ o).trans h⟩
  · cases h
def gFoA (cs : List PV) (s : Ky) : Option (List (Ky × PV)) := gFo (depF 30 (.eptr cs)) cs s
def gBaA (cs : List PV) (s : Ky) : Option (List (Ky × PV)) := gBa (depF 30 (.eptr cs)) cs s
theorem iok_fam {NG : Nat} {W : World → Prop} {f : FuncId} {q : Nat → IFn} {p : IFn} (hq : ∀ d, IOK NG W f (q d)) (hn : p.nat) (h : ∀ bs o xs y r, p.F bs o xs y (R := List (List PV) × Out × PV) (fun b o v => some (b, o, v)) = some r → ∃ d, (q d).F bs o xs y (R := List (List PV) × Out × PV) (fun b o v => some (b, o, v)) = some r) : IOK NG W f p where
  nat := hn
  call := by
    intro X y bs o xs vs bs' o' r f0 a1 a2 a3 a4 a5 a6 a7 a8 a9 a10 a11 hF
    obtain ⟨d, hd⟩ := h bs o xs y (bs', o', r) hF
    exact (hq d).call X y bs o xs vs bs' o' r f0 a1 a2 a3 a4 a5 a6 a7 a8 a9 a10 a11 hd
theorem ok_forthA : IOK NGt Wt 61 (tWalk gFoA) := iok_fam ok_forth (tWalk_nat _) (by
  intro bs o xs y r h
  simp only [tWalk] at h
  split at h
  · rename_i cs s; exact ⟨depF 30 (.eptr cs), h⟩
  · cases h)
theorem ok_backA : IOK NGt Wt 76 (tWalk gBaA) := iok_fam ok_backW (tWalk_nat _) (by
  intro bs o xs y r h
  simp only [tWalk] at h
  split at h
  · rename_i cs s; exact ⟨depF 30 (.eptr cs), h⟩
  · cases h)
theorem okFrom1 : IOK NGt Wt 60 (iWalk gFoA) := ok_from1 ok_forthA ok_backA
theorem okBack1 : IOK NGt Wt 75 (iWalk gBaA) := ok_back1 ok_forthA ok_backA
theorem gdP_root {d : Nat} {t : TrD PV d} (h1 : okD (min 2 (d + 1)) d t) (h2 : Srt (cD d t)) (hl : (cD d t).length ≤ 50000) : gdP d t = true := by
  unfold gdP
  rw [(okB_iff 1 d t).2 (okD_root h1), (srtB_iff _).2 h2, decide_eq_true hl]
  rfl
theorem RootIs.isR {x : PV} {l : List (Ky × PV)} (h : RootIs x l) : IsR x := by
  rcases h with ⟨rfl, rfl⟩ | ⟨d, t, rfl, _⟩
  · exact .inl rfl
  · exact .inr (enc_ptr d t)
theorem from_walk {R : Type} {x : PV} {l : List (Ky × PV)} (h : RootIs x l) (hl : l.length ≤ 50000) (s : Ky) (o : Out) (y : YFn) (k : List (List PV) → Out → PV → Option R) :
    (iWalk gFoA).F [[.ptr 2 0], [.str s], [x]] o [.yld, .ptr 0 0, .ptr 1 0] y k = walkY y (fromK s l) [[.ptr 2 0], [.str s], [x]] o fun bs o b => k bs o (.tuple []) := by
  rcases h with ⟨rfl, rfl⟩ | ⟨d, t, rfl, h1, h2, rfl, hv⟩
  · rfl
  · obtain ⟨cs, e⟩ := enc_ptr d t
    have hd := dep_lt (okD_root h1) (by omega) (by omega)
    have hdep := depF_enc (okD_root h1) (by omega) hd
    rw [e]
    show callW gFoA cs s y [[.ptr 2 0], [.str s], [.eptr cs]] o (fun bs o b => k bs o (.tuple [])) = _
    unfold callW gFoA
    rw [← e, hdep]
    unfold gFo
    rw [← e, dec_enc hv, Option.bind_some, gdP_root h1 h2 hl, cond_true, Option.bind_some, e]
    rfl
theorem back_walk {R : Type} {x : PV} {l : List (Ky × PV)} (h : RootIs x l) (hl : l.length ≤ 50000) (s : Ky) (o : Out) (y : YFn) (k : List (List PV) → Out → PV → Option R) :
    (iWalk gBaA).F [[.ptr 2 0], [.str s], [x]] o [.yld, .ptr 0 0, .ptr 1 0] y k = walkY y (backK s l) [[.ptr 2 0], [.str s], [x]] o fun bs o b => k bs o (.tuple []) := by
  rcases h with ⟨rfl, rfl⟩ | ⟨d, t, rfl, h1, h2, rfl, hv⟩
  · rfl
  · obtain ⟨cs, e⟩ := enc_ptr d t
    have hd := dep_lt (okD_root h1) (by omega) (by omega)
    have hdep := depF_enc (okD_root h1) (by omega) hd
    rw [e]
    show callW gBaA cs s y [[.ptr 2 0], [.str s], [.eptr cs]] o (fun bs o b => k bs o (.tuple [])) = _
    unfold callW gBaA
    rw [← e, hdep]
    unfold gBa
    rw [← e, dec_enc hv, Option.bind_some, gdP_root h1 h2 hl, cond_true, Option.bind_some, e]
    rfl
end Go.Proofs.Ytmacjkiamejcnaa
