/-
  TreePlays: raw runs.
-/
import Derived.Test.YtmacjkiamejcnaaUp
set_option linter.unusedVariables false
set_option linter.unusedSimpArgs false
set_option maxRecDepth 100000
namespace Go.Proofs.Ytmacjkiamejcnaa
open Go.RowKit
def onP2 {S : Type} (v : PV) (k : Option Bool → Nat → List PV → Bool → Option S) : Option S := match v with | .tuple [.sl a 2 n c, .bool b] => k a n c b | _ => none
def onG {S : Type} (u : PV) (k : Int → Bool → Option S) : Option S := match u with | .tuple [.int .i64 v, .bool b] => k v b | _ => none
def opAt {S : Type} (n : Nat) (c : List PV) (i : Int) (k : Int → Ky → Int → Option S) : Option S :=
  bif decide (0 ≤ i) && decide (i < (n : Int)) then ((c.drop (i.toNat * 3)).take 3).head?.bind fun x => (x.asInt .i64).bind fun kd => ((c.drop (i.toNat * 3)).take 3).tail.head?.bind fun y => y.asStr.bind fun s => ((c.drop (i.toNat * 3)).take 3).tail.tail.head?.bind fun z => (z.asInt .i64).bind fun v => k kd s v else none
def hPl : Hints := ⟨[(0, ⟨[(0, false), (3, false), (4, false), (5, false), (6, false)], [pinMark]⟩), (2, ⟨[(0, false), (3, false), (4, false), (5, false), (6, false), (8, false), (22, false), (23, false), (24, false)], [pinMark]⟩)], [(0, ⟨[(0, false), (3, false), (4, false), (5, false), (6, false), (22, false), (23, false), (24, false)], [pinMark]⟩)]⟩
noncomputable def fPl : Func := Try.f7
def frPl (x y : PV) (n0 : Option Bool) (l0 : Nat) (c0 : List PV) (lf : Option Bool) (ln : Nat) (lc : List PV) (mf : Option Bool) (mn : Nat) (mc : List PV) (L i : Int) : St :=
  frameX 195 197 [(0, (.sl n0 3 l0 c0, 0)), (3, (.ptr 195 0, 0)), (4, (.ptr 196 0, 0)), (5, (.sl lf 2 ln lc, 0)), (6, (.sl mf 2 mn mc, 0)), (22, (.sl n0 3 l0 c0, 0)), (23, (.int .i64 L, 0)), (24, (.int .i64 i, 0))] [(195, [(x, 0)]), (196, [(y, 0)])]
def frPlT (x y : PV) (n0 : Option Bool) (l0 : Nat) (c0 : List PV) (lf : Option Bool) (ln : Nat) (lc : List PV) (mf : Option Bool) (mn : Nat) (mc : List PV) : St :=
  frameX 195 197 [(0, (.sl n0 3 l0 c0, 0)), (3, (.ptr 195 0, 0)), (4, (.ptr 196 0, 0)), (5, (.sl lf 2 ln lc, 0)), (6, (.sl mf 2 mn mc, 0))] [(195, [(x, 0)]), (196, [(y, 0)])]
def plP : List Nat := [1, 1, 1, 1, 0, 1, 0]
noncomputable def plLoop (fu n : Nat) (st : St) : Option PV := loopF enL hPl fu false fPl plP 0 n st
noncomputable def plTail (fu : Nat) (st : St) : Option PV := pcodeN enL hPl fu (pfin enL false fPl) (fun p cur st => loopF enL hPl fu false fPl p cur fu st) (subC [1, 1, 1, 1, 1] (fPl.body.getD .skip)) [1, 1, 1, 1, 1] 0 st (pfin enL false fPl) []
theorem pl_raw (fu : Nat) (n0 : Option Bool) (l0 : Nat) (c0 : List PV) : prun enL hPl fu false fPl [.sl n0 3 l0 c0] = plLoop fu fu (frPl .nilptr .nilptr n0 l0 c0 (some true) 0 [] (some true) 0 [] (l0 : Int) 0) := prunN_eq.trans (by kernel_rfl)
/-- what is asked behind each act -/
def plM (x y : PV) (k : Ky) (lf : Option Bool) (ln : Nat) (lc : List PV) (mn : Nat) (K : Option PV) : Option PV :=
  (hGet gGe).F [[x]] [.ptr 0 0, .str k] fun _ u => onG u fun v ok => p_rget.F [.sl lf 2 ln lc, .str k] fun w => onG w fun v' is =>
    bif !(bif !(v == v') then true else !(ok == is)) then hLen.F [[x]] [.ptr 0 0] fun _ u => onI u fun n1 =>
      bif !(!(n1 == (ln : Int))) then hLen.F [[y]] [.ptr 0 0] fun _ u => onI u fun n2 =>
        bif !(!(n2 == (mn : Int))) then (hRank gRk).F [[x]] [.ptr 0 0, .str k] fun _ u => onI u fun r => p_rfrom.F [.sl lf 2 ln lc, .str k] fun f => onL f fun q =>
          bif !(r == IntKind.i64.wrap ((ln : Int) - (q : Int))) then some (.bool false) else K
        else some (.bool false)
      else some (.bool false)
    else some (.bool false)
/-- behind an act -/
def frPlM (x y : PV) (n0 : Option Bool) (l0 : Nat) (c0 : List PV) (lf : Option Bool) (ln : Nat) (lc : List PV) (mf : Option Bool) (mn : Nat) (mc : List PV) (L i : Int) (kd : Int) (k : Ky) (v : Int) : St :=
  frameX 195 198 [(0, (.sl n0 3 l0 c0, 0)), (3, (.ptr 195 0, 0)), (4, (.ptr 196 0, 0)), (5, (.sl lf 2 ln lc, 0)), (6, (.sl mf 2 mn mc, 0)), (8, (.ptr 197 0, 0)), (22, (.sl n0 3 l0 c0, 0)), (23, (.int .i64 L, 0)), (24, (.int .i64 i, 0))] [(195, [(x, 0)]), (196, [(y, 0)]), (197, [(.int .i64 kd, 0), (.str k, 0), (.int .i64 v, 0)])]
def plR (l0 : Nat) (c0 : List PV) (lf : Option Bool) (ln : Nat) (lc : List PV) (mf : Option Bool) (mn : Nat) (mc : List PV) (L i : Int) (x y : PV) (T : Option PV)
    (M : PV → PV → Option Bool → Nat → List PV → Option Bool → Nat → List PV → Int → Ky → Int → Option PV) : Option PV :=
  bif decide (i < L) then opAt l0 c0 i fun kd k v =>
    bif bif decide (150 ≤ i) then true else decide (100 < ((k.length : Nat) : Int)) then T else
      bif (IntKind.u64.wrap kd).tmod 5 == 0 then
        p_rput.F [.sl lf 2 ln lc, .str k, .int .i64 v] fun w => onP2 w fun lf ln lc fr => (hTPut gPuA).F [[x]] [.ptr 0 0, .str k, .int .i64 v] fun bs b => on1 bs fun x => onB b fun b =>
          bif !(b == fr) then some (.bool false) else M x y lf ln lc mf mn mc kd k v
      else bif (IntKind.u64.wrap kd).tmod 5 == 1 then
        p_rdel.F [.sl lf 2 ln lc, .str k] fun w => onP2 w fun lf ln lc fr => (hDel gDe).F [[x]] [.ptr 0 0, .str k] fun bs b => on1 bs fun x => onB b fun b =>
          bif !(b == fr) then some (.bool false) else M x y lf ln lc mf mn mc kd k v
      else bif (IntKind.u64.wrap kd).tmod 5 == 3 then M x x lf ln lc lf ln lc kd k v
      else bif (IntKind.u64.wrap kd).tmod 5 == 4 then M y x mf mn mc lf ln lc kd k v
      else M x y lf ln lc mf mn mc kd k v
  else T
def plQ : List Nat := [1, 1, 0, 0, 1, 1, 1]
noncomputable def plRest (fu : Nat) (K : St → Option PV) : St → Option PV := restG enL hPl fu (pfin enL false fPl) (nmF enL hPl fu fPl fun st => pnorm (hPl.loop.lookup 0) st K) fPl plP 0 [(0, plTail fu)] plQ (fun st => pnorm (hPl.loop.lookup 0) st K)
theorem pl_step (fu : Nat) {x y : PV} (hx : IsR x) (hy : IsR y) (n0 : Option Bool) (l0 : Nat) (c0 : List PV) (lf : Option Bool) (ln : Nat) (lc : List PV) (mf : Option Bool) (mn : Nat) (mc : List PV) (L i : Int) (K : St → Option PV) :
    stepF enL hPl fu false fPl plP (frPl x y n0 l0 c0 lf ln lc mf mn mc L i) (fun st => pnorm (hPl.loop.lookup 0) st K) =
      plR l0 c0 lf ln lc mf mn mc L i x y (plTail fu (frPlT x y n0 l0 c0 lf ln lc mf mn mc)) (fun x y lf ln lc mf mn mc kd k v => plRest fu K (frPlM x y n0 l0 c0 lf ln lc mf mn mc L i kd k v)) := by
  have g : ∀ KN KM nm k, stepU enL hPl fu (pfin enL false fPl) nm fPl plP 0 [(0, KN)] plQ KM (frPl x y n0 l0 c0 lf ln lc mf mn mc L i) k =
      plR l0 c0 lf ln lc mf mn mc L i x y (KN (frPlT x y n0 l0 c0 lf ln lc mf mn mc)) (fun x y lf ln lc mf mn mc kd k v => KM (frPlM x y n0 l0 c0 lf ln lc mf mn mc L i kd k v)) := by
    intro KN KM nm k
    rcases hx with rfl | ⟨cx, rfl⟩ <;> rcases hy with rfl | ⟨cy, rfl⟩ <;> kernel_rfl
  have e : stepF enL hPl fu false fPl plP (frPl x y n0 l0 c0 lf ln lc mf mn mc L i) (fun st => pnorm (hPl.loop.lookup 0) st K) = stepG enL hPl fu (pfin enL false fPl) fPl plP (nmF enL hPl fu fPl fun st => pnorm (hPl.loop.lookup 0) st K) 0 [(0, plTail fu)] (frPl x y n0 l0 c0 lf ln lc mf mn mc L i) (fun st => pnorm (hPl.loop.lookup 0) st K) := stepF_eq (by decide)
  rw [e, stepG_U enL hPl fu _ _ _ _ _ _ plQ, g]
  rfl
theorem pl_rest (fu : Nat) {x y : PV} (hx : IsR x) (hy : IsR y) (n0 : Option Bool) (l0 : Nat) (c0 : List PV) (lf : Option Bool) (ln : Nat) (lc : List PV) (mf : Option Bool) (mn : Nat) (mc : List PV) (L i : Int) (kd : Int) (k : Ky) (v : Int) (K : St → Option PV) :
    plRest fu K (frPlM x y n0 l0 c0 lf ln lc mf mn mc L i kd k v) = plM x y k lf ln lc mn (K (frPl x y n0 l0 c0 lf ln lc mf mn mc L (IntKind.i64.wrap (i + 1)))) := by
  rcases hx with rfl | ⟨cx, rfl⟩ <;> rcases hy with rfl | ⟨cy, rfl⟩ <;> kernel_rfl
/-! ## behind the loop -/
def strAt0 {S : Type} (l0 : Nat) (c0 : List PV) (k : Ky → Option S) : Option S :=
  bif decide ((0 : Int) ≤ 0) && decide ((0 : Int) < (l0 : Int)) then (((c0.drop ((0 : Int).toNat * 3)).take 3).drop 1).head?.bind fun y => y.asStr.bind k else none
def plEnd (x y : PV) (lf : Option Bool) (ln : Nat) (lc : List PV) (mf : Option Bool) (mn : Nat) (mc : List PV) (q : Ky) : Option PV :=
  hTaken.F [[.ptr 2 0], [.str q], [x]] [clF 60, .int .i64 1000] fun _ v1 => p_rfrom.F [.sl lf 2 ln lc, .str q] fun f1 => p_same.F [v1, f1] fun w => onB w fun b1 =>
    bif !(!b1) then hTaken.F [[.ptr 2 0], [.str q], [y]] [clF 75, .int .i64 1000] fun _ v2 => p_rback.F [.sl mf 2 mn mc, .str q] fun f2 => p_same.F [v2, f2] fun w => onB w fun b2 =>
      bif !b2 then some (.bool false) else
        hTaken.F [[.ptr 2 0], [.str []], [x]] [clF 60, .int .i64 1000] fun _ v3 => p_same.F [v3, .sl lf 2 ln lc] fun w => onB w fun b3 =>
          bif b3 then hTaken.F [[.ptr 2 0], [.str []], [y]] [clF 60, .int .i64 1000] fun _ v4 => p_same.F [v4, .sl mf 2 mn mc] fun w => onB w fun b4 =>
            bif b4 then hTaken.F [[.ptr 2 0], [.str [255, 255]], [x]] [clF 75, .int .i64 1000] fun _ v5 => p_rback.F [.sl lf 2 ln lc, .str [255, 255]] fun f5 => p_same.F [v5, f5] fun w => onB w fun b5 => some (.bool b5)
            else some (.bool false)
          else some (.bool false)
    else some (.bool false)
theorem pl_tail (fu : Nat) {x y : PV} (hx : IsR x) (hy : IsR y) (n0 : Option Bool) (l0 : Nat) (c0 : List PV) (lf : Option Bool) (ln : Nat) (lc : List PV) (mf : Option Bool) (mn : Nat) (mc : List PV) :
    plTail fu (frPlT x y n0 l0 c0 lf ln lc mf mn mc) =
      bif decide ((0 : Int) < (l0 : Int)) then strAt0 l0 c0 fun s => bif decide (((s.length : Nat) : Int) < 100) then strAt0 l0 c0 fun s => plEnd x y lf ln lc mf mn mc s else plEnd x y lf ln lc mf mn mc []
      else plEnd x y lf ln lc mf mn mc [] := by
  rcases hx with rfl | ⟨cx, rfl⟩ <;> rcases hy with rfl | ⟨cy, rfl⟩ <;> kernel_rfl
end Go.Proofs.Ytmacjkiamejcnaa
