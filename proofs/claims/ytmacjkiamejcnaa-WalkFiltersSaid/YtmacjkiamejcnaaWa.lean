/-
  TreeShapes: raw runs.
-/
import Derived.Test.YtmacjkiamejcnaaUp
set_option linter.unusedVariables false
set_option linter.unusedSimpArgs false
set_option maxRecDepth 100000
namespace Go.Proofs.Ytmacjkiamejcnaa
open Go.RowKit
def u16At {S : Type} (n : Nat) (c : List PV) (i : Int) (k : Int → Option S) : Option S := bif decide (0 ≤ i) && decide (i < (n : Int)) then ((c.drop (i.toNat * 1)).take 1).head?.bind fun x => (x.asInt .u16).bind k else none
def key16 (k : Int) : Ky := [UInt8.ofNat (IntKind.u8.wrap (k.fdiv (2 ^ (min (8 : Int).toNat IntKind.u16.bits)))).toNat, UInt8.ofNat (IntKind.u8.wrap k).toNat]
def onP {S : Type} (v : PV) (k : Option Bool → Nat → List PV → Bool → Option S) : Option S := match v with | .tuple [.sl a 2 n c, .bool b] => k a n c b | _ => none
def hSh : Hints := ⟨[(0, ⟨[(1, false), (5, false), (6, false)], [38]⟩), (2, ⟨[(5, false), (6, false)], [38]⟩)], [(4, ⟨[(5, false), (6, false), (126, false), (127, false), (128, false)], [38]⟩), (2, ⟨[(5, false), (6, false), (72, false), (73, false), (74, false)], [38]⟩), (0, ⟨[(1, false), (5, false), (6, false), (39, false), (40, false), (41, false)], [38]⟩)]⟩
noncomputable def fSh : Func := Try.f8
def frSh0 (x : PV) (g : PV) (lf : Option Bool) (ln : Nat) (lc : List PV) (nl : Option Bool) (n : Nat) (c : List PV) (L i : Int) : St := frame 183 [(1, (g, 0)), (5, (.ptr 38 0, 0)), (6, (.sl lf 2 ln lc, 0)), (39, (.sl nl 1 n c, 0)), (40, (.int .i64 L, 0)), (41, (.int .i64 i, 0))] [(38, [(x, 0)])]
def frSh1 (x : PV) (g : PV) (lf : Option Bool) (ln : Nat) (lc : List PV) : St := frame 183 [(1, (g, 0)), (5, (.ptr 38 0, 0)), (6, (.sl lf 2 ln lc, 0))] [(38, [(x, 0)])]
def frSh2 (x : PV) (lf : Option Bool) (ln : Nat) (lc : List PV) (nl : Option Bool) (n : Nat) (c : List PV) (L i : Int) : St := frame 183 [(5, (.ptr 38 0, 0)), (6, (.sl lf 2 ln lc, 0)), (72, (.sl nl 1 n c, 0)), (73, (.int .i64 L, 0)), (74, (.int .i64 i, 0))] [(38, [(x, 0)])]
def frSh3 (x : PV) (lf : Option Bool) (ln : Nat) (lc : List PV) : St := frame 183 [(5, (.ptr 38 0, 0)), (6, (.sl lf 2 ln lc, 0))] [(38, [(x, 0)])]
noncomputable def shLoop0 (fu n : Nat) (st : St) : Option PV := loopF enL hSh fu false fSh [1, 1, 1, 1, 1, 0, 1, 0] 0 n st
noncomputable def shLoop2 (fu n : Nat) (st : St) : Option PV := loopF enL hSh fu false fSh [1, 1, 1, 1, 1, 1, 0, 1, 0] 2 n st
noncomputable def shLoop4 (fu n : Nat) (st : St) : Option PV := loopF enL hSh fu false fSh [1, 1, 1, 1, 1, 1, 1, 0, 1, 0] 4 n st
noncomputable def shTail (p : List Nat) (fu : Nat) (st : St) : Option PV := pcodeN enL hSh fu (pfin enL false fSh) (fun p cur st => loopF enL hSh fu false fSh p cur fu st) (subC p (fSh.body.getD .skip)) p.reverse 0 st (pfin enL false fSh) []
theorem sh_raw (fu : Nat) (na : Option Bool) (la : Nat) (ca : List PV) (ng : Option Bool) (lg : Nat) (cg : List PV) : prun enL hSh fu false fSh [.sl na 1 la ca, .sl ng 1 lg cg] =
    bif !decide (600 < (la : Int)) then bif decide (600 < (lg : Int)) then some (.bool true) else shLoop0 fu fu (frSh0 .nilptr (.sl ng 1 lg cg) (some true) 0 [] na la ca (la : Int) 0) else some (.bool true) := prunN_eq.trans (by kernel_rfl)
def shR0 (lf : Option Bool) (ln : Nat) (lc : List PV) (n : Nat) (c : List PV) (L i : Int) (x : PV) (T : Option PV) (K : PV → Option Bool → Nat → List PV → Int → Option PV) : Option PV :=
  bif decide (i < L) then u16At n c i fun k => (hTPut gPuA).F [[x]] [.ptr 0 0, .str (key16 k), .int .i64 i] fun bs _ => on1 bs fun x' => p_rput.F [.sl lf 2 ln lc, .str (key16 k), .int .i64 i] fun v => onP v fun lf' ln' lc' _ =>
    (hLev gLv).F [[x']] [.ptr 0 0] fun _ u => onI u fun z => p_rlev.F [.int .i64 (ln' : Int)] fun w => onI w fun q => bif decide (q < z) then some (.bool false) else K x' lf' ln' lc' (IntKind.i64.wrap (i + 1))
  else T
theorem sh_step0 (fu : Nat) {x : PV} (hx : IsR x) (gn : Option Bool) (gl : Nat) (gc : List PV) (lf : Option Bool) (ln : Nat) (lc : List PV) (nl : Option Bool) (n : Nat) (c : List PV) (L i : Int) (K : St → Option PV) :
    stepF enL hSh fu false fSh [1, 1, 1, 1, 1, 0, 1, 0] (frSh0 x (.sl gn 1 gl gc) lf ln lc nl n c L i) (fun st => pnorm (hSh.loop.lookup 0) st K) =
      shR0 lf ln lc n c L i x (shTail [1, 1, 1, 1, 1, 1] fu (frSh1 x (.sl gn 1 gl gc) lf ln lc)) (fun x lf ln lc i => K (frSh0 x (.sl gn 1 gl gc) lf ln lc nl n c L i)) := by
  have g : ∀ KN nm, stepG enL hSh fu (pfin enL false fSh) fSh [1, 1, 1, 1, 1, 0, 1, 0] nm 0 [(0, KN)] (frSh0 x (.sl gn 1 gl gc) lf ln lc nl n c L i) (fun st => pnorm (hSh.loop.lookup 0) st K) = shR0 lf ln lc n c L i x (KN (frSh1 x (.sl gn 1 gl gc) lf ln lc)) (fun x lf ln lc i => K (frSh0 x (.sl gn 1 gl gc) lf ln lc nl n c L i)) := by
    intro KN nm
    rcases hx with rfl | ⟨cx, rfl⟩ <;> kernel_rfl
  exact (stepF_eq (by decide)).trans (g (shTail [1, 1, 1, 1, 1, 1] fu) (nmF enL hSh fu fSh fun st => pnorm (hSh.loop.lookup 0) st K))
theorem sh_tail1 (fu : Nat) {x : PV} (hx : IsR x) (gn : Option Bool) (gl : Nat) (gc : List PV) (lf : Option Bool) (ln : Nat) (lc : List PV) :
    shTail [1, 1, 1, 1, 1, 1] fu (frSh1 x (.sl gn 1 gl gc) lf ln lc) = shLoop2 fu fu (frSh2 x lf ln lc gn gl gc (gl : Int) 0) := by
  rcases hx with rfl | ⟨cx, rfl⟩ <;> kernel_rfl
def shR2 (lf : Option Bool) (ln : Nat) (lc : List PV) (n : Nat) (c : List PV) (L i : Int) (x : PV) (T : Option PV) (K : PV → Option Bool → Nat → List PV → Int → Option PV) : Option PV :=
  bif decide (i < L) then u16At n c i fun k => p_rdel.F [.sl lf 2 ln lc, .str (key16 k)] fun v => onP v fun lf' ln' lc' _ => (hDel gDe).F [[x]] [.ptr 0 0, .str (key16 k)] fun bs _ => on1 bs fun x' =>
    (hLev gLv).F [[x']] [.ptr 0 0] fun _ u => onI u fun z => p_rlev.F [.int .i64 (ln' : Int)] fun w => onI w fun q =>
      bif !decide (q < z) then (hLev gLv).F [[x']] [.ptr 0 0] fun _ u => onI u fun y =>
        bif !(!((y == 0) == ((ln' : Int) == 0))) then
          bif decide (0 < (ln' : Int)) then bif decide ((ln' : Int) ≤ 8) then (hLev gLv).F [[x']] [.ptr 0 0] fun _ u => onI u fun y => bif decide (2 < y) then some (.bool false) else K x' lf' ln' lc' (IntKind.i64.wrap (i + 1)) else K x' lf' ln' lc' (IntKind.i64.wrap (i + 1)) else K x' lf' ln' lc' (IntKind.i64.wrap (i + 1))
        else some (.bool false)
      else some (.bool false)
  else T
theorem sh_step2 (fu : Nat) {x : PV} (hx : IsR x) (lf : Option Bool) (ln : Nat) (lc : List PV) (nl : Option Bool) (n : Nat) (c : List PV) (L i : Int) (K : St → Option PV) :
    stepF enL hSh fu false fSh [1, 1, 1, 1, 1, 1, 0, 1, 0] (frSh2 x lf ln lc nl n c L i) (fun st => pnorm (hSh.loop.lookup 2) st K) =
      shR2 lf ln lc n c L i x (shTail [1, 1, 1, 1, 1, 1, 1] fu (frSh3 x lf ln lc)) (fun x lf ln lc i => K (frSh2 x lf ln lc nl n c L i)) := by
  have g : ∀ KN nm, stepG enL hSh fu (pfin enL false fSh) fSh [1, 1, 1, 1, 1, 1, 0, 1, 0] nm 2 [(2, KN)] (frSh2 x lf ln lc nl n c L i) (fun st => pnorm (hSh.loop.lookup 2) st K) = shR2 lf ln lc n c L i x (KN (frSh3 x lf ln lc)) (fun x lf ln lc i => K (frSh2 x lf ln lc nl n c L i)) := by
    intro KN nm
    rcases hx with rfl | ⟨cx, rfl⟩ <;> kernel_rfl
  exact (stepF_eq (by decide)).trans (g (shTail [1, 1, 1, 1, 1, 1, 1] fu) (nmF enL hSh fu fSh fun st => pnorm (hSh.loop.lookup 2) st K))
def frSh4 (x : PV) (lf : Option Bool) (ln : Nat) (lc : List PV) (nl : Option Bool) (n : Nat) (c : List PV) (L i : Int) : St := frame 183 [(5, (.ptr 38 0, 0)), (6, (.sl lf 2 ln lc, 0)), (126, (.sl nl 2 n c, 0)), (127, (.int .i64 L, 0)), (128, (.int .i64 i, 0))] [(38, [(x, 0)])]
theorem sh_tail2 (fu : Nat) {x : PV} (hx : IsR x) (lf : Option Bool) (ln : Nat) (lc : List PV) :
    shTail [1, 1, 1, 1, 1, 1, 1] fu (frSh3 x lf ln lc) = shLoop4 fu fu (frSh4 x lf ln lc lf ln lc (ln : Int) 0) := by
  rcases hx with rfl | ⟨cx, rfl⟩ <;> kernel_rfl
/-- the last questions: At of the length and of minus one -/
def onA {S : Type} (u : PV) (k : Ky → Int → Bool → Option S) : Option S := match u with | .tuple [.str s, .int .i64 v, .bool b] => k s v b | _ => none
def shEnd (x : PV) (ln : Nat) : Option PV :=
  (hAtF gAt).F [[x]] [.ptr 0 0, .int .i64 (ln : Int)] fun _ u => onA u fun _ _ a => (hAtF gAt).F [[x]] [.ptr 0 0, .int .i64 (-1)] fun _ u => onA u fun _ _ b => some (.bool (bif !a then !b else false))
def shR4 (n : Nat) (c : List PV) (L i : Int) (x : PV) (T : Option PV) (K : Int → Option PV) : Option PV :=
  bif decide (i < L) then pairAt n c i fun ks kv => (hAtF gAt).F [[x]] [.ptr 0 0, .int .i64 i] fun _ u => onA u fun s v b =>
    bif !(bif (bif !(s == ks) then true else !(v == kv)) then true else !b) then (hRank gRk).F [[x]] [.ptr 0 0, .str ks] fun _ u => onI u fun r =>
      bif !(r == i) then some (.bool false) else K (IntKind.i64.wrap (i + 1))
    else some (.bool false)
  else T
theorem sh_step4 (fu : Nat) {x : PV} (hx : IsR x) (lf : Option Bool) (ln : Nat) (lc : List PV) (nl : Option Bool) (n : Nat) (c : List PV) (L i : Int) (K : St → Option PV) :
    stepF enL hSh fu false fSh [1, 1, 1, 1, 1, 1, 1, 0, 1, 0] (frSh4 x lf ln lc nl n c L i) (fun st => pnorm (hSh.loop.lookup 4) st K) =
      shR4 n c L i x (shEnd x ln) (fun i => K (frSh4 x lf ln lc nl n c L i)) := by
  rcases hx with rfl | ⟨cx, rfl⟩
  · exact (stepF_eq (by decide)).trans (by kernel_rfl)
  · exact (stepF_eq (by decide)).trans (by kernel_rfl)
end Go.Proofs.Ytmacjkiamejcnaa
