/-
  TreeOrders: raw runs of the parts behind its first loop.
-/
import Derived.Test.YtmacjkiamejcnaaUn
set_option linter.unusedVariables false
set_option linter.unusedSimpArgs false
set_option maxRecDepth 100000
namespace Go.Proofs.Ytmacjkiamejcnaa
open Go.RowKit
theorem or_step0 (fu : Nat) (nl : Option Bool) (n : Nat) (c : List PV) (L i : Int) {x y : PV} (hx : IsR x) (hy : IsR y) (K : St → Option PV) :
    stepF enL hOr fu false Try.f6 [1, 1, 1, 1, 0, 1, 0] (frOr0 x y nl n c L i) (fun st => pnorm (hOr.loop.lookup 0) st K) = orR fu nl n c L i x y (fun x y => orTail fu (frOr1 x y nl n c)) (fun x y i => K (frOr0 x y nl n c L i)) := by
  have g : ∀ KN nm, stepG enL hOr fu (pfin enL false fOr) fOr [1, 1, 1, 1, 0, 1, 0] nm 0 [(0, KN)] (frOr0 x y nl n c L i) (fun st => pnorm (hOr.loop.lookup 0) st K) = orR fu nl n c L i x y (fun x y => KN (frOr1 x y nl n c)) (fun x y i => K (frOr0 x y nl n c L i)) := by
    intro KN nm
    rcases hx with rfl | ⟨cx, rfl⟩
    · rcases hy with rfl | ⟨cy, rfl⟩
      · exact or_G_00 fu nl n c L i K KN nm
      · kernel_rfl
    · rcases hy with rfl | ⟨cy, rfl⟩
      · kernel_rfl
      · exact or_G_11 fu nl n c L i cx cy K KN nm
  exact (stepF_eq (by decide)).trans (g (orTail fu) (nmF enL hOr fu fOr fun st => pnorm (hOr.loop.lookup 0) st K))
def clF (f : FuncId) : PV := .clo f [.ptr 0 0, .ptr 1 0]
def orT (fu : Nat) (x y : PV) (T : Int → Option PV) : Option PV :=
  hTaken.F [[.ptr 2 0], [.str []], [x]] [clF 60, .int .i64 1000] fun _ v1 => hTaken.F [[.ptr 2 0], [.str []], [y]] [clF 60, .int .i64 1000] fun _ v2 => p_same.F [v1, v2] fun w => onB w fun b =>
    bif !(!b) then hLen.F [[x]] [.ptr 0 0] fun _ u => onI u fun n1 => hLen.F [[y]] [.ptr 0 0] fun _ u => onI u fun n2 => bif n1 != n2 then some (.bool false) else hLen.F [[x]] [.ptr 0 0] fun _ u => onI u fun m => T m
    else some (.bool false)
theorem or_tail (fu : Nat) (nl : Option Bool) (n : Nat) (c : List PV) {x y : PV} (hx : IsR x) (hy : IsR y) :
    orTail fu (frOr1 x y nl n c) = orT fu x y fun m => orLoop2 fu fu (frOr2 x m nl n c (n : Int) 0) := by
  rcases hx with rfl | ⟨cx, rfl⟩
  · rcases hy with rfl | ⟨cy, rfl⟩
    · kernel_rfl
    · kernel_rfl
  · rcases hy with rfl | ⟨cy, rfl⟩
    · kernel_rfl
    · kernel_rfl
def onL {S : Type} (v : PV) (k : Nat → Option S) : Option S := match v with | .sl _ _ n _ => k n | _ => none
def orS (nl : Option Bool) (n : Nat) (c : List PV) (L i m : Int) (x : PV) (K : PV → Int → Int → Option PV) : Option PV :=
  bif decide (i < L) then u8At n c i fun k => (hDel gDe).F [[x]] [.ptr 0 0, .str (keyX k)] fun bs b => on1 bs fun x' => onB b fun b =>
    bif b then hLen.F [[x']] [.ptr 0 0] fun _ u => onI u fun q => bif q != IntKind.i64.wrap (m - 1) then some (.bool false) else K x' (IntKind.i64.wrap (m - 1)) (IntKind.i64.wrap (i + 1))
    else hLen.F [[x']] [.ptr 0 0] fun _ u => onI u fun q => bif q != m then some (.bool false) else K x' m (IntKind.i64.wrap (i + 1))
  else bif m == 0 then (hLev gLv).F [[x]] [.ptr 0 0] fun _ u => onI u fun z => bif z == 0 then hTaken.F [[.ptr 2 0], [.str []], [x]] [clF 60, .int .i64 9] fun _ v => onL v fun q => some (.bool ((q : Int) == 0)) else some (.bool false) else some (.bool false)
theorem or_step2 (fu : Nat) (nl : Option Bool) (n : Nat) (c : List PV) (L i m : Int) {x : PV} (hx : IsR x) (K : St → Option PV) :
    stepF enL hOr fu false Try.f6 [1, 1, 1, 1, 1, 1, 1, 0, 1, 0] (frOr2 x m nl n c L i) (fun st => pnorm (hOr.loop.lookup 2) st K) = orS nl n c L i m x (fun x m i => K (frOr2 x m nl n c L i)) := by
  rcases hx with rfl | ⟨cx, rfl⟩
  · exact (stepF_eq (by decide)).trans (by kernel_rfl)
  · exact (stepF_eq (by decide)).trans (by kernel_rfl)
end Go.Proofs.Ytmacjkiamejcnaa
