/-
  The document's answers for walks (lists of pairs): raw runs.
-/
import Derived.Test.YtmacjkiamejcnaaNa
set_option linter.unusedVariables false
set_option linter.unusedSimpArgs false
set_option maxRecDepth 100000
namespace Go.Proofs.Ytmacjkiamejcnaa
open Go.RowKit
noncomputable def apS {S : Type} (n m : Nat) (k : Option S) : Option S := bif decide (n + m ≤ 9223372036854775807) && decide ((n + m) * bytesOf Try.prog 9 ≤ roomB) then k else none
/-! ## Texts -/
def hTx : Hints := ⟨[], [(0, ⟨[(0, false), (1, false), (12, false), (13, false)], []⟩)]⟩
def frTx (na : Option Bool) (la : Nat) (ca : List PV) (nb : Option Bool) (lb : Nat) (cb : List PV) (L i : Int) : St := frame 26 [(0, (.sl na 1 la ca, 0)), (1, (.sl nb 1 lb cb, 0)), (12, (.int .i64 L, 0)), (13, (.int .i64 i, 0))] []
noncomputable def txLoop (fu n : Nat) (st : St) : Option PV := loopF (en []) hTx fu false Try.f21 [1, 1, 0, 1, 0] 0 n st
theorem tx_raw (fu : Nat) (na : Option Bool) (la : Nat) (ca : List PV) (nb : Option Bool) (lb : Nat) (cb : List PV) :
    prun (en []) hTx fu false Try.f21 [.sl na 1 la ca, .sl nb 1 lb cb] = bif (la : Int) != (lb : Int) then some (.bool false) else txLoop fu fu (frTx na la ca nb lb cb (la : Int) 0) := prunN_eq.trans (by kernel_rfl)
theorem tx_step (fu : Nat) (na : Option Bool) (la : Nat) (ca : List PV) (nb : Option Bool) (lb : Nat) (cb : List PV) (L i : Int) (K : St → Option PV) :
    stepF (en []) hTx fu false Try.f21 [1, 1, 0, 1, 0] (frTx na la ca nb lb cb L i) (fun st => pnorm (hTx.loop.lookup 0) st K) =
      bif decide (i < L) then strsAt la ca i fun s => strsAt lb cb i fun s' => bif s != s' then some (.bool false) else K (frTx na la ca nb lb cb L (IntKind.i64.wrap (i + 1)))
      else some (.bool true) := by kernel_rfl
/-! ## Between -/
def hRw : Hints := ⟨[], [(0, ⟨[(1, false), (2, false), (7, true), (10, false), (11, false), (12, false)], []⟩)]⟩
def frRw (f t : Ky) (no : Option Bool) (lo : Nat) (co : List PV) (nl : Option Bool) (n : Nat) (c : List PV) (L i : Int) : St := frame 36 [(1, (.str f, 0)), (2, (.str t, 0)), (7, (.sl no 2 lo co, 45)), (10, (.sl nl 2 n c, 0)), (11, (.int .i64 L, 0)), (12, (.int .i64 i, 0))] []
noncomputable def rwLoop (fu n : Nat) (st : St) : Option PV := loopF (en []) hRw fu false Try.f15 [1, 1, 0, 1, 0] 0 n st
theorem rw_raw (fu : Nat) (nl : Option Bool) (n : Nat) (c : List PV) (f t : Ky) : prun (en []) hRw fu false Try.f15 [.sl nl 2 n c, .str f, .str t] = rwLoop fu fu (frRw f t (some true) 0 [] nl n c (n : Int) 0) := prunN_eq.trans (by kernel_rfl)
def btw (f t s : Ky) : Bool := bif !Op.bytesLess s f then (bif t == [] then true else Op.bytesLess s t) else false
theorem rw_step (fu : Nat) (f t : Ky) (no : Option Bool) (lo : Nat) (co : List PV) (nl : Option Bool) (n : Nat) (c : List PV) (L i : Int) (K : St → Option PV) :
    stepF (en []) hRw fu false Try.f15 [1, 1, 0, 1, 0] (frRw f t no lo co nl n c L i) (fun st => pnorm (hRw.loop.lookup 0) st K) =
      bif decide (i < L) then pairAt n c i fun s v => bif btw f t s then apR lo 1 (K (frRw f t (no.map (· && (1 == 0))) (lo + 1) (co ++ [.str s, .int .i64 v]) nl n c L (IntKind.i64.wrap (i + 1)))) else K (frRw f t no lo co nl n c L (IntKind.i64.wrap (i + 1)))
      else some (.sl no 2 lo co) := by kernel_rfl
/-! ## Prefix -/
def hRx : Hints := ⟨[], [(0, ⟨[(1, false), (5, true), (8, false), (9, false), (10, false)], []⟩)]⟩
def frRx (q : Ky) (no : Option Bool) (lo : Nat) (co : List PV) (nl : Option Bool) (n : Nat) (c : List PV) (L i : Int) : St := frame 35 [(1, (.str q, 0)), (5, (.sl no 2 lo co, 42)), (8, (.sl nl 2 n c, 0)), (9, (.int .i64 L, 0)), (10, (.int .i64 i, 0))] []
noncomputable def rxLoop (fu n : Nat) (st : St) : Option PV := loopF (en []) hRx fu false Try.f17 [1, 1, 0, 1, 0] 0 n st
theorem rx_raw (fu : Nat) (nl : Option Bool) (n : Nat) (c : List PV) (q : Ky) : prun (en []) hRx fu false Try.f17 [.sl nl 2 n c, .str q] = rxLoop fu fu (frRx q (some true) 0 [] nl n c (n : Int) 0) := prunN_eq.trans (by kernel_rfl)
theorem rx_step (fu : Nat) (q : Ky) (no : Option Bool) (lo : Nat) (co : List PV) (nl : Option Bool) (n : Nat) (c : List PV) (L i : Int) (K : St → Option PV) :
    stepF (en []) hRx fu false Try.f17 [1, 1, 0, 1, 0] (frRx q no lo co nl n c L i) (fun st => pnorm (hRx.loop.lookup 0) st K) =
      bif decide (i < L) then pairAt n c i fun s v => bif decide (((q.length : Nat) : Int) ≤ ((s.length : Nat) : Int)) then
          (bif decide ((0 : Int) ≤ ((q.length : Nat) : Int)) && decide (((q.length : Nat) : Int) ≤ ((s.length : Nat) : Int)) then (bif ((s.take ((q.length : Nat) : Int).toNat).drop 0) == q then apR lo 1 (K (frRx q (no.map (· && (1 == 0))) (lo + 1) (co ++ [.str s, .int .i64 v]) nl n c L (IntKind.i64.wrap (i + 1)))) else K (frRx q no lo co nl n c L (IntKind.i64.wrap (i + 1)))) else none)
        else K (frRx q no lo co nl n c L (IntKind.i64.wrap (i + 1)))
      else some (.sl no 2 lo co) := by kernel_rfl
/-! ## Diff -/
noncomputable def enRi : Env := en [(46, p_rget)]
def hRi : Hints := ⟨[], [(2, ⟨[(0, false), (7, false), (8, true), (9, false), (48, false), (49, false), (50, false)], []⟩), (0, ⟨[(0, false), (1, false), (7, true), (8, true), (9, true), (18, false), (19, false), (20, false)], []⟩)]⟩
def frRi0 (na : Option Bool) (la : Nat) (ca : List PV) (nb : Option Bool) (lb : Nat) (cb : List PV) (no : Option Bool) (lo : Nat) (co : List PV) (ne : Option Bool) (le : Nat) (ce : List PV) (nl : Option Bool) (n : Nat) (c : List PV) (L i : Int) : St := frame 72 [(0, (.sl na 2 la ca, 0)), (1, (.sl nb 2 lb cb, 0)), (7, (.sl no 1 lo co, 81)), (8, (.sl (some true) 1 0 [], 82)), (9, (.sl ne 1 le ce, 83)), (18, (.sl nl 2 n c, 0)), (19, (.int .i64 L, 0)), (20, (.int .i64 i, 0))] []
def frRi2 (na : Option Bool) (la : Nat) (ca : List PV) (g e : PV) (no : Option Bool) (lo : Nat) (co : List PV) (nl : Option Bool) (n : Nat) (c : List PV) (L i : Int) : St := frame 72 [(0, (.sl na 2 la ca, 0)), (7, (g, 0)), (8, (.sl no 1 lo co, 82)), (9, (e, 0)), (48, (.sl nl 2 n c, 0)), (49, (.int .i64 L, 0)), (50, (.int .i64 i, 0))] []
noncomputable def fRi : Func := Try.f20
noncomputable def riLoop0 (fu n : Nat) (st : St) : Option PV := loopF enRi hRi fu false fRi [1, 1, 0, 1, 0] 0 n st
noncomputable def riLoop2 (fu n : Nat) (st : St) : Option PV := loopF enRi hRi fu false fRi [1, 1, 1, 0, 1, 0] 2 n st
theorem ri_raw (fu : Nat) (na : Option Bool) (la : Nat) (ca : List PV) (nb : Option Bool) (lb : Nat) (cb : List PV) : prun enRi hRi fu false fRi [.sl na 2 la ca, .sl nb 2 lb cb] = riLoop0 fu fu (frRi0 na la ca nb lb cb (some true) 0 [] (some true) 0 [] na la ca (la : Int) 0) := prunN_eq.trans (by kernel_rfl)
theorem ri_step0 (fu : Nat) (na : Option Bool) (la : Nat) (ca : List PV) (nb : Option Bool) (lb : Nat) (cb : List PV) (no : Option Bool) (lo : Nat) (co : List PV) (ne : Option Bool) (le : Nat) (ce : List PV) (nl : Option Bool) (n : Nat) (c : List PV) (L i : Int) (K : St → Option PV) :
    stepF enRi hRi fu false fRi [1, 1, 0, 1, 0] (frRi0 na la ca nb lb cb no lo co ne le ce nl n c L i) (fun st => pnorm (hRi.loop.lookup 0) st K) =
      bif decide (i < L) then pairAt n c i fun s v => p_rget.F [.sl nb 2 lb cb, .str s] fun w => onG w fun v' has =>
        bif !has then apS lo 1 (K (frRi0 na la ca nb lb cb (no.map (· && (1 == 0))) (lo + 1) (co ++ [.str s]) ne le ce nl n c L (IntKind.i64.wrap (i + 1))))
        else bif !(v' == v) then apS le 1 (K (frRi0 na la ca nb lb cb no lo co (ne.map (· && (1 == 0))) (le + 1) (ce ++ [.str s]) nl n c L (IntKind.i64.wrap (i + 1))))
        else K (frRi0 na la ca nb lb cb no lo co ne le ce nl n c L (IntKind.i64.wrap (i + 1)))
      else riLoop2 fu fu (frRi2 na la ca (.sl no 1 lo co) (.sl ne 1 le ce) (some true) 0 [] nb lb cb (lb : Int) 0) := (stepF_eq (by decide)).trans (by kernel_rfl)
theorem ri_step2 (fu : Nat) (na : Option Bool) (la : Nat) (ca : List PV) (ng : Option Bool) (lg : Nat) (cg : List PV) (ne : Option Bool) (le : Nat) (ce : List PV) (no : Option Bool) (lo : Nat) (co : List PV) (nl : Option Bool) (n : Nat) (c : List PV) (L i : Int) (K : St → Option PV) :
    stepF enRi hRi fu false fRi [1, 1, 1, 0, 1, 0] (frRi2 na la ca (.sl ng 1 lg cg) (.sl ne 1 le ce) no lo co nl n c L i) (fun st => pnorm (hRi.loop.lookup 2) st K) =
      bif decide (i < L) then pairAt n c i fun s v => p_rget.F [.sl na 2 la ca, .str s] fun w => onG w fun v' has =>
        bif !has then apS lo 1 (K (frRi2 na la ca (.sl ng 1 lg cg) (.sl ne 1 le ce) (no.map (· && (1 == 0))) (lo + 1) (co ++ [.str s]) nl n c L (IntKind.i64.wrap (i + 1))))
        else K (frRi2 na la ca (.sl ng 1 lg cg) (.sl ne 1 le ce) no lo co nl n c L (IntKind.i64.wrap (i + 1)))
      else some (.tuple [.sl ng 1 lg cg, .sl no 1 lo co, .sl ne 1 le ce]) := by kernel_rfl
end Go.Proofs.Ytmacjkiamejcnaa
