/-
  TreeOrders: raw runs; what the laws ask ahead of everything else.
-/
import Derived.Test.YtmacjkiamejcnaaUm
import Derived.Test.YtmacjkiamejcnaaUh
set_option linter.unusedVariables false
set_option linter.unusedSimpArgs false
set_option maxRecDepth 100000
namespace Go.Proofs.Ytmacjkiamejcnaa
open Go.RowKit
noncomputable def lE : List (FuncId × PFn) := [(12, p_same), (42, p_rput), (43, p_rdel), (46, p_rget), (48, p_rfrom), (50, p_rback), (51, p_rlev)]
noncomputable def lH : List (FuncId × HFn) := [(36, hNew), (37, hTPut gPuA), (45, hGet gGe), (40, hDel gDe), (39, hLen), (41, hLev gLv), (44, hCopy), (23, hFrom 60), (49, hFrom 75), (52, hAtF gAt), (47, hRank gRk), (38, hTaken)]
theorem ok_lE : AllOK NGt Wt lE := allOK_cons ok_same (allOK_cons ok_rput (allOK_cons ok_rdel (allOK_cons ok_rget (allOK_cons ok_rfrom (allOK_cons ok_rback (allOK_cons ok_rlev allOK_nil))))))
theorem ok_lH : AllH NGt Wt lH := allH_cons ok_new (allH_cons ok_tput (allH_cons ok_get (allH_cons ok_del (allH_cons ok_len (allH_cons ok_lev (allH_cons ok_copy (allH_cons ok_from (allH_cons ok_back (allH_cons ok_at (allH_cons ok_rank (allH_cons ok_taken allH_nil)))))))))))
theorem first_true : prun (enTx lE lH) h0 5 false Try.f35 [] = some (.bool true) := by kernel_rfl
def p_first : PFn := ⟨fun xs k => match xs with | [] => k (.bool true) | _ => none, false⟩
theorem fokX {l : List (FuncId × PFn)} (hl : AllOK NGt Wt l) {lh : List (FuncId × HFn)} (hh : AllH NGt Wt lh) {f : FuncId} {fn : Func} (hf : Try.prog.funcs[f]? = some fn) (hb : fn.body.isSome = true) (hname : fn.name ≠ "runtime.NumGoroutine") {p : PFn} (hn : p.nat) {h : Hints}
    (hrun : ∀ xs r, p.F xs (R := PV) some = some r → ∃ fuel, prun (enTx l lh) h fuel p.own fn xs = some r) : FOK NGt Wt f p :=
  FnOK.of_run (en := enTx l lh) (en' := en []) (env_okR (env_okA wokt hl hh allI_nil allN_nil allC_nil) _) rfl rfl rfl hf hb hname hn hrun
theorem ok_first : FOK NGt Wt 35 p_first := by
  refine fokX ok_lE ok_lH (h := h0) Try.func35 rfl (by decide) ?_ ?_
  · intro R xs k
    simp only [p_first]
    split <;> rfl
  · intro xs r h
    simp only [p_first] at h
    split at h
    · exact ⟨5, first_true.trans h⟩
    · cases h
noncomputable def lL : List (FuncId × PFn) := (35, p_first) :: lE
theorem ok_lL : AllOK NGt Wt lL := allOK_cons ok_first ok_lE
noncomputable def enL : Env := enTx lL lH
/-! ## TreeOrders -/
def u8At {S : Type} (n : Nat) (c : List PV) (i : Int) (k : Int → Option S) : Option S := bif decide (0 ≤ i) && decide (i < (n : Int)) then ((c.drop (i.toNat * 1)).take 1).head?.bind fun x => (x.asInt .u8).bind k else none
def onI {S : Type} (u : PV) (k : Int → Option S) : Option S := match u with | .int _ n => k n | _ => none
def onB {S : Type} (u : PV) (k : Bool → Option S) : Option S := match u with | .bool b => k b | _ => none
def on1 {S : Type} (bs : List (List PV)) (k : PV → Option S) : Option S := match bs with | [[x]] => k x | _ => none
def hOr : Hints := ⟨[(0, ⟨[(0, false), (3, false), (4, false)], [16, 17]⟩)], [(2, ⟨[(3, false), (8, false), (67, false), (68, false), (69, false)], [16]⟩), (0, ⟨[(0, false), (3, false), (4, false), (18, false), (19, false), (20, false)], [16, 17]⟩)]⟩
def frOr0 (x y : PV) (nl : Option Bool) (n : Nat) (c : List PV) (L i : Int) : St := frame 99 [(0, (.sl nl 1 n c, 0)), (3, (.ptr 16 0, 0)), (4, (.ptr 17 0, 0)), (18, (.sl nl 1 n c, 0)), (19, (.int .i64 L, 0)), (20, (.int .i64 i, 0))] [(16, [(x, 0)]), (17, [(y, 0)])]
def frOr1 (x y : PV) (nl : Option Bool) (n : Nat) (c : List PV) : St := frame 99 [(0, (.sl nl 1 n c, 0)), (3, (.ptr 16 0, 0)), (4, (.ptr 17 0, 0))] [(16, [(x, 0)]), (17, [(y, 0)])]
/-- the walks have left two boxes more -/
def frameX (n m : Nat) (l : List (Nat × TV)) (b : List (Nat × List TV)) : St := ⟨(List.range n).map fun t => (l.lookup t).getD (.undef, 0), (List.range m).map fun t => b.lookup t, .nil⟩
def frOr2 (x : PV) (m : Int) (nl : Option Bool) (n : Nat) (c : List PV) (L i : Int) : St := frameX 99 101 [(3, (.ptr 16 0, 0)), (8, (.int .i64 m, 0)), (67, (.sl nl 1 n c, 0)), (68, (.int .i64 L, 0)), (69, (.int .i64 i, 0))] [(16, [(x, 0)])]
noncomputable def orLoop0 (fu n : Nat) (st : St) : Option PV := loopF enL hOr fu false Try.f6 [1, 1, 1, 1, 0, 1, 0] 0 n st
noncomputable def orLoop2 (fu n : Nat) (st : St) : Option PV := loopF enL hOr fu false Try.f6 [1, 1, 1, 1, 1, 1, 1, 0, 1, 0] 2 n st
noncomputable def orTail (fu : Nat) (st : St) : Option PV := pcodeN enL hOr fu (pfin enL false Try.f6) (fun p cur st => loopF enL hOr fu false Try.f6 p cur fu st) (subC [1, 1, 1, 1, 1] (Try.f6.body.getD .skip)) [1, 1, 1, 1, 1] 0 st (pfin enL false Try.f6) []
theorem or_raw (fu : Nat) (nl : Option Bool) (n : Nat) (c : List PV) : prun enL hOr fu false Try.f6 [.sl nl 1 n c] = bif decide (250 < (n : Int)) then some (.bool true) else orLoop0 fu fu (frOr0 .nilptr .nilptr nl n c (n : Int) 0) := prunN_eq.trans (by kernel_rfl)
def keyX (k : Int) : Ky := [UInt8.ofNat k.toNat, 120]
def orR (fu : Nat) (nl : Option Bool) (n : Nat) (c : List PV) (L i : Int) (x y : PV) (T : PV → PV → Option PV) (K : PV → PV → Int → Option PV) : Option PV :=
  bif decide (i < L) then u8At n c i fun k => (hTPut gPuA).F [[x]] [.ptr 0 0, .str (keyX k), .int .i64 (IntKind.i64.wrap (IntKind.i64.wrap k * 3))] fun bs _ => on1 bs fun x' =>
    u8At n c (IntKind.i64.wrap (IntKind.i64.wrap ((n : Int) - 1) - i)) fun o => (hTPut gPuA).F [[y]] [.ptr 0 0, .str (keyX o), .int .i64 (IntKind.i64.wrap (IntKind.i64.wrap o * 3))] fun bs _ => on1 bs fun y' => K x' y' (IntKind.i64.wrap (i + 1))
  else T x y
theorem or_step0_11 (fu : Nat) (nl : Option Bool) (n : Nat) (c : List PV) (L i : Int) (x y : List PV) (K : St → Option PV) :
    stepF enL hOr fu false Try.f6 [1, 1, 1, 1, 0, 1, 0] (frOr0 (.eptr x) (.eptr y) nl n c L i) (fun st => pnorm (hOr.loop.lookup 0) st K) = orR fu nl n c L i (.eptr x) (.eptr y) (fun x y => orTail fu (frOr1 x y nl n c)) (fun x y i => K (frOr0 x y nl n c L i)) := (stepF_eq (by decide)).trans (by kernel_rfl)
theorem or_step0_00 (fu : Nat) (nl : Option Bool) (n : Nat) (c : List PV) (L i : Int) (K : St → Option PV) :
    stepF enL hOr fu false Try.f6 [1, 1, 1, 1, 0, 1, 0] (frOr0 .nilptr .nilptr nl n c L i) (fun st => pnorm (hOr.loop.lookup 0) st K) = orR fu nl n c L i .nilptr .nilptr (fun x y => orTail fu (frOr1 x y nl n c)) (fun x y i => K (frOr0 x y nl n c L i)) := (stepF_eq (by decide)).trans (by kernel_rfl)
end Go.Proofs.Ytmacjkiamejcnaa
