/-
  TreeOrders: raw runs; what the laws ask ahead of everything else.
-/
import Derived.Test.YtmacjkiamejcnaaUm
import Derived.Test.YtmacjkiamejcnaaUh
set_option linter.unusedVariables false
set_option linter.unusedSimpArgs false
set_option maxRecDepth 100000
namespace Go.Proofs.Ytmacjkiamejcnaa
open Go.RowKit
noncomputable def lE : List (FuncId × PFn) := [(12, p_same), (42, p_rput), (43, p_rdel), (46, p_rget), (48, p_rfrom), (50, p_rback), (51, p_rlev)]
noncomputable def lH : List (FuncId × HFn) := [(36, hNew), (37, hTPut gPuA), (45, hGet gGe), (40, hDel gDe), (39, hLen), (41, hLev gLv), (44, hCopy), (23, hFrom 60), (49, hFrom 75), (52, hAtF gAt), (47, hRank gRk), (38, hTaken)]
theorem ok_lE : AllOK NGt Wt lE := allOK_cons ok_same (allOK_cons ok_rput (allOK_cons ok_rdel (allOK_cons ok_rget (allOK_cons ok_rfrom (allOK_cons ok_rback (allOK_cons ok_rlev allOK_nil))))))
theorem ok_lH : AllH NGt Wt lH := allH_cons ok_new (allH_cons ok_tput (allH_cons ok_get (allH_cons ok_del (allH_cons ok_len (allH_cons ok_lev (allH_cons ok_copy (allH_cons ok_from (allH_cons ok_back (allH_cons ok_at (allH_cons ok_rank (allH_cons ok_taken allH_nil)))))))))))
theorem first_true : prun (enTx lE lH) h0 5 false Try.f35 [] = some (.bool true) := by kernel_rfl
def p_first : PFn := ⟨fun xs k => match xs with | [] => k (.bool true) | _ => none, false⟩
theorem fokX {l : List (FuncId × PFn)} (hl : AllOK NGt Wt l) {lh : List (FuncId × HFn)} (hh : AllH NGt Wt lh) {f : FuncId} {fn : Func} (hf : Try.prog.funcs[f]? = some fn) (hb : fn.body.isSome = true) (hname : fn.name ≠ "runtime.NumGoroutine") {p : PFn} (hn : p.nat) {h : Hints}
    (hrun : ∀ xs r, p.F xs (R := PV) some = some r → ∃ fuel, prun (enTx l lh) h fuel p.own fn xs = some r) : FOK NGt Wt f p :=
  FnOK.of_run (en := enTx l lh) (en' := en []) (env_okR (env_okA wokt hl hh allI_nil allN_nil allC_nil) _) rfl rfl rfl hf hb hname hn hrun
theorem ok_first : FOK NGt Wt 35 p_first := by
  refine fokX ok_lE ok_lH (h := h0) Try.func35 rfl (by decide) ?_ ?_
  · intro R xs k
    simp only [p_first]
    split <;> rfl
  · intro xs r h
    simp only [p_first] at h
    split at h
    · exact ⟨5, first_true.trans h⟩
    · cases h
noncomputable def lL : List (FuncId × PFn) := (35, p_first) :: lE
theorem ok_lL : AllOK NGt Wt lL := allOK_cons ok_first ok_lE
noncomputable def enL : Env := enTx lL lH
/-! ## TreeOrders -/
def u8At {S : Type} (n : Nat) (c : List PV) (i : Int) (k : Int → Option S) : Option S := bif decide (0 ≤ i) && decide (i < (n : Int)) then ((c.drop (i.toNat * 1)).take 1).head?.bind fun x => (x.asInt .u8).bind k else none
def onI {S : Type} (u : PV) (k : Int → Option S) : Option S := match u with | .int _ n => k n | _ => none
def onB {S : Type} (u : PV) (k : Bool → Option S) : Option S := match u with | .bool b => k b | _ => none
def on1 {S : Type} (bs : List (List PV)) (k : PV → Option S) : Option S := match bs with | [[x]] => k x | _ => none
def hOr : Hints := ⟨[(0, ⟨[(0, false), (3, false), (4, false)], [16, 17]⟩)], [(2, ⟨[(3, false), (8, false), (67, false), (68, false), (69, false)], [16]⟩), (0, ⟨[(0, false), (3, false), (4, false), (18, false), (19, false), (20, false)], [16, 17]⟩)]⟩
def frOr0 (x y : PV) (nl : Option Bool) (n : Nat) (c : List PV) (L i : Int) : St := frame 99 [(0, (.sl nl 1 n c, 0)), (3, (.ptr 16 0, 0)), (4, (.ptr 17 0, 0)), (18, (.sl nl 1 n c, 0)), (19, (.int .i64 L, 0)), (20, (.int .i64 i, 0))] [(16, [(x, 0)]), (17, [(y, 0)])]
def frOr1 (x y : PV) (nl : Option Bool) (n : Nat) (c : List PV) : St := frame 99 [(0, (.sl nl 1 n c, 0)), (3, (.ptr 16 0, 0)), (4, (.ptr 17 0, 0))] [(16, [(x, 0)]), (17, [(y, 0)])]
/-- the walks have left two boxes more -/
def frameX (n m : Nat) (l : List (Nat × TV)) (b : List (Nat × List TV)) : St := ⟨(List.range n).map fun t => (l.lookup t).getD (.undef, 0), (List.range m).map fun t => b.lookup t, .nil⟩
def frOr2 (x : PV) (m : Int) (nl : Option Bool) (n : Nat) (c : List PV) (L i : Int) : St := frameX 99 101 [(3, (.ptr 16 0, 0)), (8, (.int .i64 m, 0)), (67, (.sl nl 1 n c, 0)), (68, (.int .i64 L, 0)), (69, (.int .i64 i, 0))] [(16, [(x, 0)])]
noncomputable def orLoop0 (fu n : Nat) (st : St) : Option PV := loopF enL hOr fu false Try.f6 [1, 1, 1, 1, 0, 1, 0] 0 n st
noncomputable def orLoop2 (fu n : Nat) (st : St) : Option PV := loopF enL hOr fu false Try.f6 [1, 1, 1, 1, 1, 1, 1, 0, 1, 0] 2 n st
noncomputable def orTail (fu : Nat) (st : St) : Option PV := pcodeN enL hOr fu (pfin enL false Try.f6) (fun p cur st => loopF enL hOr fu false Try.f6 p cur fu st) (subC [1, 1, 1, 1, 1] (Try.f6.body.getD .skip)) [1, 1, 1, 1, 1] 0 st (pfin enL false Try.f6) []
theorem or_raw (fu : Nat) (nl : Option Bool) (n : Nat) (c : List PV) : prun enL hOr fu false Try.f6 [.sl nl 1 n c] = bif decide (250 < (n : Int)) then some (.bool true) else orLoop0 fu fu (frOr0 .nilptr .nilptr nl n c (n : Int) 0) := prunN_eq.trans (by kernel_rfl)
def keyX (k : Int) : Ky := [UInt8.ofNat k.toNat, 120]
def orR (fu : Nat) (nl : Option Bool) (n : Nat) (c : List PV) (L i : Int) (x y : PV) (T : PV → PV → Option PV) (K : PV → PV → Int → Option PV) : Option PV :=
  bif decide (i < L) then u8At n c i fun k => (hTPut gPuA).F [[x]] [.ptr 0 0, .str (keyX k), .int .i64 (IntKind.i64.wrap (IntKind.i64.wrap k * 3))] fun bs _ => on1 bs fun x' =>
    u8At n c (IntKind.i64.wrap (IntKind.i64.wrap ((n : Int) - 1) - i)) fun o => (hTPut gPuA).F [[y]] [.ptr 0 0, .str (keyX o), .int .i64 (IntKind.i64.wrap (IntKind.i64.wrap o * 3))] fun bs _ => on1 bs fun y' => K x' y' (IntKind.i64.wrap (i + 1))
  else T x y
/-- a round of a loop: what follows the loop's block is not looked at -/
def stepG {R : Type} (e : Env) (h : Hints) (fu : Nat) (kr : St → Option R) (fn : Func) (path : List Nat) (nm : List Nat → Nat → St → Option R) (cur : Nat) (kx : List (Nat × (St → Option R))) (st : St) (k : St → Option R) : Option R :=
  pcodeN e h fu kr nm (subC (path ++ [0]) (fn.body.getD .skip)) (path ++ [0]).reverse cur st k (kx.map fun p => (p.1, fun st => pnorm (h.block.lookup p.1) st p.2))
section
variable {R : Type} (e : Env) (h : Hints) (fu : Nat) (kr : St → Option R) (nm : List Nat → Nat → St → Option R)
/-- a code up to a place in it: what follows from there on is not looked at -/
def pcodeU (KM : St → Option R) : List Nat → Code → List Nat → Nat → St → (St → Option R) → List (Nat × (St → Option R)) → Option R
  | [], _, _, _, st, _, _ => KM st
  | 0 :: p, .seq a b, acc, cur, st, kn, kx => pcodeU KM p a (0 :: acc) cur st (fun st' => pcodeN e h fu kr nm b (1 :: acc) cur st' kn kx) kx
  | _ :: p, .seq a b, acc, cur, st, kn, kx => pcodeN e h fu kr nm a (0 :: acc) cur st (fun st' => pcodeU KM p b (1 :: acc) cur st' kn kx) kx
  | _ :: p, .block id a, acc, _, st, kn, kx => pcodeU KM p a (0 :: acc) id st (fun st' => pnorm (h.block.lookup id) st' kn) ((id, fun st' => pnorm (h.block.lookup id) st' kn) :: kx)
  | _, c, acc, cur, st, kn, kx => pcodeN e h fu kr nm c acc cur st kn kx
/-- what follows from there on -/
def restAt : List Nat → Code → List Nat → Nat → (St → Option R) → List (Nat × (St → Option R)) → St → Option R
  | [], c, acc, cur, kn, kx => fun st => pcodeN e h fu kr nm c acc cur st kn kx
  | 0 :: p, .seq a b, acc, cur, kn, kx => restAt p a (0 :: acc) cur (fun st' => pcodeN e h fu kr nm b (1 :: acc) cur st' kn kx) kx
  | _ :: p, .seq _ b, acc, cur, kn, kx => restAt p b (1 :: acc) cur kn kx
  | _ :: p, .block id a, acc, _, kn, kx => restAt p a (0 :: acc) id (fun st' => pnorm (h.block.lookup id) st' kn) ((id, fun st' => pnorm (h.block.lookup id) st' kn) :: kx)
  | _, _, _, _, _, _ => fun _ => none
theorem pcodeU_rest : ∀ (p : List Nat) (c : Code) (acc : List Nat) (cur : Nat) (st : St) (kn : St → Option R) (kx : List (Nat × (St → Option R))),
    pcodeN e h fu kr nm c acc cur st kn kx = pcodeU e h fu kr nm (restAt e h fu kr nm p c acc cur kn kx) p c acc cur st kn kx
  | [], c, acc, cur, st, kn, kx => by cases c <;> rfl
  | 0 :: p, .seq a b, acc, cur, st, kn, kx => pcodeU_rest p a (0 :: acc) cur st _ kx
  | (n + 1) :: p, .seq a b, acc, cur, st, kn, kx => by
    show pcodeN e h fu kr nm a (0 :: acc) cur st (fun st' => pcodeN e h fu kr nm b (1 :: acc) cur st' kn kx) kx = pcodeN e h fu kr nm a (0 :: acc) cur st (fun st' => pcodeU e h fu kr nm (restAt e h fu kr nm p b (1 :: acc) cur kn kx) p b (1 :: acc) cur st' kn kx) kx
    congr 1
    funext st'
    exact pcodeU_rest p b (1 :: acc) cur st' kn kx
  | n :: p, .block id a, acc, cur, st, kn, kx => by cases n <;> exact pcodeU_rest p a (0 :: acc) id st (fun st' => pnorm (h.block.lookup id) st' kn) ((id, fun st' => pnorm (h.block.lookup id) st' kn) :: kx)
  | n :: p, .skip, acc, cur, st, kn, kx => by cases n <;> rfl
  | n :: p, .region _ _ _, acc, cur, st, kn, kx => by cases n <;> rfl
  | n :: p, .cond _ _ _, acc, cur, st, kn, kx => by cases n <;> rfl
  | n :: p, .loop _, acc, cur, st, kn, kx => by cases n <;> rfl
  | n :: p, .exit _, acc, cur, st, kn, kx => by cases n <;> rfl
  | n :: p, .ret, acc, cur, st, kn, kx => by cases n <;> rfl
  | n :: p, .label _, acc, cur, st, kn, kx => by cases n <;> rfl
  | n :: p, .rangeFunc _ _ _ _, acc, cur, st, kn, kx => by cases n <;> rfl
  | n :: p, .scope _, acc, cur, st, kn, kx => by cases n <;> rfl
  | n :: p, .goto _, acc, cur, st, kn, kx => by cases n <;> rfl
  | n :: p, .refuse _, acc, cur, st, kn, kx => by cases n <;> rfl
variable (fn : Func) (path : List Nat) (cur : Nat) (kx : List (Nat × (St → Option R)))
/-- a round of a loop up to a place in it, and what follows -/
def stepU (p : List Nat) (KM : St → Option R) (st : St) (k : St → Option R) : Option R :=
  pcodeU e h fu kr nm KM p (subC (path ++ [0]) (fn.body.getD .skip)) (path ++ [0]).reverse cur st k (kx.map fun p => (p.1, fun st => pnorm (h.block.lookup p.1) st p.2))
def restG (p : List Nat) (k : St → Option R) : St → Option R :=
  restAt e h fu kr nm p (subC (path ++ [0]) (fn.body.getD .skip)) (path ++ [0]).reverse cur k (kx.map fun p => (p.1, fun st => pnorm (h.block.lookup p.1) st p.2))
theorem stepG_U (p : List Nat) (st : St) (k : St → Option R) : stepG e h fu kr fn path nm cur kx st k = stepU e h fu kr nm fn path cur kx p (restG e h fu kr nm fn path cur kx p k) st k := pcodeU_rest ..
end
noncomputable def fOr : Func := Try.f6
noncomputable def nmF (e : Env) (h : Hints) (fu : Nat) (fn : Func) (k : St → Option PV) : List Nat → Nat → St → Option PV := fun p cur st => loopP e h fu false fn k p cur fu st
theorem or_G_11 (fu : Nat) (nl : Option Bool) (n : Nat) (c : List PV) (L i : Int) (x y : List PV) (K KN : St → Option PV) (nm : List Nat → Nat → St → Option PV) :
    stepG enL hOr fu (pfin enL false fOr) fOr [1, 1, 1, 1, 0, 1, 0] nm 0 [(0, KN)] (frOr0 (.eptr x) (.eptr y) nl n c L i) (fun st => pnorm (hOr.loop.lookup 0) st K) = orR fu nl n c L i (.eptr x) (.eptr y) (fun x y => KN (frOr1 x y nl n c)) (fun x y i => K (frOr0 x y nl n c L i)) := by kernel_rfl
theorem or_G_00 (fu : Nat) (nl : Option Bool) (n : Nat) (c : List PV) (L i : Int) (K KN : St → Option PV) (nm : List Nat → Nat → St → Option PV) :
    stepG enL hOr fu (pfin enL false fOr) fOr [1, 1, 1, 1, 0, 1, 0] nm 0 [(0, KN)] (frOr0 .nilptr .nilptr nl n c L i) (fun st => pnorm (hOr.loop.lookup 0) st K) = orR fu nl n c L i .nilptr .nilptr (fun x y => KN (frOr1 x y nl n c)) (fun x y i => K (frOr0 x y nl n c L i)) := by kernel_rfl
end Go.Proofs.Ytmacjkiamejcnaa
